/- Slices of slices of ints. -/
import Derived.Test.YtdgcppglpmlgkaaOwn
namespace Go.Proofs.Ytdgcppglpmlgkaa
open Go.RowKit
set_option linter.unusedVariables false
set_option linter.unusedSimpArgs false

/-- At A lie the rows rs, in no block that is to be avoided. -/
def RowsAt (av : Nat → Prop) (w : World) (A : Option Addr) (rs : List (List Int)) : Prop :=
  ∀ i (h : i < rs.length), ∃ b off B c, A = some ⟨b, off, none⟩ ∧ b < w.heap.size ∧ w.cell? ⟨b, off + i, none⟩ = some (.slice B rs[i].length c) ∧ RowAt intCells 1 w B rs[i] ∧ ¬ av b ∧ ∀ b' off', B = some ⟨b', off', none⟩ → 0 < rs[i].length → ¬ av b'
theorem RowsAt.below {av : Nat → Prop} {w w' : World} {A : Option Addr} {rs : List (List Int)} (h : RowsAt av w A rs) (hb : Below w.heap.size w w') : RowsAt av w' A rs := by
  intro i hi
  obtain ⟨b, off, B, c, e, hlt, hc, hr, hlo⟩ := h i hi
  exact ⟨b, off, B, c, e, Nat.lt_of_lt_of_le hlt hb.size, (hb.cell (p := ⟨b, off + i, none⟩) hlt).trans hc, hr.below hb, hlo⟩
theorem RowsAt.fr {av : Nat → Prop} {S : Nat → Nat → Prop} {w w' : World} {A : Option Addr} {rs : List (List Int)} (h : RowsAt av w A rs) (hF : Fr S w w') (hS : ∀ k o, ¬ av k → ¬ S k o) : RowsAt av w' A rs := by
  intro i hi
  obtain ⟨b, off, B, c, e, hlt, hc, hr, hlo, hlo2⟩ := h i hi
  refine ⟨b, off, B, c, e, Nat.lt_of_lt_of_le hlt hF.size, (hF.cell b _ hlt (hS _ _ hlo)).trans hc, fun j hj => ?_, hlo, hlo2⟩
  obtain ⟨b2, off2, e2, hlt2, hc2⟩ := hr j hj
  exact ⟨b2, off2, e2, Nat.lt_of_lt_of_le hlt2 hF.size, fun k v hk => (hF.cell b2 _ hlt2 (hS _ _ (hlo2 b2 off2 e2 (by omega)))).trans (hc2 k v hk)⟩

/-- What is new is avoided too. -/
theorem RowsAt.more {av : Nat → Prop} {w : World} {A : Option Addr} {rs : List (List Int)} (h : RowsAt av w A rs) : RowsAt (fun b => av b ∨ w.heap.size ≤ b) w A rs := by
  intro i hi
  obtain ⟨b, off, B, c, e, hlt, hc, hr, h1, h2⟩ := h i hi
  refine ⟨b, off, B, c, e, hlt, hc, hr, fun hh => hh.elim h1 (fun hh => by omega), fun b' off' e' hp hh => hh.elim (h2 b' off' e' hp) (fun hh => ?_)⟩
  obtain ⟨b2, _, e2, hlt2, _⟩ := hr 0 hp
  rw [e'] at e2
  injection e2 with e2
  injection e2 with e2 _
  omega
theorem RowsAt.imp {av av' : Nat → Prop} {w : World} {A : Option Addr} {rs : List (List Int)} (h : RowsAt av w A rs) (hi : ∀ b, av' b → av b) : RowsAt av' w A rs := by
  intro i hi2
  obtain ⟨b, off, B, c, e, hlt, hc, hr, h1, h2⟩ := h i hi2
  exact ⟨b, off, B, c, e, hlt, hc, hr, fun hh => h1 (hi b hh), fun b' off' e' hp hh => h2 b' off' e' hp (hi b' hh)⟩

/-- A slice of slices in a block of the call's own; the rows themselves do not lie in it, nor in block K. -/
def OwnR (av : Nat → Prop) (w : World) (g K : Nat) (rs : List (List Int)) : Prop :=
  g < w.heap.size ∧ ¬ av g ∧ ∀ i (h : i < rs.length), ∃ B c, Cel w g i (.slice B rs[i].length c) ∧ RowAt intCells 1 w B rs[i] ∧ ∀ b off, B = some ⟨b, off, none⟩ → 0 < rs[i].length → b ≠ g ∧ b ≠ K ∧ ¬ av b
theorem OwnR.rows {w : World} {av : Nat → Prop} {g K : Nat} {rs : List (List Int)} (h : OwnR av w g K rs) : RowsAt av w (some ⟨g, 0, none⟩) rs := by
  intro i hi
  obtain ⟨B, c, h1, h2, h3⟩ := h.2.2 i hi
  exact ⟨g, 0, B, c, rfl, h.1, by rw [Nat.zero_add]; exact h1.1, h2, h.2.1, fun b' off' e hp => (h3 b' off' e hp).2.2⟩
theorem OwnR.fr {w w' : World} {av : Nat → Prop} {g K : Nat} {rs : List (List Int)} (h : OwnR av w g K rs) (hb : Below w.heap.size w w') : OwnR av w' g K rs := by
  refine ⟨Nat.lt_of_lt_of_le h.1 hb.size, h.2.1, fun i hi => ?_⟩
  obtain ⟨B, c, h1, h2, h3⟩ := h.2.2 i hi
  exact ⟨B, c, ⟨(hb.cell (p := ⟨g, i, none⟩) h.1).trans h1.1, (hb.frozen (p := ⟨g, i, none⟩) h.1).trans h1.2⟩, h2.below hb, h3⟩
/-- Row j is turned. -/
theorem OwnR.set {w : World} {av : Nat → Prop} {g K j n c : Nat} {B : Option Addr} {rs : List (List Int)} {r : List Int} (h : OwnR av w g K rs) (hr : RowAt intCells 1 w B r) (hj : j < rs.length) (hn : n = r.length) (hd2 : ∀ b off, B = some ⟨b, off, none⟩ → 0 < r.length → b ≠ g ∧ b ≠ K ∧ ¬ av b) :
    OwnR av (w.setCell ⟨g, j, none⟩ (.slice B n c)) g K (rs.set j r) := by
  subst hn
  have key : ∀ (B' : Option Addr) (l : List Int), RowAt intCells 1 w B' l → (∀ b off, B' = some ⟨b, off, none⟩ → 0 < l.length → b ≠ g ∧ b ≠ K ∧ ¬ av b) → RowAt intCells 1 (w.setCell ⟨g, j, none⟩ (.slice B r.length c)) B' l := by
    intro B' l hl hne i hi
    obtain ⟨b, off, e, hlt, hc⟩ := hl i hi
    refine ⟨b, off, e, by simpa using hlt, fun k v hk => ?_⟩
    rw [World.cell?_setCell_other _ _ _ _ (fun e2 => (hne b off e (by omega)).1 (by injection e2 with e2 _; exact e2.symm))]
    exact hc k v hk
  refine ⟨by simpa using h.1, h.2.1, fun i hi => ?_⟩
  have hi2 : i < rs.length := by simpa using hi
  by_cases hij : i = j
  · subst hij
    obtain ⟨B0, c0, h1, h2, h3⟩ := h.2.2 i hi2
    refine ⟨B, c, ?_, ?_, ?_⟩
    · simp only [List.getElem_set_self]; exact h1.same _
    · simp only [List.getElem_set_self]; exact key B r hr hd2
    · simp only [List.getElem_set_self]; exact hd2
  · obtain ⟨B0, c0, h1, h2, h3⟩ := h.2.2 i hi2
    have e : (rs.set j r)[i] = rs[i] := List.getElem_set_ne (by omega) _
    refine ⟨B0, c0, ?_, ?_, ?_⟩
    · rw [e]; exact h1.other (.inr (by omega)) _
    · rw [e]; exact key B0 _ h2 h3
    · rw [e]; exact h3

/-- Block K is written. -/
theorem OwnR.setK {w : World} {av : Nat → Prop} {g K o : Nat} {rs : List (List Int)} (h : OwnR av w g K rs) (hg : g ≠ K) (u : Value) : OwnR av (w.setCell ⟨K, o, none⟩ u) g K rs := by
  refine ⟨by simpa using h.1, h.2.1, fun i hi => ?_⟩
  obtain ⟨B, c, h1, h2, h3⟩ := h.2.2 i hi
  refine ⟨B, c, h1.other (.inl (fun e => hg e.symm)) _, fun z hz => ?_, h3⟩
  obtain ⟨b, off, e, hlt, hc⟩ := h2 z hz
  refine ⟨b, off, e, by simpa using hlt, fun k v hk => ?_⟩
  rw [World.cell?_setCell_other _ _ _ _ (fun e2 => (h3 b off e (by omega)).2.1 (by injection e2 with e2 _; exact e2.symm))]
  exact hc k v hk

theorem infoR : (Try.prog.info? 40).map (fun i => (i.zero, i.size, i.bytes)) = some (some (.slice none 0 0), 1, 24) := by kernel_rfl

/-- append([][]int{}, rows...): a copy of the row of rows, which came before the new empty one was made. -/
theorem append_copy {w0 w : World} {ops : Array Oper} {rest : List Oper} {o : Oper} {a : Act} {Q : Exit → Act → World → Prop} {s x : Operand} {t : TypeId} {v0 : Value} {A : Option Addr} {av : Nat → Prop} {m c K : Nat} {rs : List (List Int)}
    (hgd : o.guard = none) (ho : o.op = .call { callee := .builtin .append, args := #[s, x], argTypes := #[t, t] }) (ht : Try.prog.underlying t = some (.slice 40))
    (hs : a.eval s = v0) (hown : w.ownsRow w0.heap.size 40 1 v0 0 []) (hx : a.eval x = .slice A m c) (hm : m = rs.length) (hr : RowsAt av w0 A rs) (hlo : ∀ b, w0.heap.size ≤ b → ¬ av b) (hbw : Below w0.heap.size w0 w) (hpos : 0 < m) (hn : m ≤ 100000000) (hK : w0.heap.size ≤ K)
    (h : ∀ g cap w', OwnR av w' g K rs → Below w0.heap.size w w' → w0.heap.size ≤ g → m ≤ cap → w.grownBy w' v0.ownBlock → (v0.ownBlock = some g ∨ g = w.heap.size) → wpList Try.prog ops Q rest (a.put o.dst (.slice (some ⟨g, 0, none⟩) m cap)) w') :
    wpList Try.prog ops Q (o :: rest) a w := by
  subst hm
  obtain ⟨i0, hi, hz0, hz1, hz2⟩ := info_parts infoR
  obtain ⟨b, off, B, c1, rfl, hlt, hc0, hr0, _⟩ := hr 0 hpos
  have each : ∀ i, i < rs.length → ∃ u : Value, w0.cell? ⟨b, off + i, none⟩ = some u ∧ ∃ B c, u = .slice B (rs.getD i []).length c ∧ RowAt intCells 1 w0 B (rs.getD i []) ∧ ∀ b' off', B = some ⟨b', off', none⟩ → 0 < (rs.getD i []).length → ¬ av b' := by
    intro i hi
    obtain ⟨b', off', B', c', e, _, h1, h2, _, h3⟩ := hr i hi
    injection e with e
    injection e with e1 e2
    subst e1; subst e2
    refine ⟨_, h1, B', c', ?_, ?_, ?_⟩
    · simp [hi]
    · simpa [hi] using h2
    · simpa [hi] using h3
  obtain ⟨F, hF⟩ := Deep.choose_lt each
  refine wpList_append_own_at w hgd s x t ho w0.heap.size 40 i0 _ 1 24 ht hi hz0 hz1 hz2 rfl (by decide) v0 0 _ hs hown ⟨b, off, none⟩ rs.length c ((List.range rs.length).map F) hx (by simp) ?_ ?_ (by simp only [maxLen]; omega) (by omega) hbw.size ?_
  · intro j u hj
    have hj2 : j < rs.length := by
      apply Classical.byContradiction
      intro hh
      rw [List.getElem?_eq_none (by simp; omega)] at hj; cases hj
    simp [hj2] at hj
    subst hj
    have e : (⟨b, off, none⟩ : Addr).add j = ⟨b, off + j, none⟩ := by unfold Addr.add; split <;> simp_all
    rw [e]
    exact (hbw.cell (p := ⟨b, off + j, none⟩) hlt).trans (hF j hj2).1
  · intro u hu
    obtain ⟨i, hi, rfl⟩ := List.mem_map.1 hu
    obtain ⟨B, c, e, _⟩ := (hF i (by simpa using hi)).2
    rw [e]; rfl
  · intro v' w' h1 h2 h3 h4
    have hB : Below w0.heap.size w w' := ⟨h2.1, h2.2, h2.3, h2.4, fun k hk => h2.5 k (Nat.lt_of_lt_of_le hk hbw.size) (fun e => by have := World.ownsRow.lt hown k e.symm; omega)⟩
    have hB0 := hbw.trans hB
    obtain ⟨k1, k2⟩ := h1
    rcases k2 with ⟨rfl, h0⟩ | ⟨g, cap, cur, rfl, hg, hh, r1, r2, r3, r4⟩
    · omega
    · simp only [Nat.zero_add] at *
      have hcur : ∀ i, i < rs.length → cur[i]? = some (F i) := by
        intro i hi
        have : (cur.toList.take (rs.length * 1))[i]? = some (F i) := by rw [r4]; simp [hi]
        rw [List.getElem?_take] at this
        split at this
        · simpa using this
        · cases this
      refine h g cap w' ⟨lt_of_block hh, hlo g hg, fun i hi => ?_⟩ hB hg r1 h2 (h4.imp (fun e => e.symm) (fun e => by simpa [Value.ownBlock] using e))
      obtain ⟨hc, B, c, e, hr, hl3⟩ := hF i hi
      have eD : rs.getD i [] = rs[i] := by simp [hi]
      rw [eD] at e hr hl3
      refine ⟨B, c, ?_, hr.below hB0, ?_⟩
      · rw [← e]
        refine ⟨?_, ?_⟩
        · simp only [World.cell?, hh]; exact hcur i hi
        · simp [World.frozen?, hh]
      · intro b' off' e' hp
        obtain ⟨b'', off'', e'', hlt', _⟩ := hr 0 hp
        rw [e'] at e''
        injection e'' with e''
        injection e'' with e1 _
        exact ⟨by omega, by omega, hl3 b' off' e' hp⟩
end Go.Proofs.Ytdgcppglpmlgkaa
