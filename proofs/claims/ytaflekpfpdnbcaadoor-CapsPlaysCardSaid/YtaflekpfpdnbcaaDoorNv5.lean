/- CapsNever: the plain law. -/
import Derived.Test.YtaflekpfpdnbcaaDoorRe5
namespace Go.Proofs.YtaflekpfpdnbcaaDoor
open Go.RowKit
set_option linter.unusedVariables false
set_option linter.unusedSimpArgs false
set_option linter.unusedSectionVars false
set_option maxRecDepth 100000

theorem findP_slot {P : List Pc} {h : Nat} (hs : h / 256 % 65536 < P.length) : findP P h = if P[h / 256 % 65536].is = true ∧ P[h / 256 % 65536].gen = h / 16777216 ∧ P[h / 256 % 65536].rights = h % 256 then some (h / 256 % 65536) else none := by
  unfold findP; rw [dif_pos hs]
theorem findP_out {P : List Pc} {h : Nat} (hs : ¬ h / 256 % 65536 < P.length) : findP P h = none := by
  unfold findP; rw [dif_neg hs]
theorem findP_set_ne {P : List Pc} {h j : Nat} (x : Pc) (hj : h / 256 % 65536 ≠ j) : findP (P.set j x) h = findP P h := by
  by_cases hs : h / 256 % 65536 < P.length
  · rw [findP_slot hs, findP_slot (by rw [List.length_set]; exact hs)]
    simp only [List.getElem_set_ne (Ne.symm hj)]
  · rw [findP_out hs, findP_out (by rw [List.length_set]; exact hs)]
theorem findP_set_eq {P : List Pc} {h j : Nat} (x : Pc) (hj : h / 256 % 65536 = j) (hl : j < P.length) : findP (P.set j x) h = if x.is = true ∧ x.gen = h / 16777216 ∧ x.rights = h % 256 then some j else none := by
  subst hj
  rw [findP_slot (by rw [List.length_set]; exact hl)]
  simp only [List.getElem_set_self]
theorem findP_mint {P : List Pc} {j : Nat} (hl : j < P.length) (hj : j < 65536) (hf : P[j].is = false) {k i : Int} {r : Nat} (hr : r < 256) (h : Nat) :
    findP (P.set j (minted P[j] k i r)) h = if h = (P[j].gen + 1) * 16777216 + j * 256 + r then some j else findP P h := by
  by_cases hs : h / 256 % 65536 = j
  · rw [findP_set_eq _ hs hl]
    have h0 : findP P h = none := by
      rw [findP_slot (by rw [hs]; exact hl), if_neg]
      rintro ⟨a, -⟩
      simp only [hs] at a
      rw [hf] at a; cases a
    rw [h0]
    by_cases e : h = (P[j].gen + 1) * 16777216 + j * 256 + r
    · rw [if_pos e, if_pos]
      refine ⟨rfl, ?_, ?_⟩
      · show P[j].gen + 1 = _; omega
      · show r = _; omega
    · rw [if_neg e, if_neg]
      rintro ⟨-, b, c⟩
      replace b : P[j].gen + 1 = h / 16777216 := b
      replace c : r = h % 256 := c
      omega
  · rw [findP_set_ne _ hs, if_neg]
    intro e
    omega
theorem findP_off {P : List Pc} {h0 s : Nat} (e : findP P h0 = some s) (h : Nat) : findP (P.set s P[s]!.off) h = if h = h0 then none else findP P h := by
  obtain ⟨e1, hs, his, hg, hr⟩ := findP_some e
  by_cases hh : h / 256 % 65536 = s
  · rw [findP_set_eq _ hh hs, if_neg (by rintro ⟨a, -⟩; cases a)]
    by_cases e2 : h = h0
    · rw [if_pos e2]
    · rw [if_neg e2, findP_slot (by rw [hh]; exact hs), if_neg]
      rintro ⟨-, b, c⟩
      simp only [hh] at b c
      omega
  · rw [findP_set_ne _ hh, if_neg]
    intro e2
    subst e2
    exact hh e1.symm
/-- What CapsNever's state tells. -/
structure NvI (P : List Pc) (most : Nat) (made : List Nat) (f : Int → Int) : Prop where
  pc : ∀ x ∈ P, x.Ok most
  most : most ≤ 16777215
  len : P.length ≤ 256
  b64 : ∀ h ∈ made, h < 18446744073709551616
  i1 : ∀ h ∈ made, ∃ hi : h / 256 % 65536 < P.length, h / 16777216 ≤ P[h / 256 % 65536].gen
  i2 : ∀ h : Nat, f h ≠ 0 → h ∈ made
  i3 : ∀ h : Nat, f h = 1 ↔ (findP P h).isSome = true
  nd : made.Nodup
  ct : made.countP (fun h => (findP P h).isSome) = P.countP Pc.is
theorem countP_less {α : Type} [DecidableEq α] {p q : α → Bool} {x : α} : ∀ {l : List α}, l.Nodup → x ∈ l → p x = true → (∀ y, q y = (decide (y ≠ x) && p y)) → l.countP q + 1 = l.countP p
  | a :: t, hn, hx, hp, hq => by
    obtain ⟨ha, ht⟩ := List.nodup_cons.1 hn
    by_cases e : a = x
    · subst e
      have h1 : q a = false := by rw [hq]; simp
      have h2 : t.countP q = t.countP p := by
        apply List.countP_congr
        intro y hy
        rw [hq]
        have : y ≠ a := fun e => ha (e ▸ hy)
        simp [this]
      rw [List.countP_cons_of_neg (by simp [h1]), List.countP_cons_of_pos hp, h2]
    · have hx2 : x ∈ t := by
        rcases List.mem_cons.1 hx with h | h
        · exact absurd h.symm e
        · exact h
      have ih := countP_less ht hx2 hp hq
      have h1 : q a = p a := by rw [hq]; simp [e]
      rw [List.countP_cons, List.countP_cons, h1]
      omega
theorem NvI.start (room most : Nat) (hr : room ≤ 256) (hm : most ≤ 16777215) : NvI (List.replicate room Pc.new) most [] (fun _ => 0) := by
  refine ⟨fun x hx => ?_, hm, by simp; exact hr, fun h hh => by simp at hh, fun h hh => by simp at hh, fun h hh => absurd rfl hh, fun h => ?_, List.nodup_nil, ?_⟩
  · rw [(List.mem_replicate.1 hx).2]
    exact ⟨Nat.zero_le _, fun e => by cases e⟩
  · constructor
    · intro e; cases e
    · intro e
      by_cases hs : h / 256 % 65536 < (List.replicate room Pc.new).length
      · rw [findP_slot hs, if_neg] at e
        · cases e
        · rintro ⟨a, -⟩
          rw [List.getElem_replicate] at a
          cases a
      · rw [findP_out hs] at e; cases e
  · rw [List.countP_nil, eq_comm, List.countP_eq_zero]
    intro x hx
    rw [(List.mem_replicate.1 hx).2]
    decide
section
variable {P : List Pc} {most : Nat} {made : List Nat} {f : Int → Int}
theorem NvI.mint (h : NvI P most made f) {j : Nat} (hl : j < P.length) (hf : P[j].full most = false) (k i : Int) {r : Nat} (hr : r < 256) {hn : Nat} (en : hn = (P[j].gen + 1) * 16777216 + j * 256 + r) :
    f hn = 0 ∧ hn < 18446744073709551616 ∧ NvI (P.set j (minted P[j] k i r)) most (made ++ [hn]) (fun x => if x = (hn : Int) then 1 else f x) := by
  have hfull : P[j].is = false ∧ P[j].gen < most := by
    unfold Pc.full at hf
    simp at hf
    exact ⟨hf.1, by omega⟩
  have hj : j < 65536 := by have := h.len; omega
  have hm := h.most
  have s1 : hn / 256 % 65536 = j := by omega
  have s2 : hn / 16777216 = P[j].gen + 1 := by omega
  have hnot : hn ∉ made := fun hm => by
    obtain ⟨a, b⟩ := h.i1 hn hm
    simp only [s1] at b
    omega
  have fm := findP_mint hl hj hfull.1 (k := k) (i := i) hr
  simp only [← en] at fm
  have hb : hn < 18446744073709551616 := by omega
  refine ⟨Classical.byContradiction fun e => hnot (h.i2 hn e), hb, ?_, hm, by rw [List.length_set]; exact h.len, ?_, ?_, ?_, ?_, ?_, ?_⟩
  · intro x hx
    rcases List.mem_or_eq_of_mem_set hx with hx | rfl
    · exact h.pc x hx
    · exact ⟨by show P[j].gen + 1 ≤ most; omega, fun _ => ⟨Nat.succ_pos _, hr⟩⟩
  · intro y hy
    rcases List.mem_append.1 hy with hy | hy
    · exact h.b64 y hy
    · have : y = hn := by simpa using hy
      rw [this]; exact hb
  · intro y hy
    rcases List.mem_append.1 hy with hy | hy
    · obtain ⟨a, b⟩ := h.i1 y hy
      refine ⟨by rw [List.length_set]; exact a, ?_⟩
      rw [List.getElem_set]
      split
      · rename_i e
        simp only [← e] at b
        show _ ≤ P[j].gen + 1
        omega
      · exact b
    · have : y = hn := by simpa using hy
      subst this
      refine ⟨by rw [List.length_set, s1]; exact hl, ?_⟩
      simp only [s1, List.getElem_set_self]
      show _ ≤ P[j].gen + 1
      omega
  · intro y hy
    by_cases e : y = hn
    · rw [e]; simp
    · have e2 : ¬ ((y : Int) = (hn : Int)) := fun k => e (by omega)
      rw [if_neg e2] at hy
      exact List.mem_append_left _ (h.i2 y hy)
  · intro y
    rw [fm]
    by_cases e : y = hn
    · rw [if_pos e, if_pos (by rw [e])]; simp
    · rw [if_neg e, if_neg (fun k => e (by omega))]
      exact h.i3 y
  · rw [List.nodup_append]
    exact ⟨h.nd, by simp, fun a ha b hb e => hnot (by
      have : b = hn := by simpa using hb
      rw [← this, ← e]; exact ha)⟩
  · rw [List.countP_append]
    have c1 : made.countP (fun h => (findP (P.set j (minted P[j] k i r)) h).isSome) = made.countP (fun h => (findP P h).isSome) := by
      apply List.countP_congr
      intro y hy
      rw [fm, if_neg (fun e : y = hn => hnot (by rw [← e]; exact hy))]
    have c2 := countP_set Pc.is P j hl (minted P[j] k i r)
    rw [hfull.1, show Pc.is (minted P[j] k i r) = true from rfl] at c2
    rw [c1, h.ct]
    simp only [List.countP_cons, List.countP_nil, fm]
    simp at c2 ⊢
    omega
theorem NvI.revoke (h : NvI P most made f) {h0 : Nat} (hm : h0 ∈ made) : NvI (revP P (findP P h0)) most made (fun x => if x = (h0 : Int) then 2 else f x) := by
  cases e : findP P h0 with
  | none =>
    refine ⟨h.pc, h.most, h.len, h.b64, h.i1, fun y hy => ?_, fun y => ?_, h.nd, h.ct⟩
    · by_cases e2 : y = h0
      · rw [e2]; exact hm
      · rw [if_neg (fun k => e2 (by omega))] at hy
        exact h.i2 y hy
    · by_cases e2 : y = h0
      · subst e2
        rw [if_pos rfl]
        show _ ↔ (findP P y).isSome = true
        rw [e]; simp
      · rw [if_neg (fun k => e2 (by omega))]
        exact h.i3 y
  | some s =>
    obtain ⟨e1, hs, his, hg, hr⟩ := findP_some e
    have fo := findP_off e
    have hb : P[s]! = P[s] := by simp [hs]
    have hP : revP P (some s) = P.set s P[s]!.off := by
      show P.set s (P.getD s Pc.new).off = _
      rw [hb]; simp [hs]
    rw [hP]
    refine ⟨fun x hx => ?_, h.most, by rw [List.length_set]; exact h.len, h.b64, fun y hy => ?_, fun y hy => ?_, fun y => ?_, h.nd, ?_⟩
    · rcases List.mem_or_eq_of_mem_set hx with hx | rfl
      · exact h.pc x hx
      · rw [hb]
        exact ⟨(h.pc _ (List.getElem_mem hs)).gen, fun e => by cases e⟩
    · obtain ⟨a, b⟩ := h.i1 y hy
      refine ⟨by rw [List.length_set]; exact a, ?_⟩
      rw [List.getElem_set]
      split
      · rename_i e
        simp only [← e] at b
        rw [hb]
        exact b
      · exact b
    · by_cases e2 : y = h0
      · rw [e2]; exact hm
      · rw [if_neg (fun k => e2 (by omega))] at hy
        exact h.i2 y hy
    · rw [fo]
      by_cases e2 : y = h0
      · subst e2
        rw [if_pos rfl, if_pos rfl]; simp
      · rw [if_neg e2, if_neg (fun k => e2 (by omega))]
        exact h.i3 y
    · have c1 := countP_less (p := fun h => (findP P h).isSome) (q := fun h => (findP (P.set s P[s]!.off) h).isSome) h.nd hm (by show (findP P h0).isSome = true; rw [e]; rfl) (fun y => by
        rw [fo]
        by_cases e2 : y = h0
        · rw [if_pos e2]; simp [e2]
        · rw [if_neg e2]; simp [e2])
      have c2 := countP_set Pc.is P s hs P[s]!.off
      rw [his, show Pc.is P[s]!.off = false from rfl] at c2
      rw [h.ct] at c1
      rw [if_pos rfl, if_neg (by decide)] at c2
      omega
end
end Go.Proofs.YtaflekpfpdnbcaaDoor
