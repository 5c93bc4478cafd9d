/- Slices of ints that a call makes and appends to. No condition. -/
import Derived.Test.YtblapbnplflghaaProg
import Derived.Test.YtblapbnplflghaaRow
import Derived.OwnWalk
import Derived.Maps.AppendAt
import Derived.Laws.AppendOwnNone
import Derived.Laws.OwnMore
namespace Go.Proofs.Ytblapbnplflghaa
open Go.RowKit
set_option linter.unusedVariables false
set_option linter.unusedSimpArgs false
set_option maxRecDepth 100000

/-- A slice value v that owns a row of ints, in a block from base on (or is nil). -/
def OwnI (w : World) (base : Nat) (v : Value) (xs : List Int) : Prop := w.ownsRow base 3 1 v xs.length (xs.map (Value.int .i64))

abbrev intCells : Int → List Value := fun x => [.int .i64 x]

theorem OwnI.nil (w : World) (base : Nat) : OwnI w base (.slice none 0 0) [] := World.ownsRow_nil _ _ _ _
theorem OwnI.form {w : World} {base : Nat} {v : Value} {xs : List Int} (h : OwnI w base v xs) :
    ∃ A c, v = .slice A xs.length c ∧ RowAt intCells 1 w A xs ∧ xs.length ≤ c ∧ (∀ a, A = some a → base ≤ a.block ∧ a.block < w.heap.size) := by
  obtain ⟨h1, h2⟩ := h
  rcases h2 with ⟨rfl, h0⟩ | ⟨g, cap, cur, rfl, hg, hh, hn, hm, hs, ht⟩
  · have : xs = [] := by cases xs with | nil => rfl | cons => simp at h0
    subst this
    exact ⟨none, 0, rfl, fun i hi => absurd hi (by simp), Nat.le_refl _, fun a h => by cases h⟩
  · refine ⟨_, _, rfl, fun i hi => ⟨g, 0, rfl, lt_of_block hh, fun j v hj => ?_⟩, hn, fun a h => by cases h; exact ⟨hg, lt_of_block hh⟩⟩
    obtain rfl : j = 0 := by
      rcases j with _ | j
      · rfl
      · simp [intCells] at hj
    simp [intCells] at hj
    subst hj
    have hx : (cur.toList.take (xs.length * 1))[i]? = some (Value.int .i64 xs[i]) := by rw [ht]; simp [hi]
    rw [List.getElem?_take] at hx
    split at hx
    · simp only [World.cell?, hh, Nat.mul_one, Nat.add_zero, Nat.zero_add]
      simpa using hx
    · cases hx
theorem OwnI.lt {w : World} {base : Nat} {v : Value} {xs : List Int} (h : OwnI w base v xs) : ∀ k, v.ownBlock = some k → base ≤ k ∧ k < w.heap.size := World.ownsRow.lt h
theorem OwnI.block {w w' : World} {base : Nat} {v : Value} {xs : List Int} (h : OwnI w base v xs) (hb : ∀ k, v.ownBlock = some k → w'.heap[k]? = w.heap[k]?) : OwnI w' base v xs := by
  obtain ⟨h1, h2⟩ := h
  refine ⟨h1, ?_⟩
  rcases h2 with h2 | ⟨g, cap, cur, rfl, hg, hh, r⟩
  · exact .inl h2
  · exact .inr ⟨g, cap, cur, rfl, hg, (hb g rfl).trans hh, r⟩
theorem OwnI.fr {S : Nat → Nat → Prop} {w w' : World} {base : Nat} {v : Value} {xs : List Int} (h : OwnI w base v xs) (hF : Fr S w w') (hS : ∀ k o, base ≤ k → ¬ S k o) : OwnI w' base v xs :=
  h.block fun k hk => hF.block k (h.lt k hk).2 (fun o => hS k o (h.lt k hk).1)
theorem OwnI.alloc {w : World} {base : Nat} {v : Value} {xs : List Int} (h : OwnI w base v xs) (o : Obj) : OwnI (w.alloc o) base v xs := World.ownsRow.alloc h o
theorem OwnI.drewN {w : World} {base : Nat} {v : Value} {xs : List Int} (h : OwnI w base v xs) (n : Nat) : OwnI (w.drewN n) base v xs := h
theorem OwnI.drew {w : World} {base : Nat} {v : Value} {xs : List Int} (h : OwnI w base v xs) : OwnI w.drew base v xs := h
theorem OwnI.mono {w : World} {base base' : Nat} {v : Value} {xs : List Int} (h : OwnI w base v xs) (hb : base' ≤ base) : OwnI w base' v xs := by
  obtain ⟨h1, h2⟩ := h
  refine ⟨h1, ?_⟩
  rcases h2 with h2 | ⟨g, cap, cur, rfl, hg, r⟩
  · exact .inl h2
  · exact .inr ⟨g, cap, cur, rfl, Nat.le_trans hb hg, r⟩
theorem OwnI.snoc {w : World} {base n : Nat} {v : Value} {xs : List Int} {ys : List Value} {x : Int} (h : w.ownsRow base 3 1 v n ys) (hn : n = xs.length + 1) (hy : ys = xs.map (Value.int .i64) ++ [.int .i64 x]) : OwnI w base v (xs ++ [x]) := by
  subst hn; subst hy
  unfold OwnI
  simpa using h

theorem info3 : (Try.prog.info? 3).map (fun i => (i.zero, i.size, i.bytes)) = some (some (.int .i64 0), 1, 8) := by kernel_rfl

/-- A grown row, and what stands below it. -/
theorem grown_below {w w' : World} {base : Nat} {v : Value} {xs : List Int} (h : OwnI w base v xs) (hg : w.grownBy w' v.ownBlock) (hb : base ≤ w.heap.size) : Below base w w' :=
  ⟨hg.1, hg.2, hg.3, hg.4, fun k hk => hg.5 k (by omega) (fun e => by have := h.lt k e.symm; omega)⟩

/-- append of one int onto a row of the call's own. -/
theorem append_int {w : World} {ops : Array Oper} {rest : List Oper} {o : Oper} {a : Act} {Q : Exit → Act → World → Prop} {s x : Operand} {t : TypeId} {base B : Nat} {v : Value} {xs : List Int} {z : Int}
    (hgd : o.guard = none) (ho : o.op = .call { callee := .builtin .append, args := #[s, x], argTypes := #[t, t] }) (ht : Try.prog.underlying t = some (.slice 3))
    (hs : a.eval s = v) (hown : OwnI w base v xs) (hx : a.eval x = .slice (some ⟨B, 0, none⟩) 1 1) (hc : w.cell? ⟨B, 0, none⟩ = some (.int .i64 z)) (hn : xs.length ≤ 100000000) (hb : base ≤ w.heap.size)
    (h : ∀ v' w', OwnI w' base v' (xs ++ [z]) → Below base w w' → w.grownBy w' v.ownBlock → (v'.ownBlock = v.ownBlock ∨ v'.ownBlock = some w.heap.size) → wpList Try.prog ops Q rest (a.put o.dst v') w') :
    wpList Try.prog ops Q (o :: rest) a w := by
  obtain ⟨i0, hi, hz0, hz1, hz2⟩ := info_parts info3
  refine wpList_append_own_at w hgd s x t ho base 3 i0 _ 1 8 ht hi hz0 hz1 hz2 rfl (by decide) v xs.length _ hs hown ⟨B, 0, none⟩ 1 1 [.int .i64 z] hx rfl ?_ (by simp [Value.oneCell']) (by simp only [maxLen]; omega) (by omega) hb ?_
  · intro j u hj
    obtain rfl : j = 0 := by
      rcases j with _ | j
      · rfl
      · simp at hj
    simp at hj
    subst hj
    exact hc
  · intro v' w' h1 h2 h3 h4
    exact h v' w' (OwnI.snoc h1 rfl rfl) (grown_below hown h2 hb) h2 h4
theorem cell_new1 (w : World) (x : Value) (t : TypeId) : (w.alloc (.cells #[x] t)).cell? ⟨w.heap.size, 0, none⟩ = some x := (Cel.new w #[x] t 0 x rfl).1
/-- A literal row of ints. -/
theorem row_new (w : World) (cs : Array Value) (t : TypeId) (xs : List Int) (h : cs = (xs.map (Value.int .i64)).toArray) : RowAt intCells 1 (w.alloc (.cells cs t)) (some ⟨w.heap.size, 0, none⟩) xs := by
  intro i hi
  refine ⟨w.heap.size, 0, rfl, by simp, fun j v hj => ?_⟩
  obtain rfl : j = 0 := by
    rcases j with _ | j
    · rfl
    · simp [intCells] at hj
  simp [intCells] at hj
  subst hj
  subst h
  exact (Cel.new w _ t _ _ (by simp [hi])).1
theorem RowAt.nil (w : World) (A : Option Addr) : RowAt intCells 1 w A [] := fun i hi => absurd hi (by simp)

theorem OwnI.lit (w : World) (base : Nat) (hb : base ≤ w.heap.size) (xs : List Int) (cs : Array Value) (h : cs = (xs.map (Value.int .i64)).toArray) (hn : xs.length ≤ maxLen) : OwnI (w.alloc (.cells cs 3)) base (.slice (some ⟨w.heap.size, 0, none⟩) xs.length xs.length) xs := by
  subst h
  have := World.ownsRow_lit (base := base) (e := 3) (size := 1) w (xs.map (Value.int .i64)).toArray xs.length hb hn (by simp)
  unfold OwnI
  simpa using this

/-- Another row of the call's own stays as it is where this one grows. -/
theorem OwnI.beside {w w' : World} {b2 : Nat} {v1 v2 : Value} {ys : List Int} (h : OwnI w b2 v2 ys) (hg : w.grownBy w' v1.ownBlock) (hne : v1.ownBlock ≠ v2.ownBlock ∨ v1.ownBlock = none) : OwnI w' b2 v2 ys :=
  h.block fun k hk => hg.5 k (h.lt k hk).2 (fun e => by
    rcases hne with h1 | h1
    · exact h1 (e.symm.trans hk.symm)
    · rw [h1] at e; cases e)

/-- append(s, x...) of one row of the call's own onto another one. -/
theorem append_ints {w : World} {ops : Array Oper} {rest : List Oper} {o : Oper} {a : Act} {Q : Exit → Act → World → Prop} {s x : Operand} {t : TypeId} {base b2 : Nat} {v u : Value} {xs ys : List Int}
    (hgd : o.guard = none) (ho : o.op = .call { callee := .builtin .append, args := #[s, x], argTypes := #[t, t] }) (ht : Try.prog.underlying t = some (.slice 3))
    (hs : a.eval s = v) (hown : OwnI w base v xs) (hx : a.eval x = u) (hu : OwnI w b2 u ys) (hn : xs.length ≤ 100000000) (hm : ys.length ≤ 100000000) (hb : base ≤ w.heap.size)
    (h : ∀ v' w', OwnI w' base v' (xs ++ ys) → Below base w w' → w.grownBy w' v.ownBlock → (v'.ownBlock = v.ownBlock ∨ v'.ownBlock = some w.heap.size) → wpList Try.prog ops Q rest (a.put o.dst v') w') :
    wpList Try.prog ops Q (o :: rest) a w := by
  obtain ⟨i0, hi, hz0, hz1, hz2⟩ := info_parts info3
  rcases hu.2 with ⟨rfl, h0⟩ | ⟨g, cap, cur, rfl, hg, hh, r1, r2, r3, r4⟩
  · have : ys = [] := List.eq_nil_of_length_eq_zero h0
    subst this
    refine wpList_append_own_none hgd s x t ho base 3 i0 1 ht hi v xs.length _ hs hown hx ?_
    exact h v w (by rw [List.append_nil]; exact hown) (Below.refl _ _) (World.grownBy.refl _ _) (.inl rfl)
  · refine wpList_append_own_at w hgd s x t ho base 3 i0 _ 1 8 ht hi hz0 hz1 hz2 rfl (by decide) v xs.length _ hs hown ⟨g, 0, none⟩ ys.length cap (ys.map (Value.int .i64)) hx (by simp) ?_ (by intro u hu; obtain ⟨z, _, rfl⟩ := List.mem_map.1 hu; rfl) (by simp only [maxLen]; omega) (by omega) hb ?_
    · intro j u hj
      rw [← r4] at hj
      have hj2 : j < ys.length * 1 ∧ cur.toList[j]? = some u := by
        rw [List.getElem?_take] at hj
        split at hj
        · exact ⟨by assumption, hj⟩
        · cases hj
      have e : (⟨g, 0, none⟩ : Addr).add j = ⟨g, j, none⟩ := by unfold Addr.add; split <;> simp_all
      rw [e]
      simp only [World.cell?, hh]
      simpa using hj2.2
    · intro v' w' h1 h2 h3 h4
      refine h v' w' ?_ (grown_below hown h2 hb) h2 h4
      unfold OwnI
      rw [List.length_append, List.map_append]
      exact h1

theorem OwnI.row {w : World} {base n c : Nat} {A : Option Addr} {xs : List Int} (h : OwnI w base (.slice A n c) xs) : RowAt intCells 1 w A xs ∧ n = xs.length := by
  obtain ⟨A', c', e, r, _⟩ := h.form
  injection e with e1 e2 e3
  subst e1
  exact ⟨r, e2⟩
theorem OwnI.slice {w : World} {base : Nat} {v : Value} {xs : List Int} (h : OwnI w base v xs) : ∃ A c, v = .slice A xs.length c := by
  obtain ⟨A', c', e, r, _⟩ := h.form
  exact ⟨A', c', e⟩

theorem run_append_none0 {w : World} (base : Nat) (t ty e : TypeId) (i : TypeInfo) (size c : Nat) (ht : Try.prog.underlying t = some (.slice e)) (hi : Try.prog.info? e = some i)
    (v : Value) (n : Nat) (xs : List Value) (hown : w.ownsRow base e size v n xs) :
    (Builtin.append_ #[t, t] ty #[v, .slice none 0 c]).run Try.prog w = .ok v w := by
  rcases hown.2 with ⟨rfl, rfl⟩ | ⟨g, cap, cur, rfl, _, _, hnc, _⟩
  · simp [Builtin.append_, run_underlying ht, sizeOf, typeInfo, hi, Builtin.lenOf, Builtin.firstCells]
  · simp [Builtin.append_, run_underlying ht, sizeOf, typeInfo, hi, Builtin.lenOf, Builtin.firstCells, hnc, storeCells]

/-- append(s, x...) of a slice that is there onto a row of the call's own. -/
theorem append_row {w : World} {ops : Array Oper} {rest : List Oper} {o : Oper} {a : Act} {Q : Exit → Act → World → Prop} {s x : Operand} {t : TypeId} {base n c : Nat} {A : Option Addr} {v : Value} {xs ys : List Int}
    (hgd : o.guard = none) (ho : o.op = .call { callee := .builtin .append, args := #[s, x], argTypes := #[t, t] }) (ht : Try.prog.underlying t = some (.slice 3))
    (hs : a.eval s = v) (hown : OwnI w base v xs) (hx : a.eval x = .slice A n c) (hu : RowAt intCells 1 w A ys) (hny : n = ys.length) (hn : xs.length ≤ 100000000) (hm : ys.length ≤ 100000000) (hb : base ≤ w.heap.size)
    (h : ∀ v' w', OwnI w' base v' (xs ++ ys) → Below base w w' → w.grownBy w' v.ownBlock → (v'.ownBlock = v.ownBlock ∨ v'.ownBlock = some w.heap.size) → wpList Try.prog ops Q rest (a.put o.dst v') w') :
    wpList Try.prog ops Q (o :: rest) a w := by
  subst hny
  obtain ⟨i0, hi, hz0, hz1, hz2⟩ := info_parts info3
  cases A with
  | none =>
    have : ys = [] := by
      cases ys with
      | nil => rfl
      | cons y t => obtain ⟨_, _, e, _⟩ := hu 0 (by simp); cases e
    subst this
    refine wpList_plain hgd fun K hK => ?_
    have hrun := run_append_none0 (w := w) base t o.type 3 i0 1 c ht hi v xs.length _ hown
    unfold Oper.wp
    simp [execOp, ho, resolve, invoke, builtin, hs, hx, hrun, Result.andThen]
    exact hK _ _ (h v w (by rw [List.append_nil]; exact hown) (Below.refl _ _) (World.grownBy.refl _ _) (.inl rfl))
  | some ad =>
    refine wpList_append_own_at w hgd s x t ho base 3 i0 _ 1 8 ht hi hz0 hz1 hz2 rfl (by decide) v xs.length _ hs hown ad ys.length c (ys.map (Value.int .i64)) hx (by simp) ?_ (by intro u hu; obtain ⟨z, _, rfl⟩ := List.mem_map.1 hu; rfl) (by simp only [maxLen]; omega) (by omega) hb ?_
    · intro j u hj
      have hj2 : j < ys.length := by
        apply Classical.byContradiction
        intro hh
        rw [List.getElem?_eq_none (by simp; omega)] at hj; cases hj
      simp [hj2] at hj
      subst hj
      obtain ⟨b, off, e, _, hc⟩ := hu j hj2
      injection e with e
      subst e
      have e : (⟨b, off, none⟩ : Addr).add j = ⟨b, off + j, none⟩ := by unfold Addr.add; split <;> simp_all
      rw [e]
      have := hc 0 _ rfl
      simpa using this
    · intro v' w' h1 h2 h3 h4
      refine h v' w' ?_ (grown_below hown h2 hb) h2 h4
      unfold OwnI
      rw [List.length_append, List.map_append]
      exact h1
end Go.Proofs.Ytblapbnplflghaa
