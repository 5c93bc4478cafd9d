/- append of rows of structs inside a region that draws its order. No condition. -/
import Derived.Test.YtaflekpfpdnbcaaDoorOwnE
import Derived.Deep.RegionHeld3
import Derived.Deep.RegionLaw
namespace Go.Proofs.YtaflekpfpdnbcaaDoor
open Go.RowKit
set_option linter.unusedVariables false
set_option linter.unusedSimpArgs false
set_option maxRecDepth 100000
section
variable {α : Type} {E : Enc α}
/-- The append as an equation. -/
theorem append_rowE_run {w : World} {base n c : Nat} {A : Option Addr} {v : Value} {xs ys : List α} {t ty : TypeId} (ht : Tryd.prog.underlying t = some (.slice E.t))
    (hown : OwnE E w base v xs) (hu : RowAt E.f E.sz w A ys) (hny : n = ys.length) (hn : xs.length ≤ 10000000) (hm : ys.length ≤ 10000000) (hb : base ≤ w.heap.size) :
    ∃ v' w', (Builtin.append_ #[t, t] ty #[v, .slice A n c]).run Tryd.prog w = .ok v' w' ∧ OwnE E w' base v' (xs ++ ys) ∧ Below base w w' ∧ w.grownBy w' v.ownBlock ∧ (v'.ownBlock = v.ownBlock ∨ v'.ownBlock = some w.heap.size) := by
  subst hny
  obtain ⟨i0, hi, hz0, hz1, hz2⟩ := info_parts E.info
  cases A with
  | none =>
    have : ys = [] := by
      cases ys with
      | nil => rfl
      | cons y t => obtain ⟨_, _, e, _⟩ := hu 0 (by simp); cases e
    subst this
    exact ⟨v, w, run_append_none0 (w := w) base t ty E.t i0 E.sz c ht hi v xs.length _ hown, by rw [List.append_nil]; exact hown, Below.refl _ _, World.grownBy.refl _ _, .inl rfl⟩
  | some ad =>
    have hsm := E.small
    have hpos := E.pos
    obtain ⟨v', w', hr, h1, h2, h3, h4⟩ := run_append_own_at (P := Tryd.prog) w base t ty E.t i0 _ E.sz E.bytes ht hi hz0 hz1 hz2 E.zs E.pos v xs.length _ hown ad ys.length c (E.row ys) (Enc.row_length ys)
      (by
        intro j u hj
        have hj2 : j < ys.length * E.sz := by
          apply Classical.byContradiction
          intro hh
          rw [List.getElem?_eq_none (by rw [Enc.row_length]; omega)] at hj; cases hj
        have e1 : j / E.sz * E.sz + j % E.sz = j := Nat.div_add_mod' j E.sz
        have e2 : j % E.sz < E.sz := Nat.mod_lt _ hpos
        have e3 : j / E.sz < ys.length := (Nat.div_lt_iff_lt_mul hpos).2 hj2
        rw [← e1, Enc.row_at ys _ _ e3 e2] at hj
        obtain ⟨b, off, e, _, hc⟩ := hu _ e3
        injection e with e
        subst e
        have e : (⟨b, off, none⟩ : Addr).add j = ⟨b, off + j, none⟩ := by unfold Addr.add; split <;> simp_all
        rw [e]
        have := hc _ _ hj
        rw [Nat.add_assoc, e1] at this
        exact this)
      (by
        intro u hu
        unfold Enc.row at hu
        rw [List.mem_flatMap] at hu
        obtain ⟨y, _, hy⟩ := hu
        exact E.one y u hy)
      (by simp only [maxLen]; omega) (by have := Nat.mul_le_mul (show xs.length + ys.length ≤ 20000000 by omega) hsm; omega) hb
    refine ⟨v', w', hr, ?_, grownE_below hown h2 hb, h2, h4⟩
    unfold OwnE
    rw [List.length_append, Enc.row_append]
    exact h1

theorem rowAt_grown {w w' : World} {B : Nat} {row : Option Nat} {ys : List α} (h : RowAt E.f E.sz w (some ⟨B, 0, none⟩) ys) (hg : w.grownBy w' row) (hne : row ≠ some B) : RowAt E.f E.sz w' (some ⟨B, 0, none⟩) ys := by
  intro i hi
  obtain ⟨b, off, e, hlt, hc⟩ := h i hi
  injection e with e
  injection e with e1 e2
  subst e1; subst e2
  exact ⟨B, 0, rfl, Nat.lt_of_lt_of_le hlt hg.4, fun j v hj => (World.cell?_of_block (hg.5 B hlt (fun e => hne e.symm))).trans (hc j v hj)⟩
theorem own_ne {w : World} {base : Nat} {v : Value} {xs : List α} (h : OwnE E w base v xs) {B : Nat} (hB : w.heap.size ≤ B) : v.ownBlock ≠ some B := fun e => by
  have := h.lt B e; omega

/-- .. as one step of a region that draws. -/
theorem step_append_rowE {w : World} {ops : Array Oper} {o : Oper} {a : Act} {K : Act → World → Prop} {Q : Exit → Act → World → Prop} {X : Prop} {s x : Operand} {t : TypeId} {base n c : Nat} {A : Option Addr} {v : Value} {xs ys : List α}
    (hgd : o.guard = none) (ho : o.op = .call { callee := .builtin .append, args := #[s, x], argTypes := #[t, t] }) (ht : Tryd.prog.underlying t = some (.slice E.t))
    (hs : a.eval s = v) (hown : OwnE E w base v xs) (hx : a.eval x = .slice A n c) (hu : RowAt E.f E.sz w A ys) (hny : n = ys.length) (hn : xs.length ≤ 10000000) (hm : ys.length ≤ 10000000) (hb : base ≤ w.heap.size)
    (h : ∀ v' w', OwnE E w' base v' (xs ++ ys) → Below base w w' → w.grownBy w' v.ownBlock → (v'.ownBlock = v.ownBlock ∨ v'.ownBlock = some w.heap.size) → K (a.put o.dst v') w') :
    if Region.wanted o (yielded ops a.tmps) = true then Oper.wp Tryd.prog o a w K Q else X := by
  have hw : Region.wanted o (yielded ops a.tmps) = true := by simp [Region.wanted, hgd]
  rw [if_pos hw]
  obtain ⟨v', w', hrun, h1, h2, h3, h4⟩ := append_rowE_run (c := c) (ty := o.type) ht hown hu hny hn hm hb
  unfold Oper.wp
  simp [execOp, ho, resolve, invoke, builtin, hs, hx, hrun, Result.andThen]
  exact h _ _ h1 h2 h3 h4
end
end Go.Proofs.YtaflekpfpdnbcaaDoor
