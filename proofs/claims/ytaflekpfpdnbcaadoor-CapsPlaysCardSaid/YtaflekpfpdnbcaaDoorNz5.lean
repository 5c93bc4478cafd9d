/- CapsNever: the state. -/
import Derived.Test.YtaflekpfpdnbcaaDoorNv5
import Derived.Test.YtaflekpfpdnbcaaDoorOp5
import Derived.Test.YtaflekpfpdnbcaaDoorMapC
namespace Go.Proofs.YtaflekpfpdnbcaaDoor
open Go.RowKit Go.Maps
set_option linter.unusedVariables false
set_option linter.unusedSimpArgs false
set_option linter.unusedSectionVars false
set_option maxRecDepth 100000

def kU : KEnc Int := ⟨23, int_keyed Tryd.underlying23, fun x => .int .u64 x, fun x y h => by injection h, fun x => trivial⟩
theorem keyU {k : Nat} (h : k < 18446744073709551616) : keyOf Tryd.prog kU.kt (.int .u64 (k : Int)) = some (kU.lit (k : Int)) := keyOf_int_mk Tryd.underlying23 (by
  have h1 : IntKind.u64.min ≤ (k : Int) ∧ (k : Int) ≤ IntKind.u64.max := by
    rw [show IntKind.u64.min = 0 by decide, show IntKind.u64.max = 18446744073709551615 by decide]; omega
  simpa [Lit.wf] using h1)
/-- The table, the map of states in block mb, and the row of all handles, which lies from mb on. -/
structure NvS (w wr : World) (T : TD) (P : List Pc) (most mb n : Nat) (ks : List Int) (v : Value) (made : List Nat) (f : Int → Int) : Prop where
  S : TabW w wr T P most
  M : IsC kU wr mb n f ks
  V : OwnE uE wr (mb + 1) v (made.map fun h : Nat => (h : Int))
  I : NvI P most made f
  no : ∀ k, mb ≤ k → T.No k ∧ k ≠ T.r
  lo : w.heap.size ≤ mb
section
variable {w wr w' : World} {T : TD} {P P' : List Pc} {most mb n : Nat} {ks : List Int} {v : Value} {made made' : List Nat} {f f' : Int → Int}
theorem NvS.below (h : NvS w wr T P most mb n ks v made f) (F : Below wr.heap.size wr w') : NvS w w' T P most mb n ks v made f :=
  ⟨h.S.below F, h.M.block (F.block _ h.M.lt), h.V.below F, h.I, h.no, h.lo⟩
theorem NvS.drew (h : NvS w wr T P most mb n ks v made f) : NvS w wr.drew T P most mb n ks v made f := h.below ⟨rfl, rfl, rfl, Nat.le_refl _, fun _ _ => rfl⟩
/-- The table has turned; what is told of it is laid anew. -/
theorem NvS.table (h : NvS w wr T P most mb n ks v made f) (k : TabW w w' T P' most) (F : FrC T.F wr w') : TabW w w' T P' most ∧ IsC kU w' mb n f ks ∧ OwnE uE w' (mb + 1) v (made.map fun h : Nat => (h : Int)) :=
  ⟨k, h.M.block (F.block _ h.M.lt (h.no mb (Nat.le_refl _)).1.not), h.V.block (fun q hq => F.block q (h.V.lt q hq).2 (h.no q (by have := (h.V.lt q hq).1; omega)).1.not)⟩
/-- The same without what it tells. -/
structure NvT (w wr : World) (T : TD) (P : List Pc) (most mb n : Nat) (ks : List Int) (v : Value) (L : List Int) (f : Int → Int) : Prop where
  S : TabW w wr T P most
  M : IsC kU wr mb n f ks
  V : OwnE uE wr (mb + 1) v L
  no : ∀ k, mb ≤ k → T.No k ∧ k ≠ T.r
  lo : w.heap.size ≤ mb
variable {L L' : List Int} {n' : Nat} {ks' : List Int} {v' : Value} {w0 : World}
theorem NvS.t (h : NvS w wr T P most mb n ks v made f) : NvT w wr T P most mb n ks v (made.map fun h : Nat => (h : Int)) f := ⟨h.S, h.M, h.V, h.no, h.lo⟩
theorem NvT.close (h : NvT w wr T P most mb n ks v L f) (e : L = made.map fun h : Nat => (h : Int)) (i : NvI P most made f) : NvS w wr T P most mb n ks v made f := by
  subst e
  exact ⟨h.S, h.M, h.V, i, h.no, h.lo⟩
theorem NvT.below (h : NvT w wr T P most mb n ks v L f) (F : Below wr.heap.size wr w') : NvT w w' T P most mb n ks v L f :=
  ⟨h.S.below F, h.M.block (F.block _ h.M.lt), h.V.below F, h.no, h.lo⟩
theorem NvT.turn (h : NvT w wr T P most mb n ks v L f) (k : TabW w w' T P' most) (F : FrC T.F wr w') : NvT w w' T P' most mb n ks v L f :=
  ⟨k, h.M.block (F.block _ h.M.lt (h.no mb (Nat.le_refl _)).1.not), h.V.block (fun q hq => F.block q (h.V.lt q hq).2 (h.no q (by have := (h.V.lt q hq).1; omega)).1.not), h.no, h.lo⟩
theorem TabW.side {Sf : Nat → Nat → Prop} (h : TabW w wr T P most) (F : FrC Sf wr w') (hS : ∀ k o, Sf k o → T.No k ∧ k ≠ T.r ∧ w.heap.size ≤ k) : TabW w w' T P most :=
  ⟨h.S.frc F (fun k hk o e => by
    obtain ⟨⟨a1, a2, a3, a4, a5⟩, a6, -⟩ := hS k o e
    rcases hk with rfl | rfl | rfl | rfl | rfl | rfl
    · exact a1 rfl
    · exact a6 rfl
    · exact a5 rfl
    · exact a3 rfl
    · exact a4 rfl
    · exact a2 rfl), h.B.trans (F.below h.B.size (fun k o hk e => by have := (hS k o e).2.2; omega)), h.T0, h.lo⟩
theorem NvT.upd (h : NvT w wr T P most mb n ks v L f) (M : IsC kU w' mb n' f' ks') (G : wr.grownBy w' (some mb)) : NvT w w' T P most mb n' ks' v L f' :=
  ⟨h.S.side (FrC.of_frb (FrB.grown G)) (fun k o e => by injection e with e; subst e; exact ⟨(h.no _ (Nat.le_refl _)).1, (h.no _ (Nat.le_refl _)).2, h.lo⟩), M,
    h.V.frb (FrB.grown G) (fun k hk e => by injection e with e; have := (h.V.lt k hk).1; omega), h.no, h.lo⟩
theorem NvT.app (h : NvT w wr T P most mb n ks v L f) (O : OwnE uE w' (mb + 1) v' L') (G2 : wr.grownBy w' v.ownBlock) : NvT w w' T P most mb n ks v' L' f := by
  have hk := fun k (e : v.ownBlock = some k) => (h.V.lt k e).1
  exact ⟨h.S.side (FrC.of_frb (FrB.grown G2)) (fun k o e => ⟨(h.no k (by have := hk k e; omega)).1, (h.no k (by have := hk k e; omega)).2, by have := hk k e; have := h.lo; omega⟩),
    h.M.block ((FrB.grown G2).block _ h.M.lt (fun e => by have := hk _ e; omega)), O, h.no, h.lo⟩
/-- The step's own variable: what is left to be read of it. -/
structure OpN (wr : World) (T : TD) (mb Z : Nat) (v : Value) (H : Int) : Prop where
  c5 : Cel wr Z 5 (.int .u64 H)
  no : T.No Z
  ne : Z ≠ mb
  nv : v.ownBlock ≠ some Z
variable {Z : Nat} {H : Int}
theorem OpN.turn (h : OpN wr T mb Z v H) (F : FrC T.F wr w') : OpN w' T mb Z v H := ⟨F.keepT h.no h.c5, h.no, h.ne, h.nv⟩
theorem OpN.below (h : OpN wr T mb Z v H) (F : Below wr.heap.size wr w') : OpN w' T mb Z v H := ⟨h.c5.frb (FrB.of_below (S := fun _ => False) F (Nat.le_refl _)) (fun h => h), h.no, h.ne, h.nv⟩
theorem OpN.upd (h : OpN wr T mb Z v H) (G : wr.grownBy w' (some mb)) : OpN w' T mb Z v H := ⟨h.c5.frb (FrB.grown G) (fun e => h.ne (by injection e with e; exact e.symm)), h.no, h.ne, h.nv⟩
theorem OpN.app (h : OpN wr T mb Z v H) (G : wr.grownBy w' v.ownBlock) (e : v'.ownBlock = v.ownBlock ∨ v'.ownBlock = some wr.heap.size) : OpN w' T mb Z v' H := ⟨h.c5.frb (FrB.grown G) h.nv, h.no, h.ne, fun k => by
  rcases e with e | e
  · exact h.nv (e.symm.trans k)
  · have := h.c5.lt
    rw [e] at k
    injection k with k
    omega⟩
end
end Go.Proofs.YtaflekpfpdnbcaaDoor
