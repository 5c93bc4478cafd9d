/- CapsPlays: the state. -/
import Derived.Test.YtaflekpfpdnbcaaDoorSb5
import Derived.Test.YtaflekpfpdnbcaaDoorNz5
namespace Go.Proofs.YtaflekpfpdnbcaaDoor
open Go.RowKit
set_option linter.unusedVariables false
set_option linter.unusedSimpArgs false
set_option linter.unusedSectionVars false
set_option maxRecDepth 100000

/-- What the document's row may lie in. -/
def PyC.E (mb X : Nat) (v : Value) : Nat → Prop := fun k => mb ≤ k ∧ k ≠ X ∧ v.ownBlock ≠ some k
/-- The table, the document's table in its variable X, and the row of all handles. -/
structure PyC (w wr : World) (T : TD) (P : List Pc) (most mb X n c : Nat) (A : Option Addr) (v : Value) (made : List Nat) : Prop where
  S : TabW w wr T P most
  x0 : Cel wr X 0 (.slice A n c)
  x1 : Cel wr X 1 (.int .i64 most)
  R : RowD wr (PyC.E mb X v) A P
  n : n = P.length
  V : OwnE uE wr (X + 1) v (made.map fun h : Nat => (h : Int))
  b64 : ∀ h ∈ made, h < 18446744073709551616
  no : ∀ k, mb ≤ k → T.No k ∧ k ≠ T.r
  lo : w.heap.size ≤ mb ∧ mb ≤ X
section
variable {w wr w' : World} {T : TD} {P P' : List Pc} {most mb X n c c' : Nat} {A A' : Option Addr} {v v' : Value} {made made' : List Nat}
theorem PyC.xl (h : PyC w wr T P most mb X n c A v made) : X < wr.heap.size := h.x0.lt
theorem PyC.newE (h : PyC w wr T P most mb X n c A v made) : ∀ k, wr.heap.size ≤ k → PyC.E mb X v k := fun k hk =>
  ⟨by have := h.xl; have := h.lo; omega, by have := h.xl; omega, fun e => by have := (h.V.lt _ e).2; omega⟩
theorem PyC.sas (h : PyC w wr T P most mb X n c A v made) : SaS wr T P most n c A := ⟨h.S.S, h.S.tab, h.R.1, h.n⟩
theorem PyC.below (h : PyC w wr T P most mb X n c A v made) (F : Below wr.heap.size wr w') : PyC w w' T P most mb X n c A v made :=
  have FB := FrB.of_below (S := fun _ => False) F (Nat.le_refl _)
  ⟨h.S.below F, h.x0.frb FB (fun h => h), h.x1.frb FB (fun h => h), h.R.below F, h.n, h.V.below F, h.b64, h.no, h.lo⟩
/-- The table has turned; the document's has not yet. -/
structure PyT (w wr : World) (T : TD) (P P' : List Pc) (most mb X n c : Nat) (A : Option Addr) (v : Value) (made : List Nat) : Prop where
  S : TabW w wr T P' most
  x0 : Cel wr X 0 (.slice A n c)
  x1 : Cel wr X 1 (.int .i64 most)
  R : RowD wr (PyC.E mb X v) A P
  n : n = P.length
  V : OwnE uE wr (X + 1) v (made.map fun h : Nat => (h : Int))
  b64 : ∀ h ∈ made, h < 18446744073709551616
  no : ∀ k, mb ≤ k → T.No k ∧ k ≠ T.r
  lo : w.heap.size ≤ mb ∧ mb ≤ X
theorem PyC.turn (h : PyC w wr T P most mb X n c A v made) (k : TabW w w' T P' most) (F : FrC T.F wr w') : PyT w w' T P P' most mb X n c A v made :=
  have nX := h.no X h.lo.2
  ⟨k, F.keepT nX.1 h.x0, F.keepT nX.1 h.x1, ⟨fun i hi => by
    obtain ⟨b, off, e, hlt, hc⟩ := h.R.1 i hi
    have hb := (h.R.2 (by omega) _ e).1
    exact ⟨b, off, e, Nat.lt_of_lt_of_le hlt F.size, fun j u hu => (World.cell?_of_block (F.block b hlt (h.no b hb).1.not)).trans (hc j u hu)⟩, h.R.2⟩, h.n,
    h.V.block (fun q hq => F.block q (h.V.lt q hq).2 (h.no q (by have := (h.V.lt q hq).1; have := h.lo; omega)).1.not), h.b64, h.no, h.lo⟩
theorem PyT.xl (h : PyT w wr T P P' most mb X n c A v made) : X < wr.heap.size := h.x0.lt
theorem PyT.newE (h : PyT w wr T P P' most mb X n c A v made) : ∀ k, wr.heap.size ≤ k → PyC.E mb X v k := fun k hk =>
  ⟨by have := h.xl; have := h.lo; omega, by have := h.xl; omega, fun e => by have := (h.V.lt _ e).2; omega⟩
theorem PyT.below (h : PyT w wr T P P' most mb X n c A v made) (F : Below wr.heap.size wr w') : PyT w w' T P P' most mb X n c A v made :=
  have FB := FrB.of_below (S := fun _ => False) F (Nat.le_refl _)
  ⟨h.S.below F, h.x0.frb FB (fun h => h), h.x1.frb FB (fun h => h), h.R.below F, h.n, h.V.below F, h.b64, h.no, h.lo⟩
/-- The document's has turned, too: it is laid into its variable. -/
theorem PyT.lay (h : PyT w wr T P P' most mb X n c A v made) (R : RowD wr (PyC.E mb X v) A' P') (hn : n = P'.length) :
    PyC w ((wr.setCell ⟨X, 0, none⟩ (.slice A' n c')).setCell ⟨X, 1, none⟩ (.int .i64 most)) T P' most mb X n c' A' v made := by
  have FS : FrB (fun k => k = X) wr ((wr.setCell ⟨X, 0, none⟩ (.slice A' n c')).setCell ⟨X, 1, none⟩ (.int .i64 most)) := (FrB.set wr ⟨X, 0, none⟩ _).then_ (FrB.set _ ⟨X, 1, none⟩ _) (fun _ _ h => h)
  have nX := h.no X h.lo.2
  refine ⟨h.S.side (FrC.of_frb FS) (fun k o e => by obtain rfl : k = X := e; exact ⟨nX.1, nX.2, by have := h.lo; omega⟩), (h.x0.same _).other (.inr (by decide)) _, (h.x1.other (.inr (by decide)) _).same _, R.frb FS (fun k hk e => hk.2.1 e), hn,
    h.V.frb FS (fun k hk e => by have := (h.V.lt k hk).1; omega), h.b64, h.no, h.lo⟩
/-- The document's table before the table's own: it turned first. -/
theorem PyC.lay (h : PyC w wr T P most mb X n c A v made) (R : RowD wr (PyC.E mb X v) A' P') (hn : n = P'.length) :
    ∃ wq, wq = (wr.setCell ⟨X, 0, none⟩ (.slice A' n c')).setCell ⟨X, 1, none⟩ (.int .i64 most) ∧ TabW w wq T P most ∧ Cel wq X 0 (.slice A' n c') ∧ Cel wq X 1 (.int .i64 most) ∧ RowD wq (PyC.E mb X v) A' P' ∧ OwnE uE wq (X + 1) v (made.map fun h : Nat => (h : Int)) ∧ FrB (fun k => k = X) wr wq := by
  have FS : FrB (fun k => k = X) wr ((wr.setCell ⟨X, 0, none⟩ (.slice A' n c')).setCell ⟨X, 1, none⟩ (.int .i64 most)) := (FrB.set wr ⟨X, 0, none⟩ _).then_ (FrB.set _ ⟨X, 1, none⟩ _) (fun _ _ h => h)
  have nX := h.no X h.lo.2
  exact ⟨_, rfl, h.S.side (FrC.of_frb FS) (fun k o e => by obtain rfl : k = X := e; exact ⟨nX.1, nX.2, by have := h.lo; omega⟩), (h.x0.same _).other (.inr (by decide)) _, (h.x1.other (.inr (by decide)) _).same _, R.frb FS (fun k hk e => hk.2.1 e),
    h.V.frb FS (fun k hk e => by have := (h.V.lt k hk).1; omega), FS⟩
/-- What the document's has turned into, while the table has not yet. -/
structure PyD (w wr : World) (T : TD) (P P' : List Pc) (most mb X n c : Nat) (A : Option Addr) (v : Value) (made : List Nat) : Prop where
  S : TabW w wr T P most
  x0 : Cel wr X 0 (.slice A n c)
  x1 : Cel wr X 1 (.int .i64 most)
  R : RowD wr (PyC.E mb X v) A P'
  n : n = P'.length
  V : OwnE uE wr (X + 1) v (made.map fun h : Nat => (h : Int))
  b64 : ∀ h ∈ made, h < 18446744073709551616
  no : ∀ k, mb ≤ k → T.No k ∧ k ≠ T.r
  lo : w.heap.size ≤ mb ∧ mb ≤ X
theorem PyD.below (h : PyD w wr T P P' most mb X n c A v made) (F : Below wr.heap.size wr w') : PyD w w' T P P' most mb X n c A v made :=
  have FB := FrB.of_below (S := fun _ => False) F (Nat.le_refl _)
  ⟨h.S.below F, h.x0.frb FB (fun h => h), h.x1.frb FB (fun h => h), h.R.below F, h.n, h.V.below F, h.b64, h.no, h.lo⟩
theorem PyC.doc (h : PyC w wr T P most mb X n c A v made) (R : RowD wr (PyC.E mb X v) A' P') (hn : n = P'.length) :
    PyD w ((wr.setCell ⟨X, 0, none⟩ (.slice A' n c')).setCell ⟨X, 1, none⟩ (.int .i64 most)) T P P' most mb X n c' A' v made := by
  obtain ⟨wq, rfl, k1, k2, k3, k4, k5, -⟩ := h.lay (c' := c') R hn
  exact ⟨k1, k2, k3, k4, hn, k5, h.b64, h.no, h.lo⟩
theorem PyD.turn (h : PyD w wr T P P' most mb X n c A v made) (k : TabW w w' T P' most) (F : FrC T.F wr w') : PyC w w' T P' most mb X n c A v made :=
  have nX := h.no X h.lo.2
  ⟨k, F.keepT nX.1 h.x0, F.keepT nX.1 h.x1, ⟨fun i hi => by
    obtain ⟨b, off, e, hlt, hc⟩ := h.R.1 i hi
    have hb := (h.R.2 (by omega) _ e).1
    exact ⟨b, off, e, Nat.lt_of_lt_of_le hlt F.size, fun j u hu => (World.cell?_of_block (F.block b hlt (h.no b hb).1.not)).trans (hc j u hu)⟩, h.R.2⟩, h.n,
    h.V.block (fun q hq => F.block q (h.V.lt q hq).2 (h.no q (by have := (h.V.lt q hq).1; have := h.lo; omega)).1.not), h.b64, h.no, h.lo⟩
/-- A handle more in the row. -/
theorem PyC.app (h : PyC w wr T P most mb X n c A v made) (O : OwnE uE w' (X + 1) v' (made'.map fun h : Nat => (h : Int))) (G : wr.grownBy w' v.ownBlock) (e : v'.ownBlock = v.ownBlock ∨ v'.ownBlock = some wr.heap.size) (hb : ∀ h ∈ made', h < 18446744073709551616) : PyC w w' T P most mb X n c A v' made' := by
  have hk := fun k (e : v.ownBlock = some k) => (h.V.lt k e).1
  have FB := FrB.grown G
  have nv : ∀ k, PyC.E mb X v k → ¬ v.ownBlock = some k := fun k hk => hk.2.2
  have R2 := h.R.frb FB nv
  refine ⟨h.S.side (FrC.of_frb FB) (fun k o e => ⟨(h.no k (by have := hk k e; have := h.lo; omega)).1, (h.no k (by have := hk k e; have := h.lo; omega)).2, by have := hk k e; have := h.lo; omega⟩),
    h.x0.frb FB (fun e => by have := hk _ e; omega), h.x1.frb FB (fun e => by have := hk _ e; omega), ⟨R2.1, fun hp a ha => ?_⟩, h.n, O, hb, h.no, h.lo⟩
  obtain ⟨e1, e2, e3⟩ := h.R.2 hp a ha
  obtain ⟨b, off, e5, hlt, -⟩ := h.R.1 0 hp
  refine ⟨e1, e2, fun e4 => ?_⟩
  rcases e with e | e
  · exact e3 (e ▸ e4)
  · rw [e] at e4
    injection e4 with e4
    rw [ha] at e5
    injection e5 with e5
    rw [e5] at e4
    simp only at e4
    omega
end
end Go.Proofs.YtaflekpfpdnbcaaDoor
