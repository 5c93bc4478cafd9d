/- The document's example of sets, and the state of a law. -/
import Derived.Test.YtlkhpkdndmlnaaaDoorBitS4
import Derived.Deep.RegionHeld3
namespace Go.Proofs.YtlkhpkdndmlnaaaDoor
open Go.RowKit
set_option linter.unusedVariables false
set_option linter.unusedSimpArgs false
set_option linter.unusedSectionVars false
set_option maxRecDepth 100000

/-- A set that was made since w. -/
structure St2 (w wr : World) (p g : Nat) (X : List Bool) : Prop where
  s : SetB wr p g X
  b : Below w.heap.size w wr
  lp : w.heap.size ≤ p
  lg : w.heap.size ≤ g
  t : Tab w
theorem St2.tab {w wr : World} {p g : Nat} {X : List Bool} (h : St2 w wr p g X) : Tab wr := h.t.low h.b h.t.lt
theorem St2.put {w wr w2 : World} {p g : Nat} {X X' : List Bool} (h : St2 w wr p g X) (K : SetB w2 p g X') (F : FrB (bitS p g) wr w2) : St2 w w2 p g X' :=
  ⟨K, h.b.trans (F.below h.b.size (fun k hk hh => hh.elim (fun e => by have := h.lp; omega) (fun e => by have := h.lg; omega))), h.lp, h.lg, h.t⟩
theorem St2.below {w wr w2 : World} {p g : Nat} {X : List Bool} (h : St2 w wr p g X) (F : Below wr.heap.size wr w2) : St2 w w2 p g X :=
  ⟨h.s.below F, h.b.trans (F.mono h.b.size), h.lp, h.lg, h.t⟩
theorem St2.drewN {w wr : World} {p g : Nat} {X : List Bool} (h : St2 w wr p g X) (m : Nat) : St2 w (wr.drewN m) p g X :=
  ⟨h.s.drewN m, ⟨h.b.os, h.b.tape, h.b.output, h.b.size, h.b.block⟩, h.lp, h.lg, h.t⟩
theorem St2.new {w w1 w2 : World} {p g : Nat} {X : List Bool} (hT : Tab w) (hB : Below w.heap.size w w1) (S : SetB w2 p g X) (lp : w1.heap.size ≤ p) (lg : w1.heap.size ≤ g) (B : Below w1.heap.size w1 w2) : St2 w w2 p g X :=
  ⟨S, hB.trans (B.mono hB.size), Nat.le_trans hB.size lp, Nat.le_trans hB.size lg, hT⟩

def ax0 : List Bool := List.replicate 100 false
def ax1 : List Bool := ax0.set 70 true
def ax2 : List Bool := ax1.set 3 true
def ax3 : List Bool := ax2.set 3 false
theorem a_cap : capB 100 = 100 := by rfl
theorem a_p0 : putB ax0 70 = true := by decide
theorem a_l0 : putL ax0 70 = ax1 := by unfold putL; rw [a_p0]; rfl
theorem a_p1 : putB ax1 3 = true := by decide
theorem a_l1 : putL ax1 3 = ax2 := by unfold putL; rw [a_p1]; rfl
theorem a_p2 : putB ax2 3 = false := by decide
theorem a_l2 : putL ax2 3 = ax2 := by unfold putL; rw [a_p2]; rfl
theorem a_n : nextO ax2 true 4 = true ∧ nextV ax2 true 4 = 70 := nextO_some (nextB_some (by decide) (by decide) (by decide) (by decide))
theorem a_g : nextO ax2 false 3 = true ∧ nextV ax2 false 3 = 4 := nextO_some (nextB_some (by decide) (by decide) (by decide) (by decide))
theorem a_c : ax2.count true = 2 := by decide
theorem a_h : hasB ax2 3 = true := by decide
theorem a_d : dropL ax2 3 = ax3 := by unfold dropL; rw [a_h]; rfl
theorem a_h3 : hasB ax3 3 = false := by decide
theorem a_d3 : dropL ax3 3 = ax3 := by unfold dropL; rw [a_h3]; rfl
theorem a_s : ax3.length = 100 := by decide

end Go.Proofs.YtlkhpkdndmlnaaaDoor
