/- BitsApart. -/
import Derived.Test.YtlkhpkdndmlnaaaDoorAl2
import Derived.Test.YtlkhpkdndmlnaaaDoorBits
import Derived.Test.YtlkhpkdndmlnaaaDoorRow
namespace Go.Proofs.YtlkhpkdndmlnaaaDoor
open Go.RowKit
set_option linter.unusedVariables false
set_option linter.unusedSimpArgs false
set_option linter.unusedSectionVars false
set_option maxRecDepth 100000

theorem putL_len (X : List Bool) (k : Int) : (putL X k).length = X.length := by unfold putL; split <;> simp
theorem dropL_len (X : List Bool) (k : Int) : (dropL X k).length = X.length := by unfold dropL; split <;> simp
theorem mask255 (a : Int) : ∃ K : Nat, bits .and .i64 a 255 = (K : Int) ∧ K < 256 := by
  have := and_mask 8 255 (by decide) (by decide) a
  rw [show ((2 ^ 8 : Nat) : Int) = 256 from rfl] at this
  exact ⟨(a % 256).toNat, by rw [this]; omega, by omega⟩
theorem hasB_self {X : List Bool} {K : Nat} (h : K < X.length) (b : Bool) : hasB (X.set K b) (K : Int) = b := by
  rw [hasB_nat (by rw [List.length_set]; exact h), List.getElem_set_self]
theorem hasB_other {X : List Bool} {K O : Nat} (h : K ≠ O) (hO : O < X.length) (b : Bool) : hasB (X.set K b) (O : Int) = hasB X (O : Int) := by
  rw [hasB_nat (by rw [List.length_set]; exact hO), hasB_nat hO, List.getElem_set_ne h]
theorem putB_has {X : List Bool} {K : Nat} (h : K < X.length) : putB X (K : Int) = !hasB X (K : Int) := by rw [putB_nat h, hasB_nat h]
theorem putL_yes {X : List Bool} {K : Nat} (h : K < X.length) (hh : hasB X (K : Int) = false) : putL X (K : Int) = X.set K true := by unfold putL; rw [putB_has h, hh]; rfl
theorem putL_no {X : List Bool} {K : Nat} (h : K < X.length) (hh : hasB X (K : Int) = true) : putL X (K : Int) = X := by unfold putL; rw [putB_has h, hh]; rfl
theorem dropL_yes {X : List Bool} {K : Nat} (hh : hasB X (K : Int) = true) : dropL X (K : Int) = X.set K false := by unfold dropL; rw [hh]; rfl
theorem dropL_no {X : List Bool} {k : Int} (hh : hasB X k = false) : dropL X k = X := by unfold dropL; rw [hh]; rfl
theorem count_put {X : List Bool} {K : Nat} (h : K < X.length) (hh : hasB X (K : Int) = false) : (X.set K true).count true = X.count true + 1 := by
  have := count_set h true
  rw [hasB_nat h] at hh
  rw [hh] at this
  simpa using this

end Go.Proofs.YtlkhpkdndmlnaaaDoor
