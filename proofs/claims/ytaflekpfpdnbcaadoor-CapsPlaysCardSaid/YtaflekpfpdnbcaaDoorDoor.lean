/- What the row's condition on the library's table gives the walks. -/
import Derived.Test.YtaflekpfpdnbcaaDoorRows
import Derived.Lib.TrailingZeros
import Derived.ProofKit
import Derived.LaidMore
import Derived.OpenShut
import Derived.Stop.Joined
namespace Go.Proofs.YtaflekpfpdnbcaaDoor
open Go.ChangeShapes Go.WideShapes Go.ChangeAt Go.RowKit
set_option linter.unusedVariables false
set_option maxRecDepth 100000

def laid1 : List (String × DataW Unit) := [("math/bits.deBruijn64tab", Rows.laid_math_bits_deBruijn64tab)]
theorem gTab : Tryd.prog.globalNamed "math/bits.deBruijn64tab" = some 0 := by kernel_rfl
theorem tTab : (Tryd.prog.globals[0]?).map (·.type) = some 113 := by kernel_rfl
theorem c5 : Tryd.prog.cellsOf 5 = 1 := by kernel_rfl
/-- What the row's condition gives: the table's cells. -/
theorem tab_of_laid {W : World} (h : laidMetH Tryd.prog laid1 W) : ∀ j, j < Lib.deBruijn64tab.length → W.cell? ⟨0, j, none⟩ = some (.int .u8 (Lib.deBruijn64tab.getD j 0 : Nat)) := by
  rw [MakeChecks.laidMetH_plain _ _ _ (by kernel_rfl)] at h
  obtain ⟨ps, ⟨g0, t0, cs0, f0, p0, q0, hg0, ht0, hv0, hd0, _, _⟩, _, _⟩ := h
  obtain rfl := Option.some.inj (gTab.symm.trans hg0)
  obtain rfl := Option.some.inj (tTab.symm.trans ht0)
  obtain ⟨xs, m1, rfl, hx1, hlen, hn, hel⟩ := DataW.trod_array Tryd.underlying113 hd0
  simp only [Prod.mk.injEq] at hx1
  have hx : xs.map (·.1) = Lib.deBruijn64tab.map (fun n : Nat => (DataW.lit (.int .u8 (n : Int)) : DataW Unit)) := by
    have := hx1.1
    injection this with this
    rw [← this]; rfl
  intro j hj
  have hj64 : j < 64 := hj
  have h0 := hel j hj64
  have hjx : j < xs.length := by rw [hn]; exact hj64
  rw [List.getElem?_eq_getElem hjx, c5, Nat.mul_one] at h0
  obtain ⟨k, e1, e2, _⟩ := DataW.trod_int Tryd.underlying5 h0
  have hk : k = (Lib.deBruijn64tab.getD j 0 : Nat) := by
    have h1 : (xs.map (·.1))[j]? = some xs[j].1 := by rw [List.getElem?_map, List.getElem?_eq_getElem hjx]; rfl
    rw [hx, List.getElem?_map, List.getElem?_eq_getElem hj, e2] at h1
    simp only [Option.map_some, Option.some.injEq] at h1
    injection h1 with h1
    injection h1 with _ h1
    rw [← h1, List.getD_eq_getElem?_getD, List.getElem?_eq_getElem hj]; rfl
  subst hk
  have hv := World.var?_cell hg0 hv0 j
  rw [hv]
  have h3 : (cs0.toList.drop j)[0]? = some (.int .u8 (Lib.deBruijn64tab.getD j 0 : Nat)) := by
    cases hd : cs0.toList.drop j with
    | nil => rw [hd] at e1; simp at e1
    | cons a t => rw [hd] at e1; simp at e1; rw [e1]; rfl
  rw [List.getElem?_drop, Nat.add_zero] at h3
  simpa using h3
/-- The program's own start meets the condition. -/
theorem door_met (os : Os) (args : Array Value) : laidMetH Tryd.prog laid1 ((World.doorLaid Tryd.prog 4000 os).forCall (fun _ _ => 0) ⟨#[], args, []⟩).memory :=
  laidMetH_of_parts3 (fuel := 8) (laidMet_of_run' 8 (by kernel_rfl) (by kernel_rfl)) (by kernel_rfl) (by kernel_rfl)
end Go.Proofs.YtaflekpfpdnbcaaDoor
