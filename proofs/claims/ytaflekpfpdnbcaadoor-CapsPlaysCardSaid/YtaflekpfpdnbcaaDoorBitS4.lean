/- Sets of bits: Next and Gap. -/
import Derived.Test.YtaflekpfpdnbcaaDoorBitS3
namespace Go.Proofs.YtaflekpfpdnbcaaDoor
open Go.RowKit
set_option linter.unusedVariables false
set_option linter.unusedSimpArgs false
set_option linter.unusedSectionVars false
set_option maxRecDepth 100000

theorem getD_lt {X : List Bool} {i : Nat} (h : i < X.length) : X.getD i false = X[i] := by rw [List.getD_eq_getElem?_getD, List.getElem?_eq_getElem h]; rfl
theorem getD_ge {X : List Bool} {i : Nat} (h : X.length ≤ i) : X.getD i false = false := by rw [List.getD_eq_getElem?_getD, List.getElem?_eq_none h]; rfl
theorem turned0 {ws : List Nat} {X : List Bool} (h : BW ws X) (j : Nat) : turned ws 0 j = X.getD j false := by
  unfold turned; rw [h.bit j, Nat.zero_testBit]; simp
theorem turned1 {ws : List Nat} {X : List Bool} (h : BW ws X) (j : Nat) : turned ws 18446744073709551615 j = !X.getD j false := by
  unfold turned
  rw [h.bit j, show (18446744073709551615 : Nat) = 2 ^ 64 - 1 from rfl, Nat.testBit_two_pow_sub_one]
  have : j % 64 < 64 := Nat.mod_lt _ (by decide)
  simp [this]
theorem nextO_some {X : List Bool} {b : Bool} {k : Int} {j : Nat} (h : nextB X b k.toNat = some j) : nextO X b k = true ∧ nextV X b k = j := by
  unfold nextO nextV; rw [h]; exact ⟨rfl, rfl⟩
theorem nextO_none {X : List Bool} {b : Bool} {k : Int} (h : nextB X b k.toNat = none) : nextO X b k = false ∧ nextV X b k = 0 := by
  unfold nextO nextV; rw [h]; exact ⟨rfl, rfl⟩
theorem find_next {ws : List Nat} {X : List Bool} (h : BW ws X) {k : Int} {e : Ending} (hf : FindB ws 0 k.toNat X.length e) : ∃ j : Int, e = .returned (.tuple #[.int .i64 j, .bool (nextO X true k)]) ∧ (if nextO X true k then j else 0) = nextV X true k := by
  rcases hf with ⟨j, h1, h2, h3, h4, rfl⟩ | ⟨h1, rfl⟩
  · rw [turned0 h] at h3
    have hj : j < X.length := by
      by_cases hj : j < X.length
      · exact hj
      · rw [getD_ge (by omega)] at h3; cases h3
    rw [getD_lt hj] at h3
    obtain ⟨e1, e2⟩ := nextO_some (nextB_some (b := true) hj h1 h3 (fun i hi h5 h6 => by have := h4 i h5 h6; rw [turned0 h, getD_lt hi] at this; rw [this]; decide))
    exact ⟨j, by rw [e1, decide_eq_true hj], by rw [e1, e2]; rfl⟩
  · obtain ⟨e1, e2⟩ := nextO_none (X := X) (b := true) (k := k) (nextB_none (fun i hi h5 => by have := h1 i h5 (by have := h.len; omega); rw [turned0 h, getD_lt hi] at this; rw [this]; decide))
    exact ⟨0, by rw [e1], by rw [e1, e2]; rfl⟩
theorem find_gap {ws : List Nat} {X : List Bool} (h : BW ws X) {k : Int} {e : Ending} (hf : FindB ws 18446744073709551615 k.toNat X.length e) : ∃ j : Int, e = .returned (.tuple #[.int .i64 j, .bool (nextO X false k)]) ∧ (if nextO X false k then j else 0) = nextV X false k := by
  rcases hf with ⟨j, h1, h2, h3, h4, rfl⟩ | ⟨h1, rfl⟩
  · rw [turned1 h] at h3
    have hb : ∀ i (hi : i < X.length), k.toNat ≤ i → i < j → X[i] ≠ false := fun i hi h5 h6 => by
      have := h4 i h5 h6; rw [turned1 h, getD_lt hi] at this; intro e; rw [e] at this; cases this
    by_cases hj : j < X.length
    · rw [getD_lt hj] at h3
      obtain ⟨e1, e2⟩ := nextO_some (nextB_some (b := false) hj h1 (by simpa using h3) hb)
      exact ⟨j, by rw [e1, decide_eq_true hj], by rw [e1, e2]; rfl⟩
    · obtain ⟨e1, e2⟩ := nextO_none (X := X) (b := false) (k := k) (nextB_none (fun i hi h5 => hb i hi h5 (by omega)))
      exact ⟨j, by rw [e1, decide_eq_false hj], by rw [e1, e2]; rfl⟩
  · obtain ⟨e1, e2⟩ := nextO_none (X := X) (b := false) (k := k) (nextB_none (fun i hi h5 => by
      have := h1 i h5 (by have := h.len; omega); rw [turned1 h, getD_lt hi] at this; intro e; rw [e] at this; cases this))
    exact ⟨0, by rw [e1], by rw [e1, e2]; rfl⟩

theorem next_out {X : List Bool} {b : Bool} {k : Int} (h : (X.length : Int) ≤ k) : nextO X b k = false ∧ nextV X b k = 0 :=
  nextO_none (nextB_none (fun i hi h5 => by omega))
set_option maxHeartbeats 1000000 in
theorem next_s {w : World} {p g : Nat} {X : List Bool} (h : SetB w p g X) (hT : Tab w) (k : Int) :
    Calls Tryd.prog 54 #[.pointer (some ⟨p, 0, none⟩), .int .i64 k] w fun e w' => e = .returned (.tuple #[.int .i64 (nextV X true k), .bool (nextO X true k)]) ∧ ∃ m, w' = w.drewN m := by
  obtain ⟨ws, h⟩ := h
  have hlen := h.len
  have c1 := h.c1.1
  by_cases hk : (X.length : Int) ≤ k
  · have d1 : decide ((X.length : Int) ≤ k) = true := by simp; omega
    obtain ⟨e1, e2⟩ := next_out (b := true) hk
    have E1 := Lib.hid e1; have E2 := Lib.hid e2
    replace h := Lib.hid h
    clear e1 e2
    go_enter Tryd.func54, Tryd.ntmps54
    go_wp2
    go_ret2
    exact ⟨by rw [E1.out, E2.out]; rfl, 0, rfl⟩
  · have d1 : decide ((X.length : Int) ≤ k) = false := by simp; omega
    have H := Lib.hid h
    have hkk := Lib.hid (show k = ((k.toNat : Nat) : Int) ∨ (k < 0 ∧ k.toNat = 0) by omega)
    have hk4 := Lib.hid (show k.toNat ≤ 4096 by omega)
    clear h
    go_enter Tryd.func54, Tryd.ntmps54
    go_wp2_with fail
    refine (find_c H.out hT k.toNat 0 k 0 hkk.out hk4.out (by decide) rfl).mono ?_
    rintro e w1 ⟨hf, m, rfl⟩
    obtain ⟨j, rfl, hj⟩ := find_next H.out.inv hf
    replace hj := Lib.hid hj
    clear hf
    go_wp2_with fail
    refine (held_c _ j _).mono ?_
    rintro e w1 ⟨rfl, rfl⟩
    rw [hj.out]
    go_wp2
    go_ret2
    exact ⟨rfl, m, rfl⟩

set_option maxHeartbeats 1000000 in
theorem gap_s {w : World} {p g : Nat} {X : List Bool} (h : SetB w p g X) (hT : Tab w) (k : Int) :
    Calls Tryd.prog 47 #[.pointer (some ⟨p, 0, none⟩), .int .i64 k] w fun e w' => e = .returned (.tuple #[.int .i64 (nextV X false k), .bool (nextO X false k)]) ∧ ∃ m, w' = w.drewN m := by
  obtain ⟨ws, h⟩ := h
  have hlen := h.len
  have c1 := h.c1.1
  by_cases hk : (X.length : Int) ≤ k
  · have d1 : decide ((X.length : Int) ≤ k) = true := by simp; omega
    obtain ⟨e1, e2⟩ := next_out (b := false) hk
    have E1 := Lib.hid e1; have E2 := Lib.hid e2
    replace h := Lib.hid h
    clear e1 e2
    go_enter Tryd.func47, Tryd.ntmps47
    go_wp2
    go_ret2
    exact ⟨by rw [E1.out, E2.out]; rfl, 0, rfl⟩
  · have d1 : decide ((X.length : Int) ≤ k) = false := by simp; omega
    have H := Lib.hid h
    have hkk := Lib.hid (show k = ((k.toNat : Nat) : Int) ∨ (k < 0 ∧ k.toNat = 0) by omega)
    have hk4 := Lib.hid (show k.toNat ≤ 4096 by omega)
    clear h
    go_enter Tryd.func47, Tryd.ntmps47
    go_wp2_with fail
    refine (find_c H.out hT k.toNat 18446744073709551615 k 18446744073709551615 hkk.out hk4.out (by decide) rfl).mono ?_
    rintro e w1 ⟨hf, m, rfl⟩
    obtain ⟨j, rfl, hj⟩ := find_gap H.out.inv hf
    replace hj := Lib.hid hj
    clear hf
    go_wp2_with fail
    refine (held_c _ j _).mono ?_
    rintro e w1 ⟨rfl, rfl⟩
    rw [hj.out]
    go_wp2
    go_ret2
    exact ⟨rfl, m, rfl⟩

end Go.Proofs.YtaflekpfpdnbcaaDoor
