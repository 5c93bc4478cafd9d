/- BitsGaps. -/
import Derived.Test.YtlkhpkdndmlnaaaDoorSetP
namespace Go.Proofs.YtlkhpkdndmlnaaaDoor
open Go.RowKit
set_option linter.unusedVariables false
set_option linter.unusedSimpArgs false
set_option linter.unusedSectionVars false
set_option maxRecDepth 100000

theorem gap_at {n j k : Nat} {P : Nat → Bool} (hj : j < n) (hk : k ≤ j) (hP : P j = false) (hb : ∀ i, k ≤ i → i < j → P i = true) : nextO (ofS n P) false (k : Int) = true ∧ nextV (ofS n P) false (k : Int) = j :=
  nextO_some (nextB_some (b := false) (by rw [ofS_len]; exact hj) (by simpa using hk) (by rw [ofS_at hj]; exact hP) (fun i hi h1 h2 => by
    rw [ofS_len] at hi
    rw [ofS_at hi, hb i (by simpa using h1) h2]; decide))
theorem gap_none {n k : Nat} {P : Nat → Bool} (hb : ∀ i, k ≤ i → i < n → P i = true) : nextO (ofS n P) false (k : Int) = false ∧ nextV (ofS n P) false (k : Int) = 0 :=
  nextO_none (nextB_none (fun i hi h1 => by
    rw [ofS_len] at hi
    rw [ofS_at hi, hb i (by simpa using h1) hi]; decide))
theorem count_all {n : Nat} {P : Nat → Bool} (hb : ∀ i, i < n → P i = true) : (ofS n P).count true = n := by
  have : ofS n P = List.replicate n true := by
    apply List.ext_getElem
    · rw [ofS_len]; simp
    · intro i h1 h2; rw [ofS_len] at h1; rw [ofS_at h1, hb i h1]; simp
  rw [this]; simp
def ltB (m : Nat) (i : Nat) : Bool := decide (i < m)
theorem put_lt {N n : Nat} (h : n < N) : putB (ofS N (ltB n)) (n : Int) = true ∧ putL (ofS N (ltB n)) (n : Int) = ofS N (ltB (n + 1)) := by
  constructor
  · rw [putB_of]; simp [ltB, h]
  · rw [putL_of]; exact ofS_ext fun i hi => by unfold ltB; rw [Bool.eq_iff_iff]; simp; omega
def ltN (m o : Nat) (i : Nat) : Bool := decide (i < m) && !decide (i = o)
theorem drop_lt {N o : Nat} : dropL (ofS N (ltB N)) (o : Int) = ofS N (ltN N o) := by
  rw [dropL_of]; exact ofS_ext fun i hi => by unfold ltB ltN; rw [Bool.eq_iff_iff]; simp; omega
theorem mask127 (a : Int) : ∃ N : Nat, bits .and .i64 a 127 = (N : Int) ∧ N < 128 := by
  have := and_mask 7 127 (by decide) (by decide) a
  rw [show ((2 ^ 7 : Nat) : Int) = 128 from rfl] at this
  exact ⟨(a % 128).toNat, by rw [this]; omega, by omega⟩
theorem mask1023 (a : Int) : ∃ N : Nat, bits .and .i64 a 1023 = (N : Int) ∧ N < 1024 := by
  have := and_mask 10 1023 (by decide) (by decide) a
  rw [show ((2 ^ 10 : Nat) : Int) = 1024 from rfl] at this
  exact ⟨(a % 1024).toNat, by rw [this]; omega, by omega⟩

end Go.Proofs.YtlkhpkdndmlnaaaDoor
