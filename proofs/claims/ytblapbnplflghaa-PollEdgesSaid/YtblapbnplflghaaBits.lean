/- The bitwise operators on ints, as operations on rows of 64 bits. No condition. -/
import Derived.WalkKit
namespace Go.Proofs.Ytblapbnplflghaa
open Go
set_option linter.unusedVariables false
set_option linter.unusedSimpArgs false

/-- An int's 64 bits. -/
def bv (x : Int) : BitVec 64 := BitVec.ofInt 64 x

theorem wrap_bv (v : BitVec 64) : IntKind.i64.wrap (v.toNat : Int) = v.toInt := by
  rw [IntKind.wrap_i64, BitVec.toInt_eq_toNat_cond]
  have := v.isLt
  split <;> omega

theorem bv_toInt (v : BitVec 64) : bv v.toInt = v := by unfold bv; exact BitVec.ofInt_toInt
theorem and_bv (a b : Int) : bits .and .i64 a b = (bv a &&& bv b).toInt := wrap_bv _
theorem or_bv (a b : Int) : bits .or .i64 a b = (bv a ||| bv b).toInt := wrap_bv _
theorem andNot_bv (a b : Int) : bits .andNot .i64 a b = (bv a &&& ~~~ bv b).toInt := wrap_bv _
theorem bv_and (a b : Int) : bv (bits .and .i64 a b) = bv a &&& bv b := by rw [and_bv, bv_toInt]
theorem bv_or (a b : Int) : bv (bits .or .i64 a b) = bv a ||| bv b := by rw [or_bv, bv_toInt]
theorem bv_andNot (a b : Int) : bv (bits .andNot .i64 a b) = bv a &&& ~~~ bv b := by rw [andNot_bv, bv_toInt]
theorem toInt_bv {x : Int} (h : -9223372036854775808 ≤ x ∧ x < 9223372036854775808) : (bv x).toInt = x := by
  unfold bv
  rw [BitVec.toInt_ofInt]
  show Int.bmod x 18446744073709551616 = x
  rw [Int.bmod_def]
  split <;> omega
theorem bv_inj {x y : Int} (hx : -9223372036854775808 ≤ x ∧ x < 9223372036854775808) (hy : -9223372036854775808 ≤ y ∧ y < 9223372036854775808) (h : bv x = bv y) : x = y := by
  rw [← toInt_bv hx, h, toInt_bv hy]
theorem toInt_range (v : BitVec 64) : -9223372036854775808 ≤ v.toInt ∧ v.toInt < 9223372036854775808 := by
  have h1 := v.toInt_lt
  have h2 := v.le_toInt
  exact ⟨by simpa using h2, by simpa using h1⟩
theorem bits_range (o : BinOp) (a b : Int) (h : o = .and ∨ o = .or ∨ o = .andNot) : -9223372036854775808 ≤ bits o .i64 a b ∧ bits o .i64 a b < 9223372036854775808 := by
  rcases h with rfl | rfl | rfl
  · rw [and_bv]; exact toInt_range _
  · rw [or_bv]; exact toInt_range _
  · rw [andNot_bv]; exact toInt_range _
theorem bv_zero : bv 0 = 0#64 := by decide
theorem or_zero_and (a b : Int) : bits .or .i64 0 (bits .and .i64 a b) = bits .and .i64 a b := by
  rw [or_bv, bv_and, bv_zero, BitVec.zero_or, ← and_bv]
theorem and_zero (a : Int) : bits .and .i64 a 0 = 0 := by
  rw [and_bv, bv_zero, BitVec.and_zero]; rfl
theorem zero_and (a : Int) : bits .and .i64 0 a = 0 := by
  rw [and_bv, bv_zero, BitVec.zero_and]; rfl
theorem and_mask (j : Nat) (m : Int) (hm : (bv m).toNat = 2 ^ j - 1) (hj : j < 64) (n : Int) : bits .and .i64 n m = n % (2 ^ j : Nat) := by
  have key : (bv n &&& bv m).toNat = (n % ((2 ^ 64 : Nat) : Int)).toNat % 2 ^ j := by
    rw [BitVec.toNat_and, hm, Nat.and_two_pow_sub_one_eq_mod]
    unfold bv
    rw [BitVec.toNat_ofInt]
  have hp : 2 ^ j ≤ 2 ^ 63 := Nat.pow_le_pow_right (by omega) (by omega)
  have hd : (2 ^ j : Nat) ∣ 2 ^ 64 := Nat.pow_dvd_pow 2 (by omega)
  show IntKind.i64.wrap ((bv n &&& bv m).toNat : Nat) = n % (2 ^ j : Nat)
  rw [key, IntKind.wrap_i64]
  have h0 : 0 < 2 ^ j := Nat.two_pow_pos j
  have h1 : ((n % ((2 ^ 64 : Nat) : Int)).toNat % 2 ^ j : Nat) = (n % (2 ^ j : Nat)).toNat := by
    obtain ⟨c, hc⟩ := hd
    have hnn : 0 ≤ n % ((2 ^ 64 : Nat) : Int) := Int.emod_nonneg _ (by simp)
    have h2 : ((n % ((2 ^ 64 : Nat) : Int)).toNat % 2 ^ j : Nat) = ((n % ((2 ^ 64 : Nat) : Int)) % (2 ^ j : Nat)).toNat := by
      rw [Int.toNat_emod hnn (by omega), Int.toNat_natCast]
    rw [h2, Int.emod_emod_of_dvd _ (by exact Int.natCast_dvd_natCast.mpr ⟨c, hc⟩)]
  rw [h1]
  have h3 := Int.emod_nonneg n (show ((2 ^ j : Nat) : Int) ≠ 0 by omega)
  have h4 := Int.emod_lt_of_pos n (show (0 : Int) < ((2 ^ j : Nat) : Int) by omega)
  omega
end Go.Proofs.Ytblapbnplflghaa
