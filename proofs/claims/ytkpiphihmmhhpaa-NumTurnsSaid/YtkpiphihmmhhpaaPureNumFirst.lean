/- NumFirst: for all numbers, the next time is behind, no period ahead of it is, and there is none only if it would be too great. No condition. -/
import Derived.Test.YtkpiphihmmhhpaaONumFirstx1
namespace Go.Proofs.Ytkpiphihmmhhpaa.Pure
open Go.RowKit Go.Proofs.Ytkpiphihmmhhpaa.PNumFirst Go.Proofs.YtkpiphihmmhhpaaW.PrintWords Go.Proofs.YtkpiphihmmhhpaaW.PrintLast Go.Proofs.YtkpiphihmmhhpaaW.PrintMore
set_option linter.unusedVariables false
set_option linter.unusedSimpArgs false

theorem wf_u64 {a : Int} (h : (Lit.int .u64 a).wf = true) : 0 ≤ a ∧ a < 18446744073709551616 := by
  simp [Lit.wf, IntKind.min, IntKind.max, IntKind.bits, IntKind.signed] at h
  omega

theorem wf_i64 {a : Int} (h : (Lit.int .i64 a).wf = true) : -9223372036854775808 ≤ a ∧ a < 9223372036854775808 := by
  simp [Lit.wf, IntKind.min, IntKind.max, IntKind.bits, IntKind.signed] at h
  omega

theorem add_f {a b : Int} (ha : 0 ≤ a ∧ a < 18446744073709551616) (hb : 0 ≤ b ∧ b < 18446744073709551616) :
    num_Add.f a b = some (if a + b < 18446744073709551616 then (a + b, true) else (0, false)) := by
  unfold num_Add.f
  rw [IntKind.wrap_u64, IntKind.wrap_u64]
  by_cases h : a + b < 18446744073709551616
  · rw [if_neg (by omega), if_pos h, show (a + b) % 18446744073709551616 = a + b by omega]
  · rw [if_pos (by omega), if_neg h]

theorem plus_f {a b : Int} (ha : 0 ≤ a ∧ a < 18446744073709551616) (hb : 0 ≤ b ∧ b < 18446744073709551616) :
    num_Plus.f a b = some (if a + b < 18446744073709551616 then a + b else 18446744073709551615) := by
  unfold num_Plus.f
  rw [add_f ha hb]
  by_cases h : a + b < 18446744073709551616
  · simp [h]
  · simp [h]

theorem minus_f {a b : Int} (ha : 0 ≤ a ∧ a < 18446744073709551616) (hb : 0 ≤ b ∧ b < 18446744073709551616) :
    num_Minus.f a b = some (if b > a then 0 else a - b) := by
  unfold num_Minus.f
  rw [IntKind.wrap_u64]
  by_cases h : b > a
  · rw [if_pos h, if_pos h]
  · rw [if_neg h, if_neg h, show (a - b) % 18446744073709551616 = a - b by omega]

theorem mul_gt {a b m : Int} (ha : 0 < a) (h : m / a < b) : m < a * b := by
  have h1 := Int.lt_mul_of_ediv_lt ha h
  rwa [Int.mul_comm] at h1

theorem mul_le {a b m : Int} (ha : 0 < a) (h : b ≤ m / a) : a * b ≤ m := by
  have h1 := Int.mul_le_of_le_ediv ha h
  rwa [Int.mul_comm] at h1

theorem div_bd {a b : Int} (ha : 0 ≤ a) (hb : 0 < b) : 0 ≤ a / b ∧ a / b ≤ a :=
  ⟨Int.ediv_nonneg ha (by omega), Int.ediv_le_self b ha⟩

theorem times_f {a b : Int} (ha : 0 ≤ a ∧ a < 18446744073709551616) (hb : 0 ≤ b ∧ b < 18446744073709551616) :
    num_Times.f a b = some (if a * b < 18446744073709551616 then (a * b, true) else (0, false)) := by
  unfold num_Times.f
  rw [IntKind.wrap_u64, IntKind.wrap_u64]
  have h0 : 0 ≤ a * b := Int.mul_nonneg ha.1 hb.1
  by_cases hp : a > 0
  · rw [if_pos hp, if_neg (by omega)]
    have hd := div_bd (a := 18446744073709551615) (b := a) (by omega) hp
    rw [show (18446744073709551615 / a : Int) % 18446744073709551616 = 18446744073709551615 / a by omega]
    by_cases h : b > 18446744073709551615 / a
    · have := mul_gt hp h
      rw [if_pos h, if_neg (by omega)]
    · have := mul_le hp (show b ≤ 18446744073709551615 / a by omega)
      rw [if_neg h, if_pos (by omega), show (a * b) % 18446744073709551616 = a * b by omega]
  · obtain rfl : a = 0 := by omega
    simp

theorem div_lt_of_rem {a b : Int} (ha : 0 ≤ a ∧ a < 18446744073709551616) (hb : 0 < b) (h : a % b > 0) : a / b + 1 < 18446744073709551616 := by
  have hb2 : 2 ≤ b := by
    rcases Int.lt_or_le 1 b with h1 | h1
    · omega
    · obtain rfl : b = 1 := by omega
      omega
  have h1 : a / b ≤ a / 2 := by
    have h2 : a / b * b ≤ a := Int.ediv_mul_le a (by omega)
    have h3 : a / b * 2 ≤ a / b * b := Int.mul_le_mul_of_nonneg_left hb2 (Int.ediv_nonneg ha.1 (by omega))
    omega
  omega

theorem ceil_f {a b : Int} (ha : 0 ≤ a ∧ a < 18446744073709551616) (hb : 0 ≤ b ∧ b < 18446744073709551616) :
    num_Ceil.f a b = some (if b = 0 then 0 else if a % b > 0 then a / b + 1 else a / b) := by
  unfold num_Ceil.f
  by_cases h : b = 0
  · rw [if_pos h, if_pos h]
  · rw [if_neg h, if_neg h]
    have hd := div_bd (a := a) (b := b) ha.1 (by omega)
    rw [Int.tmod_eq_emod_of_nonneg ha.1, Int.tdiv_eq_ediv_of_nonneg ha.1, IntKind.wrap_u64, IntKind.wrap_u64, show (a / b) % 18446744073709551616 = a / b by omega]
    by_cases h2 : a % b > 0
    · have := div_lt_of_rem ha (show 0 < b by omega) h2
      rw [if_pos h2, if_pos h2, show (a / b + 1) % 18446744073709551616 = a / b + 1 by omega]
    · rw [if_neg h2, if_neg h2]

/-- How many periods on the next time is. -/
def nx (d p e : Int) : Int := (if d > e then 0 else e - d) / p + 1

theorem nx_bd {d p e : Int} (hd : 0 ≤ d ∧ d < 18446744073709551616) (hp : 0 < p) (he : 0 ≤ e ∧ e < 18446744073709551616) : 1 ≤ nx d p e ∧ nx d p e ≤ 18446744073709551616 := by
  unfold nx
  by_cases h : d > e
  · rw [if_pos h]; simp
  · rw [if_neg h]
    have := div_bd (a := e - d) (b := p) (by omega) hp
    omega

theorem next_f {d p e : Int} (hd : 0 ≤ d ∧ d < 18446744073709551616) (hp : 0 ≤ p ∧ p < 18446744073709551616) (he : 0 ≤ e ∧ e < 18446744073709551616) :
    num_Next.f d p e = some (if p = 0 then (0, 0, false) else if d + nx d p e * p < 18446744073709551616 then (d + nx d p e * p, nx d p e, true) else (0, 0, false)) := by
  unfold num_Next.f
  by_cases h0 : p = 0
  · rw [if_pos h0, if_pos h0]
  · rw [if_neg h0, if_neg h0, minus_f he hd]
    have hb := nx_bd hd (show 0 < p by omega) he
    have hnn : 0 ≤ (if d > e then 0 else e - d) := by split <;> omega
    have hdv := div_bd (a := if d > e then 0 else e - d) (b := p) hnn (by omega)
    have hlt : (if d > e then 0 else e - d) < 18446744073709551616 := by split <;> omega
    simp only [Option.bind_some]
    rw [Int.tdiv_eq_ediv_of_nonneg hnn, IntKind.wrap_u64 ((if d > e then 0 else e - d) / p), Int.emod_eq_of_lt hdv.1 (by omega), show (if d > e then 0 else e - d) / p + 1 = nx d p e from rfl, IntKind.wrap_u64]
    have hge : nx d p e ≤ nx d p e * p := by
      have := Int.mul_le_mul_of_nonneg_left (show 1 ≤ p by omega) (show 0 ≤ nx d p e by omega)
      omega
    by_cases hm : nx d p e = 18446744073709551616
    · rw [hm] at hge ⊢
      rw [if_pos (by decide), if_neg (by omega)]
    · rw [Int.emod_eq_of_lt (by omega) (by omega), if_neg (by omega), times_f (by omega) hp]
      by_cases h1 : nx d p e * p < 18446744073709551616
      · rw [if_pos h1]
        simp only [Option.bind_some, if_true]
        rw [add_f hd (by omega)]
        by_cases h2 : d + nx d p e * p < 18446744073709551616
        · simp [h2]
        · simp [h2]
      · rw [if_neg h1, if_neg (by omega)]
        simp

theorem and32 {x : Int} (h : 0 ≤ x ∧ x < 18446744073709551616) : Go.bits .and .u64 x 4294967295 = x % 4294967296 :=
  bits_mask .u64 64 (by decide) (fun n h0 h1 => by rw [IntKind.wrap_u64]; omega) 32 (by decide) x h.1 h.2

theorem or32 {x y : Int} (hx : 0 ≤ x ∧ x < 4294967296) (hy : 0 ≤ y ∧ y < 4294967296) : Go.bits .or .u64 (x * 4294967296) y = x * 4294967296 + y :=
  bits_join .u64 64 (by decide) (fun n h0 h1 => by rw [IntKind.wrap_u64]; omega) 32 (x * 4294967296) y (by omega) (by omega) (by omega) (by omega) (by omega) (by omega)

theorem alive_f : nightjarlaw01_alive.f = some true := by decide +kernel

theorem NumFirst : nightjarlaw01_NumFirst.Pure := by
  intro d p e wd wp we
  have hd := wf_u64 wd
  have hp := wf_u64 wp
  have he := wf_u64 we
  unfold nightjarlaw01_NumFirst.f
  rw [alive_f, next_f hd hp he]
  simp only [Option.bind_some, if_true]
  by_cases h0 : p = 0
  · simp [h0]
  · rw [if_neg h0, if_neg h0]
    have hn := nx_bd hd (show 0 < p by omega) he
    have hnp : p ≤ nx d p e * p := by
      have := Int.mul_le_mul_of_nonneg_right hn.1 (show 0 ≤ p by omega)
      omega
    have hq : d ≤ e → (nx d p e - 1) * p ≤ e - d ∧ e - d < nx d p e * p := by
      intro h
      unfold nx
      rw [if_neg (by omega), Int.add_sub_cancel]
      exact ⟨Int.ediv_mul_le _ (by omega), Int.lt_ediv_add_one_mul_self _ (by omega)⟩
    have hq0 : e < d → nx d p e = 1 := by
      intro h
      unfold nx
      rw [if_pos (by omega)]
      simp
    have hs : (nx d p e - 1) * p = nx d p e * p - p := by rw [Int.sub_mul, Int.one_mul]
    rw [hs] at hq
    by_cases h1 : d + nx d p e * p < 18446744073709551616
    · simp only [if_pos h1, if_true]
      have hdm : nx d p e * p / p = nx d p e := Int.mul_ediv_cancel _ h0
      have hmm : nx d p e * p % p = 0 := Int.mul_emod_left _ _
      generalize nx d p e * p = c at *
      generalize nx d p e = n at *
      have w1 : IntKind.u64.wrap (d + c - d) = c := by rw [IntKind.wrap_u64]; omega
      have w2 : IntKind.u64.wrap (d + c - p) = d + c - p := by rw [IntKind.wrap_u64]; omega
      have hgt : d + c > e := by
        by_cases h : d ≤ e
        · have := hq h; omega
        · omega
      have hn64 : n < 18446744073709551616 := by
        rcases Int.lt_or_le n 18446744073709551616 with h | h
        · exact h
        · have := Int.ediv_le_self p (show 0 ≤ c by omega)
          omega
      have w3 : IntKind.u64.wrap n = n := by rw [IntKind.wrap_u64]; omega
      rw [w1, w2, Int.tmod_eq_emod_of_nonneg (by omega), Int.tdiv_eq_ediv_of_nonneg (by omega), hdm, hmm, w3]
      rw [if_pos hgt, if_pos (by omega), if_pos rfl, if_pos rfl, if_pos hn.1]
      by_cases h : d ≤ e
      · have := hq h
        rw [if_pos (by omega)]
      · rw [hq0 (by omega)]
        simp
    · simp only [if_neg h1]
      simp only [Bool.false_eq_true, if_false, if_true]
      have hk := div_bd (a := 18446744073709551615 - d) (b := p) (by omega) (by omega)
      have w1 : IntKind.u64.wrap (18446744073709551615 - d) = 18446744073709551615 - d := by rw [IntKind.wrap_u64]; omega
      rw [w1, Int.tdiv_eq_ediv_of_nonneg (by omega)]
      have hkp : (18446744073709551615 - d) / p * p ≤ 18446744073709551615 - d := Int.ediv_mul_le _ (by omega)
      have hkl : (18446744073709551615 - d) / p < nx d p e := Int.ediv_lt_of_lt_mul (by omega) (by omega)
      have hkm : (18446744073709551615 - d) / p * p ≤ (nx d p e - 1) * p := Int.mul_le_mul_of_nonneg_right (by omega) (by omega)
      rw [hs] at hkm
      have hkp0 : 0 ≤ (18446744073709551615 - d) / p * p := Int.mul_nonneg hk.1 hp.1
      have w2 : IntKind.u64.wrap ((18446744073709551615 - d) / p) = (18446744073709551615 - d) / p := by rw [IntKind.wrap_u64]; omega
      have w3 : IntKind.u64.wrap ((18446744073709551615 - d) / p * p) = (18446744073709551615 - d) / p * p := by rw [IntKind.wrap_u64]; omega
      rw [w2, w3]
      have w4 : IntKind.u64.wrap (d + (18446744073709551615 - d) / p * p) = d + (18446744073709551615 - d) / p * p := by rw [IntKind.wrap_u64]; omega
      rw [w4]
      by_cases h : d ≤ e
      · have := hq h
        rw [decide_eq_true (by omega)]
        simp
      · rw [if_pos (by have := hq0 (by omega); omega)]

end Go.Proofs.Ytkpiphihmmhhpaa.Pure
