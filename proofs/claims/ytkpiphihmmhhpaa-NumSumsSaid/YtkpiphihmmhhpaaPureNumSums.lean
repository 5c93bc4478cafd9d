/- NumSums: for all numbers, sums, differences and their bounds are as the reference says, and a clamped number lies between its bounds. No condition. -/
import Derived.Test.YtkpiphihmmhhpaaONumSumsx3
namespace Go.Proofs.Ytkpiphihmmhhpaa.Pure
open Go.RowKit Go.Proofs.Ytkpiphihmmhhpaa.PNumSums Go.Proofs.YtkpiphihmmhhpaaW.PrintWords Go.Proofs.YtkpiphihmmhhpaaW.PrintLast Go.Proofs.YtkpiphihmmhhpaaW.PrintMore
set_option linter.unusedVariables false
set_option linter.unusedSimpArgs false

theorem wf_u64 {a : Int} (h : (Lit.int .u64 a).wf = true) : 0 ≤ a ∧ a < 18446744073709551616 := by
  simp [Lit.wf, IntKind.min, IntKind.max, IntKind.bits, IntKind.signed] at h
  omega

theorem wf_i64 {a : Int} (h : (Lit.int .i64 a).wf = true) : -9223372036854775808 ≤ a ∧ a < 9223372036854775808 := by
  simp [Lit.wf, IntKind.min, IntKind.max, IntKind.bits, IntKind.signed] at h
  omega

theorem add_f {a b : Int} (ha : 0 ≤ a ∧ a < 18446744073709551616) (hb : 0 ≤ b ∧ b < 18446744073709551616) :
    num_Add.f a b = some (if a + b < 18446744073709551616 then (a + b, true) else (0, false)) := by
  unfold num_Add.f
  rw [IntKind.wrap_u64, IntKind.wrap_u64]
  by_cases h : a + b < 18446744073709551616
  · rw [if_neg (by omega), if_pos h, show (a + b) % 18446744073709551616 = a + b by omega]
  · rw [if_pos (by omega), if_neg h]

theorem plus_f {a b : Int} (ha : 0 ≤ a ∧ a < 18446744073709551616) (hb : 0 ≤ b ∧ b < 18446744073709551616) :
    num_Plus.f a b = some (if a + b < 18446744073709551616 then a + b else 18446744073709551615) := by
  unfold num_Plus.f
  rw [add_f ha hb]
  by_cases h : a + b < 18446744073709551616
  · simp [h]
  · simp [h]

theorem minus_f {a b : Int} (ha : 0 ≤ a ∧ a < 18446744073709551616) (hb : 0 ≤ b ∧ b < 18446744073709551616) :
    num_Minus.f a b = some (if b > a then 0 else a - b) := by
  unfold num_Minus.f
  rw [IntKind.wrap_u64]
  by_cases h : b > a
  · rw [if_pos h, if_pos h]
  · rw [if_neg h, if_neg h, show (a - b) % 18446744073709551616 = a - b by omega]

theorem mul_gt {a b m : Int} (ha : 0 < a) (h : m / a < b) : m < a * b := by
  have h1 := Int.lt_mul_of_ediv_lt ha h
  rwa [Int.mul_comm] at h1

theorem mul_le {a b m : Int} (ha : 0 < a) (h : b ≤ m / a) : a * b ≤ m := by
  have h1 := Int.mul_le_of_le_ediv ha h
  rwa [Int.mul_comm] at h1

theorem div_bd {a b : Int} (ha : 0 ≤ a) (hb : 0 < b) : 0 ≤ a / b ∧ a / b ≤ a :=
  ⟨Int.ediv_nonneg ha (by omega), Int.ediv_le_self b ha⟩

theorem times_f {a b : Int} (ha : 0 ≤ a ∧ a < 18446744073709551616) (hb : 0 ≤ b ∧ b < 18446744073709551616) :
    num_Times.f a b = some (if a * b < 18446744073709551616 then (a * b, true) else (0, false)) := by
  unfold num_Times.f
  rw [IntKind.wrap_u64, IntKind.wrap_u64]
  have h0 : 0 ≤ a * b := Int.mul_nonneg ha.1 hb.1
  by_cases hp : a > 0
  · rw [if_pos hp, if_neg (by omega)]
    have hd := div_bd (a := 18446744073709551615) (b := a) (by omega) hp
    rw [show (18446744073709551615 / a : Int) % 18446744073709551616 = 18446744073709551615 / a by omega]
    by_cases h : b > 18446744073709551615 / a
    · have := mul_gt hp h
      rw [if_pos h, if_neg (by omega)]
    · have := mul_le hp (show b ≤ 18446744073709551615 / a by omega)
      rw [if_neg h, if_pos (by omega), show (a * b) % 18446744073709551616 = a * b by omega]
  · obtain rfl : a = 0 := by omega
    simp

theorem div_lt_of_rem {a b : Int} (ha : 0 ≤ a ∧ a < 18446744073709551616) (hb : 0 < b) (h : a % b > 0) : a / b + 1 < 18446744073709551616 := by
  have hb2 : 2 ≤ b := by
    rcases Int.lt_or_le 1 b with h1 | h1
    · omega
    · obtain rfl : b = 1 := by omega
      omega
  have h1 : a / b ≤ a / 2 := by
    have h2 : a / b * b ≤ a := Int.ediv_mul_le a (by omega)
    have h3 : a / b * 2 ≤ a / b * b := Int.mul_le_mul_of_nonneg_left hb2 (Int.ediv_nonneg ha.1 (by omega))
    omega
  omega

theorem ceil_f {a b : Int} (ha : 0 ≤ a ∧ a < 18446744073709551616) (hb : 0 ≤ b ∧ b < 18446744073709551616) :
    num_Ceil.f a b = some (if b = 0 then 0 else if a % b > 0 then a / b + 1 else a / b) := by
  unfold num_Ceil.f
  by_cases h : b = 0
  · rw [if_pos h, if_pos h]
  · rw [if_neg h, if_neg h]
    have hd := div_bd (a := a) (b := b) ha.1 (by omega)
    rw [Int.tmod_eq_emod_of_nonneg ha.1, Int.tdiv_eq_ediv_of_nonneg ha.1, IntKind.wrap_u64, IntKind.wrap_u64, show (a / b) % 18446744073709551616 = a / b by omega]
    by_cases h2 : a % b > 0
    · have := div_lt_of_rem ha (show 0 < b by omega) h2
      rw [if_pos h2, if_pos h2, show (a / b + 1) % 18446744073709551616 = a / b + 1 by omega]
    · rw [if_neg h2, if_neg h2]

/-- How many periods on the next time is. -/
def nx (d p e : Int) : Int := (if d > e then 0 else e - d) / p + 1

theorem nx_bd {d p e : Int} (hd : 0 ≤ d ∧ d < 18446744073709551616) (hp : 0 < p) (he : 0 ≤ e ∧ e < 18446744073709551616) : 1 ≤ nx d p e ∧ nx d p e ≤ 18446744073709551616 := by
  unfold nx
  by_cases h : d > e
  · rw [if_pos h]; simp
  · rw [if_neg h]
    have := div_bd (a := e - d) (b := p) (by omega) hp
    omega

theorem next_f {d p e : Int} (hd : 0 ≤ d ∧ d < 18446744073709551616) (hp : 0 ≤ p ∧ p < 18446744073709551616) (he : 0 ≤ e ∧ e < 18446744073709551616) :
    num_Next.f d p e = some (if p = 0 then (0, 0, false) else if d + nx d p e * p < 18446744073709551616 then (d + nx d p e * p, nx d p e, true) else (0, 0, false)) := by
  unfold num_Next.f
  by_cases h0 : p = 0
  · rw [if_pos h0, if_pos h0]
  · rw [if_neg h0, if_neg h0, minus_f he hd]
    have hb := nx_bd hd (show 0 < p by omega) he
    have hnn : 0 ≤ (if d > e then 0 else e - d) := by split <;> omega
    have hdv := div_bd (a := if d > e then 0 else e - d) (b := p) hnn (by omega)
    have hlt : (if d > e then 0 else e - d) < 18446744073709551616 := by split <;> omega
    simp only [Option.bind_some]
    rw [Int.tdiv_eq_ediv_of_nonneg hnn, IntKind.wrap_u64 ((if d > e then 0 else e - d) / p), Int.emod_eq_of_lt hdv.1 (by omega), show (if d > e then 0 else e - d) / p + 1 = nx d p e from rfl, IntKind.wrap_u64]
    have hge : nx d p e ≤ nx d p e * p := by
      have := Int.mul_le_mul_of_nonneg_left (show 1 ≤ p by omega) (show 0 ≤ nx d p e by omega)
      omega
    by_cases hm : nx d p e = 18446744073709551616
    · rw [hm] at hge ⊢
      rw [if_pos (by decide), if_neg (by omega)]
    · rw [Int.emod_eq_of_lt (by omega) (by omega), if_neg (by omega), times_f (by omega) hp]
      by_cases h1 : nx d p e * p < 18446744073709551616
      · rw [if_pos h1]
        simp only [Option.bind_some, if_true]
        rw [add_f hd (by omega)]
        by_cases h2 : d + nx d p e * p < 18446744073709551616
        · simp [h2]
        · simp [h2]
      · rw [if_neg h1, if_neg (by omega)]
        simp

theorem and32 {x : Int} (h : 0 ≤ x ∧ x < 18446744073709551616) : Go.bits .and .u64 x 4294967295 = x % 4294967296 :=
  bits_mask .u64 64 (by decide) (fun n h0 h1 => by rw [IntKind.wrap_u64]; omega) 32 (by decide) x h.1 h.2

theorem or32 {x y : Int} (hx : 0 ≤ x ∧ x < 4294967296) (hy : 0 ≤ y ∧ y < 4294967296) : Go.bits .or .u64 (x * 4294967296) y = x * 4294967296 + y :=
  bits_join .u64 64 (by decide) (fun n h0 h1 => by rw [IntKind.wrap_u64]; omega) 32 (x * 4294967296) y (by omega) (by omega) (by omega) (by omega) (by omega) (by omega)

theorem sum_f {a b : Int} (ha : 0 ≤ a ∧ a < 18446744073709551616) (hb : 0 ≤ b ∧ b < 18446744073709551616) :
    nightjarref01_Sum.f a b = some ((a + b) / 18446744073709551616, (a + b) % 18446744073709551616) := by
  unfold nightjarref01_Sum.f
  have e1 := and32 ha
  have e2 := and32 hb
  rw [e1, e2]
  have w1 : IntKind.u64.wrap (a % 4294967296 + b % 4294967296) = a % 4294967296 + b % 4294967296 := by rw [IntKind.wrap_u64]; omega
  have w2 : IntKind.u64.wrap (a / 4294967296 + b / 4294967296) = a / 4294967296 + b / 4294967296 := by rw [IntKind.wrap_u64]; omega
  rw [w1, w2, and32 (by omega)]
  have w3 : IntKind.u64.wrap (a / 4294967296 + b / 4294967296 + (a % 4294967296 + b % 4294967296) / 4294967296) = a / 4294967296 + b / 4294967296 + (a % 4294967296 + b % 4294967296) / 4294967296 := by rw [IntKind.wrap_u64]; omega
  rw [w3]
  have w4 : IntKind.u64.wrap ((a / 4294967296 + b / 4294967296 + (a % 4294967296 + b % 4294967296) / 4294967296) * 4294967296) = ((a / 4294967296 + b / 4294967296 + (a % 4294967296 + b % 4294967296) / 4294967296) % 4294967296) * 4294967296 := by rw [IntKind.wrap_u64]; omega
  rw [w4, or32 (by omega) (by omega)]
  congr 1
  refine Prod.ext ?_ ?_
  · show (a / 4294967296 + b / 4294967296 + (a % 4294967296 + b % 4294967296) / 4294967296) / 4294967296 = (a + b) / 18446744073709551616
    omega
  · show (a / 4294967296 + b / 4294967296 + (a % 4294967296 + b % 4294967296) / 4294967296) % 4294967296 * 4294967296 + (a % 4294967296 + b % 4294967296) % 4294967296 = (a + b) % 18446744073709551616
    omega

theorem alive_f : nightjarlaw01_alive.f = some true := by decide +kernel

theorem clamp_ok (n lo hi : Int) : (if lo > hi then (some true) else (if mx lo (mn n hi) ≥ lo then (if mx lo (mn n hi) ≤ hi then (if mx lo (mn n hi) = n then (some true) else (if n < lo then (if mx lo (mn n hi) = lo then (some true) else (if n > hi then (some (mx lo (mn n hi) == hi)) else (some false))) else (if n > hi then (some (mx lo (mn n hi) == hi)) else (some false)))) else (some false)) else (some false))) = some true := by
  unfold mx mn
  (repeat' split) <;> first | rfl | omega | (simp; done) | (simp; omega)

theorem j0_f {a b n lo hi : Int} (ha : 0 ≤ a ∧ a < 18446744073709551616) (hb : 0 ≤ b ∧ b < 18446744073709551616) : nightjarlaw01_NumSums.j0 1 a b n lo hi false = some true := by
  simp only [nightjarlaw01_NumSums.j0]
  rw [minus_f ha hb]
  simp only [Option.bind_some, num_Clamp.f]
  rw [if_neg (by simp)]
  by_cases h : b > a
  · have h' : ¬ b ≤ a := by omega
    simp only [if_pos h, if_neg h', if_true]
    exact clamp_ok n lo hi
  · have h' : b ≤ a := by omega
    simp only [if_neg h, if_pos h']
    rw [sum_f (by omega) hb, show a - b + b = a by omega]
    simp only [Option.bind_some]
    have e1 : a / 18446744073709551616 = 0 := by omega
    have e2 : a % 18446744073709551616 = a := by omega
    rw [e1, e2, if_neg (by simp)]
    exact clamp_ok n lo hi

theorem NumSums : nightjarlaw01_NumSums.Pure := by
  intro a b n lo hi wa wb wn wl wh
  have ha := wf_u64 wa
  have hb := wf_u64 wb
  refine ⟨1, ?_⟩
  unfold nightjarlaw01_NumSums.f
  rw [alive_f, sum_f ha hb, add_f ha hb, plus_f ha hb]
  by_cases h : a + b < 18446744073709551616
  · have e1 : (a + b) / 18446744073709551616 = 0 := by omega
    have e2 : (a + b) % 18446744073709551616 = a + b := by omega
    simp [h, e1, e2, j0_f ha hb]
  · have e1 : ¬ (a + b) / 18446744073709551616 = 0 := by omega
    simp [h, e1, j0_f ha hb]

end Go.Proofs.Ytkpiphihmmhhpaa.Pure
