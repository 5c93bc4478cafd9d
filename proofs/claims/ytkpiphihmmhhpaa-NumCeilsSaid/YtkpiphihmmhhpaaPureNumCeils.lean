/- NumCeils: for all numbers, so many times b is at least a, and one time less is not. No condition. -/
import Derived.Test.YtkpiphihmmhhpaaONumCeilsx1
namespace Go.Proofs.Ytkpiphihmmhhpaa.Pure
open Go.RowKit Go.Proofs.Ytkpiphihmmhhpaa.PNumCeils Go.Proofs.YtkpiphihmmhhpaaW.PrintWords Go.Proofs.YtkpiphihmmhhpaaW.PrintLast Go.Proofs.YtkpiphihmmhhpaaW.PrintMore
set_option linter.unusedVariables false
set_option linter.unusedSimpArgs false

theorem wf_u64 {a : Int} (h : (Lit.int .u64 a).wf = true) : 0 ≤ a ∧ a < 18446744073709551616 := by
  simp [Lit.wf, IntKind.min, IntKind.max, IntKind.bits, IntKind.signed] at h
  omega

theorem wf_i64 {a : Int} (h : (Lit.int .i64 a).wf = true) : -9223372036854775808 ≤ a ∧ a < 9223372036854775808 := by
  simp [Lit.wf, IntKind.min, IntKind.max, IntKind.bits, IntKind.signed] at h
  omega

theorem add_f {a b : Int} (ha : 0 ≤ a ∧ a < 18446744073709551616) (hb : 0 ≤ b ∧ b < 18446744073709551616) :
    num_Add.f a b = some (if a + b < 18446744073709551616 then (a + b, true) else (0, false)) := by
  unfold num_Add.f
  rw [IntKind.wrap_u64, IntKind.wrap_u64]
  by_cases h : a + b < 18446744073709551616
  · rw [if_neg (by omega), if_pos h, show (a + b) % 18446744073709551616 = a + b by omega]
  · rw [if_pos (by omega), if_neg h]

theorem plus_f {a b : Int} (ha : 0 ≤ a ∧ a < 18446744073709551616) (hb : 0 ≤ b ∧ b < 18446744073709551616) :
    num_Plus.f a b = some (if a + b < 18446744073709551616 then a + b else 18446744073709551615) := by
  unfold num_Plus.f
  rw [add_f ha hb]
  by_cases h : a + b < 18446744073709551616
  · simp [h]
  · simp [h]

theorem minus_f {a b : Int} (ha : 0 ≤ a ∧ a < 18446744073709551616) (hb : 0 ≤ b ∧ b < 18446744073709551616) :
    num_Minus.f a b = some (if b > a then 0 else a - b) := by
  unfold num_Minus.f
  rw [IntKind.wrap_u64]
  by_cases h : b > a
  · rw [if_pos h, if_pos h]
  · rw [if_neg h, if_neg h, show (a - b) % 18446744073709551616 = a - b by omega]

theorem mul_gt {a b m : Int} (ha : 0 < a) (h : m / a < b) : m < a * b := by
  have h1 := Int.lt_mul_of_ediv_lt ha h
  rwa [Int.mul_comm] at h1

theorem mul_le {a b m : Int} (ha : 0 < a) (h : b ≤ m / a) : a * b ≤ m := by
  have h1 := Int.mul_le_of_le_ediv ha h
  rwa [Int.mul_comm] at h1

theorem div_bd {a b : Int} (ha : 0 ≤ a) (hb : 0 < b) : 0 ≤ a / b ∧ a / b ≤ a :=
  ⟨Int.ediv_nonneg ha (by omega), Int.ediv_le_self b ha⟩

theorem times_f {a b : Int} (ha : 0 ≤ a ∧ a < 18446744073709551616) (hb : 0 ≤ b ∧ b < 18446744073709551616) :
    num_Times.f a b = some (if a * b < 18446744073709551616 then (a * b, true) else (0, false)) := by
  unfold num_Times.f
  rw [IntKind.wrap_u64, IntKind.wrap_u64]
  have h0 : 0 ≤ a * b := Int.mul_nonneg ha.1 hb.1
  by_cases hp : a > 0
  · rw [if_pos hp, if_neg (by omega)]
    have hd := div_bd (a := 18446744073709551615) (b := a) (by omega) hp
    rw [show (18446744073709551615 / a : Int) % 18446744073709551616 = 18446744073709551615 / a by omega]
    by_cases h : b > 18446744073709551615 / a
    · have := mul_gt hp h
      rw [if_pos h, if_neg (by omega)]
    · have := mul_le hp (show b ≤ 18446744073709551615 / a by omega)
      rw [if_neg h, if_pos (by omega), show (a * b) % 18446744073709551616 = a * b by omega]
  · obtain rfl : a = 0 := by omega
    simp

theorem div_lt_of_rem {a b : Int} (ha : 0 ≤ a ∧ a < 18446744073709551616) (hb : 0 < b) (h : a % b > 0) : a / b + 1 < 18446744073709551616 := by
  have hb2 : 2 ≤ b := by
    rcases Int.lt_or_le 1 b with h1 | h1
    · omega
    · obtain rfl : b = 1 := by omega
      omega
  have h1 : a / b ≤ a / 2 := by
    have h2 : a / b * b ≤ a := Int.ediv_mul_le a (by omega)
    have h3 : a / b * 2 ≤ a / b * b := Int.mul_le_mul_of_nonneg_left hb2 (Int.ediv_nonneg ha.1 (by omega))
    omega
  omega

theorem ceil_f {a b : Int} (ha : 0 ≤ a ∧ a < 18446744073709551616) (hb : 0 ≤ b ∧ b < 18446744073709551616) :
    num_Ceil.f a b = some (if b = 0 then 0 else if a % b > 0 then a / b + 1 else a / b) := by
  unfold num_Ceil.f
  by_cases h : b = 0
  · rw [if_pos h, if_pos h]
  · rw [if_neg h, if_neg h]
    have hd := div_bd (a := a) (b := b) ha.1 (by omega)
    rw [Int.tmod_eq_emod_of_nonneg ha.1, Int.tdiv_eq_ediv_of_nonneg ha.1, IntKind.wrap_u64, IntKind.wrap_u64, show (a / b) % 18446744073709551616 = a / b by omega]
    by_cases h2 : a % b > 0
    · have := div_lt_of_rem ha (show 0 < b by omega) h2
      rw [if_pos h2, if_pos h2, show (a / b + 1) % 18446744073709551616 = a / b + 1 by omega]
    · rw [if_neg h2, if_neg h2]

/-- How many periods on the next time is. -/
def nx (d p e : Int) : Int := (if d > e then 0 else e - d) / p + 1

theorem nx_bd {d p e : Int} (hd : 0 ≤ d ∧ d < 18446744073709551616) (hp : 0 < p) (he : 0 ≤ e ∧ e < 18446744073709551616) : 1 ≤ nx d p e ∧ nx d p e ≤ 18446744073709551616 := by
  unfold nx
  by_cases h : d > e
  · rw [if_pos h]; simp
  · rw [if_neg h]
    have := div_bd (a := e - d) (b := p) (by omega) hp
    omega

theorem next_f {d p e : Int} (hd : 0 ≤ d ∧ d < 18446744073709551616) (hp : 0 ≤ p ∧ p < 18446744073709551616) (he : 0 ≤ e ∧ e < 18446744073709551616) :
    num_Next.f d p e = some (if p = 0 then (0, 0, false) else if d + nx d p e * p < 18446744073709551616 then (d + nx d p e * p, nx d p e, true) else (0, 0, false)) := by
  unfold num_Next.f
  by_cases h0 : p = 0
  · rw [if_pos h0, if_pos h0]
  · rw [if_neg h0, if_neg h0, minus_f he hd]
    have hb := nx_bd hd (show 0 < p by omega) he
    have hnn : 0 ≤ (if d > e then 0 else e - d) := by split <;> omega
    have hdv := div_bd (a := if d > e then 0 else e - d) (b := p) hnn (by omega)
    have hlt : (if d > e then 0 else e - d) < 18446744073709551616 := by split <;> omega
    simp only [Option.bind_some]
    rw [Int.tdiv_eq_ediv_of_nonneg hnn, IntKind.wrap_u64 ((if d > e then 0 else e - d) / p), Int.emod_eq_of_lt hdv.1 (by omega), show (if d > e then 0 else e - d) / p + 1 = nx d p e from rfl, IntKind.wrap_u64]
    have hge : nx d p e ≤ nx d p e * p := by
      have := Int.mul_le_mul_of_nonneg_left (show 1 ≤ p by omega) (show 0 ≤ nx d p e by omega)
      omega
    by_cases hm : nx d p e = 18446744073709551616
    · rw [hm] at hge ⊢
      rw [if_pos (by decide), if_neg (by omega)]
    · rw [Int.emod_eq_of_lt (by omega) (by omega), if_neg (by omega), times_f (by omega) hp]
      by_cases h1 : nx d p e * p < 18446744073709551616
      · rw [if_pos h1]
        simp only [Option.bind_some, if_true]
        rw [add_f hd (by omega)]
        by_cases h2 : d + nx d p e * p < 18446744073709551616
        · simp [h2]
        · simp [h2]
      · rw [if_neg h1, if_neg (by omega)]
        simp

theorem and32 {x : Int} (h : 0 ≤ x ∧ x < 18446744073709551616) : Go.bits .and .u64 x 4294967295 = x % 4294967296 :=
  bits_mask .u64 64 (by decide) (fun n h0 h1 => by rw [IntKind.wrap_u64]; omega) 32 (by decide) x h.1 h.2

theorem or32 {x y : Int} (hx : 0 ≤ x ∧ x < 4294967296) (hy : 0 ≤ y ∧ y < 4294967296) : Go.bits .or .u64 (x * 4294967296) y = x * 4294967296 + y :=
  bits_join .u64 64 (by decide) (fun n h0 h1 => by rw [IntKind.wrap_u64]; omega) 32 (x * 4294967296) y (by omega) (by omega) (by omega) (by omega) (by omega) (by omega)

theorem mul_bd {x y : Int} (hx : 0 ≤ x ∧ x < 4294967296) (hy : 0 ≤ y ∧ y < 4294967296) : 0 ≤ x * y ∧ x * y ≤ 18446744065119617025 := by
  refine ⟨Int.mul_nonneg hx.1 hy.1, ?_⟩
  have h1 : x * y ≤ x * 4294967295 := Int.mul_le_mul_of_nonneg_left (by omega) hx.1
  omega

theorem mul_parts (al ah bl bh : Int) : (al + ah * 4294967296) * (bl + bh * 4294967296) = al * bl + (ah * bl + al * bh) * 4294967296 + ah * bh * 18446744073709551616 := by
  grind

theorem hi_lo {p0 p1 p2 p3 n m : Int} (h0 : 0 ≤ p0 ∧ p0 ≤ 18446744065119617025) (h1 : 0 ≤ p1 ∧ p1 ≤ 18446744065119617025) (h2 : 0 ≤ p2 ∧ p2 ≤ 18446744065119617025) (h3 : 0 ≤ p3 ∧ p3 ≤ 18446744065119617025)
    (hn : n = p1 + p0 / 4294967296) (hm : m = p2 + n % 4294967296) :
    p3 + n / 4294967296 + m / 4294967296 = (p0 + (p1 + p2) * 4294967296 + p3 * 18446744073709551616) / 18446744073709551616 ∧
    m % 4294967296 * 4294967296 + p0 % 4294967296 = (p0 + (p1 + p2) * 4294967296 + p3 * 18446744073709551616) % 18446744073709551616 := by
  subst hm
  subst hn
  omega

theorem product_f {a b : Int} (ha : 0 ≤ a ∧ a < 18446744073709551616) (hb : 0 ≤ b ∧ b < 18446744073709551616) :
    nightjarref01_Product.f a b = some (a * b / 18446744073709551616, a * b % 18446744073709551616) := by
  obtain ⟨al, hal⟩ : ∃ al, al = a % 4294967296 := ⟨_, rfl⟩
  obtain ⟨ah, hah⟩ : ∃ ah, ah = a / 4294967296 := ⟨_, rfl⟩
  obtain ⟨bl, hbl⟩ : ∃ bl, bl = b % 4294967296 := ⟨_, rfl⟩
  obtain ⟨bh, hbh⟩ : ∃ bh, bh = b / 4294967296 := ⟨_, rfl⟩
  have hab : a * b = al * bl + (ah * bl + al * bh) * 4294967296 + ah * bh * 18446744073709551616 := by
    rw [← mul_parts, show al + ah * 4294967296 = a by omega, show bl + bh * 4294967296 = b by omega]
  have c0 := mul_bd (x := al) (y := bl) (by omega) (by omega)
  have c1 := mul_bd (x := ah) (y := bl) (by omega) (by omega)
  have c2 := mul_bd (x := al) (y := bh) (by omega) (by omega)
  have c3 := mul_bd (x := ah) (y := bh) (by omega) (by omega)
  have c4 : ah * bh * 18446744073709551616 ≤ a * b := by omega
  unfold nightjarref01_Product.f
  rw [and32 ha, and32 hb, ← hal, ← hah, ← hbl, ← hbh, hab]
  generalize al * bl = p0 at *
  generalize ah * bl = p1 at *
  generalize al * bh = p2 at *
  generalize ah * bh = p3 at *
  have w0 : IntKind.u64.wrap p0 = p0 := by rw [IntKind.wrap_u64]; omega
  have w1 : IntKind.u64.wrap p1 = p1 := by rw [IntKind.wrap_u64]; omega
  have w2 : IntKind.u64.wrap p2 = p2 := by rw [IntKind.wrap_u64]; omega
  have w3 : IntKind.u64.wrap p3 = p3 := by rw [IntKind.wrap_u64]; omega
  rw [w0, w1, w2, w3]
  have w4 : IntKind.u64.wrap (p1 + p0 / 4294967296) = p1 + p0 / 4294967296 := by rw [IntKind.wrap_u64]; omega
  rw [w4]
  obtain ⟨n, hn⟩ : ∃ n, n = p1 + p0 / 4294967296 := ⟨_, rfl⟩
  rw [← hn, and32 (by omega)]
  have w5 : IntKind.u64.wrap (p2 + n % 4294967296) = p2 + n % 4294967296 := by rw [IntKind.wrap_u64]; omega
  rw [w5]
  obtain ⟨m, hm⟩ : ∃ m, m = p2 + n % 4294967296 := ⟨_, rfl⟩
  rw [← hm, and32 (by omega)]
  have w6 : IntKind.u64.wrap (m * 4294967296) = m % 4294967296 * 4294967296 := by rw [IntKind.wrap_u64]; omega
  rw [w6, or32 (by omega) (by omega)]
  have hl := hi_lo c0 c1 c2 c3 hn hm
  have w7 : IntKind.u64.wrap (p3 + n / 4294967296) = p3 + n / 4294967296 := by rw [IntKind.wrap_u64]; omega
  have w8 : IntKind.u64.wrap (p3 + n / 4294967296 + m / 4294967296) = p3 + n / 4294967296 + m / 4294967296 := by rw [IntKind.wrap_u64]; omega
  rw [w7, w8, hl.1, hl.2]

theorem alive_f : nightjarlaw01_alive.f = some true := by decide +kernel

theorem NumCeils : nightjarlaw01_NumCeils.Pure := by
  intro a b wa wb
  have ha := wf_u64 wa
  have hb := wf_u64 wb
  unfold nightjarlaw01_NumCeils.f
  rw [alive_f, ceil_f ha hb]
  simp only [Option.bind_some, if_true]
  by_cases h0 : b = 0
  · simp [h0]
  · have hd := div_bd (a := a) (b := b) ha.1 (by omega)
    have hm := Int.emod_add_mul_ediv a b
    have hr := Int.emod_nonneg a h0
    have hr2 := Int.emod_lt_of_pos a (show 0 < b by omega)
    rw [Int.mul_comm] at hm
    have hqb : 0 ≤ a / b * b := Int.mul_nonneg hd.1 hb.1
    rw [if_neg h0, if_neg h0]
    by_cases h2 : a % b > 0
    · have := div_lt_of_rem ha (show 0 < b by omega) h2
      rw [if_pos h2, product_f (by omega) hb]
      have e : (a / b + 1) * b = a / b * b + b := by rw [Int.add_mul, Int.one_mul]
      have e1 : IntKind.u64.wrap (a / b + 1 - 1) = a / b := by rw [IntKind.wrap_u64]; omega
      rw [e1, e]
      have e2 : IntKind.u64.wrap (a / b * b) = a / b * b := by rw [IntKind.wrap_u64]; omega
      rw [e2]
      generalize a / b * b = c at *
      simp only [Option.bind_some]
      rw [if_neg (show ¬ a / b + 1 = 0 by omega), if_pos (show a / b + 1 > 0 by omega), decide_eq_true (show c < a by omega)]
      by_cases h3 : (c + b) / 18446744073709551616 = 0
      · rw [if_pos h3, if_neg (by omega)]
      · rw [if_neg h3]
    · rw [if_neg h2, product_f (by omega) hb]
      have e : a / b * b = a := by omega
      rw [e]
      have h3 : a / 18446744073709551616 = 0 := by omega
      have h4 : a % 18446744073709551616 = a := by omega
      simp only [Option.bind_some]
      rw [h3, h4, if_pos rfl, if_neg (by omega)]
      by_cases h5 : a / b = 0
      · rw [h5] at e ⊢
        rw [if_pos rfl, if_pos (by omega)]
      · have e1 : IntKind.u64.wrap (a / b - 1) = a / b - 1 := by rw [IntKind.wrap_u64]; omega
        have e2 : (a / b - 1) * b = a - b := by rw [Int.sub_mul, Int.one_mul, e]
        have hge : b ≤ a := by
          have := Int.mul_le_mul_of_nonneg_right (show 1 ≤ a / b by omega) (show 0 ≤ b by omega)
          omega
        have e3 : IntKind.u64.wrap (a - b) = a - b := by rw [IntKind.wrap_u64]; omega
        rw [if_neg h5, if_pos (by omega), e1, e2, e3, decide_eq_true (by omega)]

end Go.Proofs.Ytkpiphihmmhhpaa.Pure
