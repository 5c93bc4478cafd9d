/- Sums and products of ticks, as the program and the document reckon them. No condition. -/
import Derived.Test.YtnlbcgonegeofaaPlP
import Derived.Deep.LoopGhost
import Derived.Laws.BitsLemmas
namespace Go.Proofs.Ytnlbcgonegeofaa
open Go.RowKit
set_option linter.unusedVariables false
set_option linter.unusedSimpArgs false
set_option maxRecDepth 100000

theorem wrapU {x : Int} (h : 0 ≤ x ∧ x < 18446744073709551616) : IntKind.u64.wrap x = x := by rw [IntKind.wrap_u64]; omega

theorem add_yes (w : World) {a b : Nat} (h : a + b < U64) : Calls Try.prog 20 #[.int .u64 a, .int .u64 b] w fun e w' => e = .returned (.tuple #[.int .u64 ((a + b : Nat) : Int), .bool true]) ∧ w = w' := by
  unfold U64 at h
  have h1 : decide (IntKind.u64.wrap (18446744073709551615 - (a : Int)) < (b : Int)) = false := by rw [wrapU (by omega)]; exact decide_eq_false (by omega)
  have h2 := Lib.hid (show IntKind.u64.wrap ((a : Int) + b) = ((a + b : Nat) : Int) by rw [wrapU (by omega)]; omega)
  clear h
  go_enter Try.func20, Try.ntmps20
  go_wp2
  go_ret2
  exact ⟨by rw [← h2.out]; rfl, rfl⟩
theorem add_no (w : World) {a b : Nat} (ha : a < U64) (hb : b < U64) (h : U64 ≤ a + b) : Calls Try.prog 20 #[.int .u64 a, .int .u64 b] w fun e w' => e = .returned (.tuple #[.int .u64 0, .bool false]) ∧ w = w' := by
  unfold U64 at *
  have h1 : decide (IntKind.u64.wrap (18446744073709551615 - (a : Int)) < (b : Int)) = true := by rw [wrapU (by omega)]; exact decide_eq_true (by omega)
  clear h ha hb
  go_enter Try.func20, Try.ntmps20
  go_wp2
  go_ret2
  exact ⟨rfl, rfl⟩
theorem plus_yes (w : World) {a b : Nat} (h : a + b < U64) : Calls Try.prog 24 #[.int .u64 a, .int .u64 b] w fun e w' => e = .returned (.int .u64 ((a + b : Nat) : Int)) ∧ w = w' := by
  go_enter Try.func24, Try.ntmps24
  go_wp2_with (first | (go_at_call 20; refine (add_yes _ h).mono ?_; rintro e w1 ⟨rfl, rfl⟩) | fail)
  go_ret
  exact ⟨rfl, rfl⟩
theorem times_yes (w : World) {a b : Nat} (ha : a < U64) (h : a * b < U64) : Calls Try.prog 23 #[.int .u64 a, .int .u64 b] w fun e w' => e = .returned (.tuple #[.int .u64 ((a * b : Nat) : Int), .bool true]) ∧ w = w' := by
  unfold U64 at *
  have h2 := Lib.hid (show IntKind.u64.wrap ((a : Int) * b) = ((a * b : Nat) : Int) by rw [wrapU (by rw [← Int.natCast_mul]; omega), Int.natCast_mul])
  rcases Nat.eq_zero_or_pos a with h0 | h0
  · subst h0
    clear ha h h2
    go_enter Try.func23, Try.ntmps23
    go_wp2
    go_ret2
    exact ⟨by rw [Nat.zero_mul]; rfl, rfl⟩
  · have ⟨h3, h3n⟩ : decide ((0 : Int) < (a : Int)) = true ∧ decide (0 < a) = true := ⟨decide_eq_true (by omega), decide_eq_true h0⟩
    have h5 : Int.tdiv 18446744073709551615 (a : Int) = ((18446744073709551615 / a : Nat) : Int) := by
      rw [Int.tdiv_eq_ediv_of_nonneg (by decide)]; exact (Int.natCast_ediv 18446744073709551615 a).symm
    obtain ⟨q, hq⟩ : ∃ q, q = 18446744073709551615 / a := ⟨_, rfl⟩
    rw [← hq] at h5
    have hqb : b ≤ q := by rw [hq, Nat.le_div_iff_mul_le h0, Nat.mul_comm]; omega
    have hq2 : q ≤ 18446744073709551615 := by rw [hq]; exact Nat.div_le_self _ _
    have h6 : IntKind.u64.wrap (q : Int) = (q : Int) := wrapU (by omega)
    have ⟨h7, h7n⟩ : decide ((q : Int) < (b : Int)) = false ∧ decide (q < b) = false := ⟨decide_eq_false (by omega), decide_eq_false (by omega)⟩
    have h8 : (((a : Int)) == 0) = false := beq_eq_false_iff_ne.mpr (by omega)
    have h9 : ¬ ((a : Int) = 0) := by omega
    have h10 : (18446744073709551615 : Int) / (a : Int) = (q : Int) := by rw [← Int.tdiv_eq_ediv_of_nonneg (by decide), h5]
    replace h0 := Lib.hid h0
    clear ha h hq hqb hq2
    go_enter Try.func23, Try.ntmps23
    go_wp2
    go_ret2
    exact ⟨by rw [← h2.out]; rfl, rfl⟩
theorem times_no (w : World) {a b : Nat} (ha : a < U64) (h : U64 ≤ a * b) : Calls Try.prog 23 #[.int .u64 a, .int .u64 b] w fun e w' => e = .returned (.tuple #[.int .u64 0, .bool false]) ∧ w = w' := by
  unfold U64 at *
  have h0 : 0 < a := by
    rcases Nat.eq_zero_or_pos a with h0 | h0
    · subst h0; rw [Nat.zero_mul] at h; omega
    · exact h0
  have ⟨h3, h3n⟩ : decide ((0 : Int) < (a : Int)) = true ∧ decide (0 < a) = true := ⟨decide_eq_true (by omega), decide_eq_true h0⟩
  have h5 : Int.tdiv 18446744073709551615 (a : Int) = ((18446744073709551615 / a : Nat) : Int) := by
    rw [Int.tdiv_eq_ediv_of_nonneg (by decide)]; exact (Int.natCast_ediv 18446744073709551615 a).symm
  obtain ⟨q, hq⟩ : ∃ q, q = 18446744073709551615 / a := ⟨_, rfl⟩
  rw [← hq] at h5
  have hqb : q < b := by rw [hq, Nat.div_lt_iff_lt_mul h0, Nat.mul_comm]; omega
  have hq2 : q ≤ 18446744073709551615 := by rw [hq]; exact Nat.div_le_self _ _
  have h6 : IntKind.u64.wrap (q : Int) = (q : Int) := wrapU (by omega)
  have ⟨h7, h7n⟩ : decide ((q : Int) < (b : Int)) = true ∧ decide (q < b) = true := ⟨decide_eq_true (by omega), decide_eq_true (by omega)⟩
  have h8 : (((a : Int)) == 0) = false := beq_eq_false_iff_ne.mpr (by omega)
  have h9 : ¬ ((a : Int) = 0) := by omega
  have h10 : (18446744073709551615 : Int) / (a : Int) = (q : Int) := by rw [← Int.tdiv_eq_ediv_of_nonneg (by decide), h5]
  replace h0 := Lib.hid h0
  clear ha h hq hqb hq2
  go_enter Try.func23, Try.ntmps23
  go_wp2
  go_ret2
  exact ⟨rfl, rfl⟩

theorem and32 {x : Int} (h : 0 ≤ x ∧ x < 18446744073709551616) : Go.bits .and .u64 x 4294967295 = x % 4294967296 :=
  bits_mask .u64 64 (by decide) (fun n h0 h1 => by rw [IntKind.wrap_u64]; omega) 32 (by decide) x h.1 h.2
theorem or32 {x y : Int} (hx : 0 ≤ x ∧ x < 4294967296) (hy : 0 ≤ y ∧ y < 4294967296) : Go.bits .or .u64 (x * 4294967296) y = x * 4294967296 + y :=
  bits_join .u64 64 (by decide) (fun n h0 h1 => by rw [IntKind.wrap_u64]; omega) 32 (x * 4294967296) y (by omega) (by omega) (by omega) (by omega) (by omega) (by omega)
/-- What the document's sum is, number by number. -/
theorem sum_parts {a b : Int} (ha : 0 ≤ a ∧ a < 18446744073709551616) (hb : 0 ≤ b ∧ b < 18446744073709551616) :
    ∃ lo mid : Int, IntKind.u64.wrap (Go.bits .and .u64 a 4294967295 + Go.bits .and .u64 b 4294967295) = lo ∧ IntKind.u64.wrap (IntKind.u64.wrap (a / 4294967296 + b / 4294967296) + lo / 4294967296) = mid ∧
      mid / 4294967296 = (a + b) / 18446744073709551616 ∧ Go.bits .or .u64 (IntKind.u64.wrap (mid * 4294967296)) (Go.bits .and .u64 lo 4294967295) = (a + b) % 18446744073709551616 := by
  refine ⟨_, _, rfl, rfl, ?_⟩
  rw [and32 ha, and32 hb]
  have w1 : IntKind.u64.wrap (a % 4294967296 + b % 4294967296) = a % 4294967296 + b % 4294967296 := by rw [IntKind.wrap_u64]; omega
  have w2 : IntKind.u64.wrap (a / 4294967296 + b / 4294967296) = a / 4294967296 + b / 4294967296 := by rw [IntKind.wrap_u64]; omega
  rw [w1, w2, and32 (by omega)]
  have w3 : IntKind.u64.wrap (a / 4294967296 + b / 4294967296 + (a % 4294967296 + b % 4294967296) / 4294967296) = a / 4294967296 + b / 4294967296 + (a % 4294967296 + b % 4294967296) / 4294967296 := by rw [IntKind.wrap_u64]; omega
  rw [w3]
  have w4 : IntKind.u64.wrap ((a / 4294967296 + b / 4294967296 + (a % 4294967296 + b % 4294967296) / 4294967296) * 4294967296) = ((a / 4294967296 + b / 4294967296 + (a % 4294967296 + b % 4294967296) / 4294967296) % 4294967296) * 4294967296 := by rw [IntKind.wrap_u64]; omega
  rw [w4, or32 (by omega) (by omega)]
  constructor
  · omega
  · omega
theorem sum_c (w : World) {a b : Nat} (ha : a < U64) (hb : b < U64) : Calls Try.prog 22 #[.int .u64 a, .int .u64 b] w fun e w' => e = .returned (.agg #[.int .u64 (((a + b) / U64 : Nat) : Int), .int .u64 (((a + b) % U64 : Nat) : Int)]) ∧ Below w.heap.size w w' := by
  unfold U64 at *
  obtain ⟨lo, mid, e1, e2, e3, e4⟩ := sum_parts (a := (a : Int)) (b := (b : Int)) (by omega) (by omega)
  have e5 : ((a : Int) + b) / 18446744073709551616 = (((a + b) / 18446744073709551616 : Nat) : Int) := by omega
  have e6 : ((a : Int) + b) % 18446744073709551616 = (((a + b) % 18446744073709551616 : Nat) : Int) := by omega
  rw [e5] at e3
  rw [e6] at e4
  have C0 := Cel.new w #[.int .u64 0, .int .u64 0] 57 0 (.int .u64 0) rfl
  have C1 := Cel.new w #[.int .u64 0, .int .u64 0] 57 1 (.int .u64 0) rfl
  replace e5 := Lib.hid e5; replace e6 := Lib.hid e6
  clear ha hb
  go_enter Try.func22, Try.ntmps22
  go_wp2
  refine bodyPost_ret (v := .agg #[.int .u64 ((a + b : Int) / 18446744073709551616), .int .u64 ((a + b : Int) % 18446744073709551616)]) (by simp [results, Try.results22, go_sem, *]) rfl (And.intro ?_ ?_)
  · rw [e5.out, e6.out]
  · exact (Below.refl w.heap.size w).alloc (Nat.le_refl _) _
end Go.Proofs.Ytnlbcgonegeofaa
