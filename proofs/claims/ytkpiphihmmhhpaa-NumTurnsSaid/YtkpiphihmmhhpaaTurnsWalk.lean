/- NumTurns: for all numbers, sums and products do not hang on the order, what is added comes off again, a sum that is held stays held. No condition. -/
import Derived.Test.YtkpiphihmmhhpaaPureNumFirst
import Derived.Lib.Hide
namespace Go.Proofs.Ytkpiphihmmhhpaa.Turns
open Go.RowKit Go.Proofs.Ytkpiphihmmhhpaa.PNumFirst Go.Proofs.YtkpiphihmmhhpaaW.PrintWords Go.Proofs.YtkpiphihmmhhpaaW.PrintLast Go.Proofs.YtkpiphihmmhhpaaW.PrintMore
attribute [local go_sem] max2_int min2_int max_two min_two
set_option linter.unusedVariables false
set_option linter.unusedSimpArgs false

def U (a : Int) : Prop := 0 ≤ a ∧ a < 18446744073709551616
def ad (a b : Int) : Int := if a + b < 18446744073709551616 then a + b else 0
def adb (a b : Int) : Bool := decide (a + b < 18446744073709551616)
def ti (a b : Int) : Int := if a * b < 18446744073709551616 then a * b else 0
def tib (a b : Int) : Bool := decide (a * b < 18446744073709551616)
def pl (a b : Int) : Int := if a + b < 18446744073709551616 then a + b else 18446744073709551615
def mi (a b : Int) : Int := if b > a then 0 else a - b

theorem U_ad {a b : Int} (ha : U a) (hb : U b) : U (ad a b) := by unfold U ad at *; split <;> omega
theorem U_pl {a b : Int} (ha : U a) (hb : U b) : U (pl a b) := by unfold U pl at *; split <;> omega
theorem U_mi {a b : Int} (ha : U a) (hb : U b) : U (mi a b) := by unfold U mi at *; split <;> omega

theorem add_c {a b : Int} (w : World) (ha : U a) (hb : U b) : Calls Try.prog 27 #[.int .u64 a, .int .u64 b] w fun e w' => e = .returned (.tuple #[.int .u64 (ad a b), .bool (adb a b)]) ∧ Drawn0 w w' :=
  num_Add.calls a b (ad a b) (adb a b) w (by
    rw [Pure.add_f ha hb]; unfold ad adb
    by_cases h : a + b < 18446744073709551616
    · rw [if_pos h, if_pos h, decide_eq_true h]
    · rw [if_neg h, if_neg h, decide_eq_false h])
theorem times_c {a b : Int} (w : World) (ha : U a) (hb : U b) : Calls Try.prog 32 #[.int .u64 a, .int .u64 b] w fun e w' => e = .returned (.tuple #[.int .u64 (ti a b), .bool (tib a b)]) ∧ Drawn0 w w' :=
  num_Times.calls a b (ti a b) (tib a b) w (by
    rw [Pure.times_f ha hb]; unfold ti tib
    by_cases h : a * b < 18446744073709551616
    · rw [if_pos h, if_pos h, decide_eq_true h]
    · rw [if_neg h, if_neg h, decide_eq_false h])
theorem plus_c {a b : Int} (w : World) (ha : U a) (hb : U b) : Calls Try.prog 28 #[.int .u64 a, .int .u64 b] w fun e w' => e = .returned (.int .u64 (pl a b)) ∧ Drawn0 w w' :=
  num_Plus.calls a b (pl a b) w (Pure.plus_f ha hb)
theorem minus_c {a b : Int} (w : World) (ha : U a) (hb : U b) : Calls Try.prog 29 #[.int .u64 a, .int .u64 b] w fun e w' => e = .returned (.int .u64 (mi a b)) ∧ Drawn0 w w' :=
  num_Minus.calls a b (mi a b) w (Pure.minus_f ha hb)
theorem alive_c (w : World) : Calls Try.prog 25 #[] w fun e w' => e = .returned (.bool true) ∧ Below w.heap.size w w' :=
  nightjarlaw01_alive.calls true w Pure.alive_f

theorem f1 (a b : Int) : ad b a = ad a b := by unfold ad; rw [Int.add_comm]
theorem f2 (a b : Int) : adb b a = adb a b := by unfold adb; rw [Int.add_comm]
theorem f3 (a b : Int) : ti b a = ti a b := by unfold ti; rw [Int.mul_comm]
theorem f4 (a b : Int) : tib b a = tib a b := by unfold tib; rw [Int.mul_comm]
theorem f5 {a b : Int} (ha : U a) (hb : U b) (h : adb a b = true) : (mi (ad a b) b != a) = false := by
  unfold adb at h; have h := of_decide_eq_true h
  unfold U at *
  unfold mi ad
  rw [if_pos h, if_neg (by omega)]
  rw [bne_eq_false_iff_eq]; omega
theorem f6 {a b c : Int} (ha : U a) (hb : U b) (hc : U c) : (pl (pl a b) c == pl a (pl b c)) = true := by
  unfold U at *
  rw [beq_iff_eq]
  unfold pl
  (repeat' split) <;> omega
theorem f7 {a b : Int} (ha : U a) (hb : U b) : decide ((if a < b then b else a) ≤ pl a b) = true := by
  unfold U at *
  refine decide_eq_true ?_
  unfold pl
  (repeat' split) <;> omega
theorem f7a {a b : Int} (ha : U a) (hb : U b) : decide (b ≤ pl a b) = true := by
  unfold U at *
  refine decide_eq_true ?_
  unfold pl
  (repeat' split) <;> omega
theorem f7b {a b : Int} (ha : U a) (hb : U b) : decide (a ≤ pl a b) = true := by
  unfold U at *
  refine decide_eq_true ?_
  unfold pl
  (repeat' split) <;> omega
theorem f8 {a b : Int} (ha : U a) (hb : U b) : decide (mi a b ≤ a) = true := by
  unfold U at *
  refine decide_eq_true ?_
  unfold mi
  (repeat' split) <;> omega
theorem f9 {a b c : Int} (ha : U a) (hb : U b) (hc : U c) : (mi (mi a b) c == mi a (pl b c)) = true := by
  unfold U at *
  rw [beq_iff_eq]
  unfold mi pl
  (repeat' split) <;> omega

set_option maxHeartbeats 1000000 in
set_option maxRecDepth 100000 in
theorem turns_walk (a b c : Int) (w : World) (ha : U a) (hb : U b) (hc : U c) :
    Calls Try.prog 10 #[.int .u64 a, .int .u64 b, .int .u64 c] w fun e w' => e = .returned (.bool true) ∧ Below w.heap.size w w' := by
  have g1 := f1 a b
  have g2 := f2 a b
  have g3 := f3 a b
  have g4 := f4 a b
  have g6 := f6 ha hb hc
  have g7 := f7 ha hb
  have g7a := f7a ha hb
  have g7b := f7b ha hb
  have g8 := f8 ha hb
  have g9 := f9 ha hb hc
  have u1 := U_pl ha hb
  have u2 := U_pl hb hc
  have u3 := U_mi ha hb
  have u4 := U_ad ha hb
  by_cases h : adb a b = true
  · have g5 := f5 ha hb h
    by_cases hab : a < b
    all_goals
      go_enter Try.func10, Try.ntmps10
      go_wp2_with (first | (go_at_call 25; refine (alive_c _).mono ?_; rintro e w1 ⟨rfl, hB⟩; have HB := Lib.hid hB; clear hB) | (go_at_call 27; refine (add_c _ (by assumption) (by assumption)).mono ?_; rintro e w' ⟨rfl, nd, rfl⟩) | (go_at_call 32; refine (times_c _ (by assumption) (by assumption)).mono ?_; rintro e w' ⟨rfl, nd, rfl⟩) | (go_at_call 28; refine (plus_c _ (by assumption) (by assumption)).mono ?_; rintro e w' ⟨rfl, nd, rfl⟩) | (go_at_call 29; refine (minus_c _ (by assumption) (by assumption)).mono ?_; rintro e w' ⟨rfl, nd, rfl⟩))
      go_ret
      exact ⟨rfl, by repeat (first | exact HB.out | apply pw_below_drewN)⟩
  · have h := Bool.eq_false_iff.mpr h
    by_cases hab : a < b
    all_goals
      go_enter Try.func10, Try.ntmps10
      go_wp2_with (first | (go_at_call 25; refine (alive_c _).mono ?_; rintro e w1 ⟨rfl, hB⟩; have HB := Lib.hid hB; clear hB) | (go_at_call 27; refine (add_c _ (by assumption) (by assumption)).mono ?_; rintro e w' ⟨rfl, nd, rfl⟩) | (go_at_call 32; refine (times_c _ (by assumption) (by assumption)).mono ?_; rintro e w' ⟨rfl, nd, rfl⟩) | (go_at_call 28; refine (plus_c _ (by assumption) (by assumption)).mono ?_; rintro e w' ⟨rfl, nd, rfl⟩) | (go_at_call 29; refine (minus_c _ (by assumption) (by assumption)).mono ?_; rintro e w' ⟨rfl, nd, rfl⟩))
      go_ret
      exact ⟨rfl, by repeat (first | exact HB.out | apply pw_below_drewN)⟩
end Go.Proofs.Ytkpiphihmmhhpaa.Turns
