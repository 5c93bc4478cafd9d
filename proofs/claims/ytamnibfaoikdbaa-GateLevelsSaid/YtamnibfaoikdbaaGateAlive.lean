/- The document's example of the gate's layer holds. No condition. -/
import Derived.Test.YtamnibfaoikdbaaGate
namespace Go.Proofs.Ytamnibfaoikdbaa
open Go.RowKit
set_option linter.unusedVariables false
set_option linter.unusedSimpArgs false

def a1 : G := openG noG
def a2 : G := watchG a1 9 3 0
def a3 : G := meetG a2 5
def a4 : G := tellG a3
def a5 : G := ackG a4 7
def a6 : G := tellG a5
def a7 : G := openG a6
def a8 : G := unwatchG a7
def a9 : G := unwatchG a8
theorem q1 : (!noG.op) = true := by decide +kernel
theorem q2 : watchB a1 3 0 = true := by decide +kernel
theorem q3 : whoG a3 = 9 := by decide +kernel
theorem q4 : maskG a3 = 1 := by decide +kernel
theorem q5 : (a4.told != 0) = true := by decide +kernel
theorem q6 : bits .and .i64 a4.ready 7 = 5 := by decide +kernel
theorem q7 : maskG a5 = 0 := by decide +kernel
theorem q8 : a6.op = true := by decide +kernel
theorem q9 : (a7.told != 0) = false := by decide +kernel
theorem q10 : (a7.want != 0) = true := by decide +kernel
theorem q11 : (a8.want != 0) = false := by decide +kernel
theorem q12 : a9.op = true := by decide +kernel
theorem q13 : noG.op = false := rfl

/-- What is behind a gate's call, beside the gate: below the block B all is as it was. -/
theorem below_gate {B b : Nat} {w w1 w2 : World} (h : Hid (Below B w w1)) (hF : Fr (cellsAt b 0 7) w1 w2) (hB : B ≤ w.heap.size) (hb : B ≤ b) : Hid (Below B w w2) :=
  Fr.below_of h hF (Nat.le_trans hB h.size) (fun k o hk hs => by have := hs.1; omega)

set_option maxRecDepth 100000 in
theorem alive_c (w : World) : Calls Try.prog 12 #[] w fun e w' => e = .returned (.bool true) ∧ Below w.heap.size w w' := by
  have G0 := GC.new w 26
  have HB0 := Lib.hid ((Below.refl w.heap.size w).alloc (Nat.le_refl _) (.cells #[.bool false, .int .i64 0, .int .i64 0, .int .u64 0, .int .i64 0, .int .i64 0, .int .i64 0] 26))
  have q1 := q1; have q2 := q2; have q3 := q3; have q4 := q4; have q5 := q5; have q6 := q6; have q7 := q7; have q8 := q8; have q9 := q9; have q10 := q10; have q11 := q11; have q12 := q12; have q13 := q13
  go_enter Try.func12, Try.ntmps12
  go_wp2_with fail
  refine (open_c G0).mono ?_
  rintro e w1 ⟨rfl, G1, F1⟩
  have HB1 := below_gate HB0 F1 (Nat.le_refl _) (Nat.le_refl _)
  clear F1 G0 HB0
  go_wp2_with fail
  refine (watch_c (g := a1) G1 9 3 0).mono ?_
  rintro e w2 ⟨rfl, G2, F2⟩
  have HB2 := below_gate HB1 F2 (Nat.le_refl _) (Nat.le_refl _)
  clear F2 G1 HB1
  go_wp2_with fail
  refine (meet_c (g := a2) G2 5).mono ?_
  rintro e w3 ⟨rfl, G3, F3⟩
  have HB3 := below_gate HB2 F3 (Nat.le_refl _) (Nat.le_refl _)
  clear F3 G2 HB2
  go_wp2_with fail
  refine (tell_c (g := a3) G3).mono ?_
  rintro e w4 ⟨rfl, G4, F4⟩
  have HB4 := below_gate HB3 F4 (Nat.le_refl _) (Nat.le_refl _)
  clear F4 G3 HB3
  go_wp2_with fail
  refine (wants_c (g := a4) G4).mono ?_
  rintro e w' ⟨rfl, rfl⟩
  go_wp2_with fail
  refine (ack_c (g := a4) G4 7).mono ?_
  rintro e w5 ⟨rfl, G5, F5⟩
  have HB5 := below_gate HB4 F5 (Nat.le_refl _) (Nat.le_refl _)
  clear F5 G4 HB4
  go_wp2_with fail
  refine (tell_c (g := a5) G5).mono ?_
  rintro e w6 ⟨rfl, G6, F6⟩
  have HB6 := below_gate HB5 F6 (Nat.le_refl _) (Nat.le_refl _)
  clear F6 G5 HB5
  go_wp2_with fail
  refine (open_c (g := a6) G6).mono ?_
  rintro e w7 ⟨rfl, G7, F7⟩
  have HB7 := below_gate HB6 F7 (Nat.le_refl _) (Nat.le_refl _)
  clear F7 G6 HB6
  go_wp2_with fail
  refine (wants_c (g := a7) G7).mono ?_
  rintro e w' ⟨rfl, rfl⟩
  go_wp2_with fail
  refine (unwatch_c (g := a7) G7).mono ?_
  rintro e w8 ⟨rfl, G8, F8⟩
  have HB8 := below_gate HB7 F8 (Nat.le_refl _) (Nat.le_refl _)
  clear F8 G7 HB7
  go_wp2_with fail
  refine (unwatch_c (g := a8) G8).mono ?_
  rintro e w9 ⟨rfl, G9, F9⟩
  have HB9 := below_gate HB8 F9 (Nat.le_refl _) (Nat.le_refl _)
  clear F9 G8 HB8
  go_wp2_with fail
  refine (close_c (g := a9) G9).mono ?_
  rintro e w10 ⟨rfl, G10, F10⟩
  have HB10 := below_gate HB9 F10 (Nat.le_refl _) (Nat.le_refl _)
  clear F10 G9 HB9
  go_wp2_with fail
  refine (close_c (g := noG) G10).mono ?_
  rintro e w11 ⟨rfl, G11, F11⟩
  have HB11 := below_gate HB10 F11 (Nat.le_refl _) (Nat.le_refl _)
  clear F11 G10 HB10
  go_wp2
  go_ret
  exact ⟨rfl, HB11.out⟩
end Go.Proofs.Ytamnibfaoikdbaa
