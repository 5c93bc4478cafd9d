/- The document's example of the chain's layer holds. No condition. -/
import Derived.Test.YtdgcppglpmlgkaaChainI
namespace Go.Proofs.Ytdgcppglpmlgkaa
open Go.RowKit
set_option linter.unusedVariables false
set_option linter.unusedSimpArgs false

def c0 : Nat → List Nat := fun _ => []
def c1 := pushR 5 2 c0 1 3
def c2 := pushR 5 2 c1 1 0
def c3 := pushR 5 2 c2 1 4
def c4 := pushR 5 2 c3 0 3
def c5 := pullR 2 c4 0
theorem q1 : canPush 5 2 c0 1 3 = true := by decide +kernel
theorem q2 : canPush 5 2 c1 1 0 = true := by decide +kernel
theorem q3 : canPush 5 2 c2 1 4 = true := by decide +kernel
theorem q4 : canPush 5 2 c3 0 3 = false := by decide +kernel
theorem q5 : onB 2 c4 0 = true := by decide +kernel
theorem q6 : rowI c5 1 = [3, 4] := by decide +kernel
theorem q7 : rowI c5 0 = [] := by decide +kernel
theorem q8 : onV 2 c5 4 = 1 := by decide +kernel
theorem q9 : onB 2 c5 4 = true := by decide +kernel

/-- Behind a call that turns only the lists: below the block B all is as it was. -/
theorem below_chain {B L M : Nat} {w w1 w2 : World} (h : Hid (Below B w w1)) (hF : Fr (chS L M) w1 w2) (hB : B ≤ w.heap.size) (hL : B ≤ L) (hM : B ≤ M) : Hid (Below B w w2) :=
  Fr.below_of h hF (Nat.le_trans hB h.size) (fun k o hk hs => by rcases hs with h | h <;> omega)

set_option maxRecDepth 100000 in
set_option maxHeartbeats 1000000 in
theorem alive_c (w : World) : Calls Try.prog 31 #[] w fun e w' => e = .returned (.bool true) ∧ Below w.heap.size w w' := by
  have q1 := q1; have q2 := q2; have q3 := q3; have q4 := q4; have q5 := q5; have q6 := q6; have q7 := q7; have q8 := q8; have q9 := q9
  go_enter Try.func31, Try.ntmps31
  go_wp2_with fail
  refine (new_i w 5 2 5 2 rfl rfl).mono ?_
  rintro e w0 ⟨p, L, M, rfl, G0, bp, bL, bM, B0⟩
  replace B0 := Lib.hid B0
  replace bp := Lib.hid bp; replace bL := Lib.hid bL; replace bM := Lib.hid bM
  go_wp2_with fail
  refine (push_i (R := c0) G0 1 3).mono ?_
  rintro e w1 ⟨rfl, G1, F1⟩
  rw [q1]
  have B1 := below_chain B0 F1 (Nat.le_refl _) bL.out bM.out
  clear F1 G0 B0
  go_wp2_with fail
  refine (push_i (R := c1) G1 1 0).mono ?_
  rintro e w2 ⟨rfl, G2, F2⟩
  rw [q2]
  have B2 := below_chain B1 F2 (Nat.le_refl _) bL.out bM.out
  clear F2 G1 B1
  go_wp2_with fail
  refine (push_i (R := c2) G2 1 4).mono ?_
  rintro e w3 ⟨rfl, G3, F3⟩
  rw [q3]
  have B3 := below_chain B2 F3 (Nat.le_refl _) bL.out bM.out
  clear F3 G2 B2
  go_wp2_with fail
  refine (push_i (R := c3) G3 0 3).mono ?_
  rintro e w4 ⟨rfl, G4, F4⟩
  rw [q4]
  have B4 := below_chain B3 F4 (Nat.le_refl _) bL.out bM.out
  clear F4 G3 B3
  go_wp2_with fail
  refine (pull_i (R := c4) G4 0).mono ?_
  rintro e w5 ⟨rfl, G5, F5⟩
  rw [q5]
  have B5 := below_chain B4 F5 (Nat.le_refl _) bL.out bM.out
  clear F5 G4 B4
  go_wp2_with fail
  refine (first_i (R := c5) G5 1).mono ?_
  rintro e w6 ⟨rfl, rfl⟩
  rw [q6]
  go_wp2_with fail
  refine (on_i (R := c5) G5 4).mono ?_
  rintro e w6 ⟨rfl, rfl⟩
  rw [q8, q9]
  go_wp2_with fail
  refine (len_i (R := c5) G5 1).mono ?_
  rintro e w6 ⟨rfl, rfl⟩
  rw [q6]
  go_wp2_with fail
  refine (all_i (R := c5) G5 1).mono ?_
  rintro e w6 ⟨v, rfl, O6, F6⟩
  rw [q6] at O6
  obtain ⟨A, c, rfl, r6, hc6, _⟩ := O6.form
  have B6 := Lib.hid (B5.out.trans (F6.mono B5.out.size))
  have G6 := G5.below F6 (Nat.le_refl _)
  clear G5 B5 O6 F6 hc6
  go_wp2_with fail
  have r6' := r6.below (Below.alloc (Below.refl w6.heap.size w6) (Nat.le_refl _) (.cells #[.int .i64 3, .int .i64 4] 3))
  refine (same_c (xs := natsI [3, 4]) (ys := [3, 4]) r6' (row_new _ _ _ _ rfl) (by decide) (by decide)).mono ?_
  rintro e w7 ⟨rfl, F7⟩
  have B7 := Lib.hid (((B6.out.alloc (B6.out.size) _).trans (F7.mono (by have := B6.out.size; simp; omega))))
  have G7 := G6.below ((Below.alloc (Below.refl w6.heap.size w6) (Nat.le_refl _) _).trans (F7.mono (by simp))) (Nat.le_refl _)
  clear r6 r6' F7 G6 B6
  have hs : decide (natsI [3, 4] = [3, 4]) = true := by decide
  rw [hs]
  go_wp2_with fail
  refine (len_i (R := c5) G7 0).mono ?_
  rintro e w8 ⟨rfl, rfl⟩
  rw [q7]
  go_wp2_with fail
  refine (numbers_i (R := c5) G7).mono ?_
  rintro e w8 ⟨rfl, rfl⟩
  go_wp2_with fail
  refine (lists_i (R := c5) G7).mono ?_
  rintro e w8 ⟨rfl, rfl⟩
  go_wp2
  go_ret
  exact ⟨rfl, B7.out⟩
end Go.Proofs.Ytdgcppglpmlgkaa
