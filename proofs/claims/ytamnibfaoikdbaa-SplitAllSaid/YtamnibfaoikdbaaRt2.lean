/- The document's rightness of entries. -/
import Derived.Test.YtamnibfaoikdbaaRt
namespace Go.Proofs.Ytamnibfaoikdbaa
open Go.RowKit
set_option linter.unusedVariables false
set_option linter.unusedSimpArgs false
set_option maxRecDepth 100000

def rightE (e : En) : Bool :=
  if e.kind = 0 then decide (1 ≤ e.n) && decide (e.n ≤ 100) && (e.who == 0) && (e.call_Op == 0 && (e.call_A == 0 && (e.call_B == 0 && (e.call_C == 0 && true)))) && (e.dev == 0) && (e.mask == 0)
  else if e.kind = 1 then (decide (0 ≤ e.who) && decide (e.who < 256)) && rightC e.call_Op e.call_A e.call_B e.call_C && (e.n == 0) && (e.dev == 0) && (e.mask == 0)
  else (e.kind == 2) && (decide (0 ≤ e.who) && decide (e.who < 256)) && decide (0 ≤ e.dev) && decide (e.dev < 256) && decide (1 ≤ e.mask) && decide (e.mask ≤ 7) && (e.n == 0) && (e.call_Op == 0 && (e.call_A == 0 && (e.call_B == 0 && (e.call_C == 0 && true))))

set_option maxHeartbeats 4000000 in
theorem right15_c (w : World) (e : En) : Calls Try.prog 32 #[e.val] w fun r w' => r = .returned (.bool (rightE e)) ∧ Below w.heap.size w w' := by
  unfold En.val
  by_cases k0 : e.kind = 0
  · have e1 : (e.kind == 0) = true := beq_iff_eq.mpr k0
    have hv : rightE e = (decide (1 ≤ e.n) && decide (e.n ≤ 100) && (e.who == 0) && (e.call_Op == 0 && (e.call_A == 0 && (e.call_B == 0 && (e.call_C == 0 && true)))) && (e.dev == 0) && (e.mask == 0)) := by unfold rightE; rw [if_pos k0]
    rw [hv]
    clear k0 hv
    go_enter Try.func32, Try.ntmps32
    go_wp2_with fail
    all_goals go_ret
    all_goals refine ⟨?_, Below.alloc (Below.alloc (Below.refl _ _) (Nat.le_refl _) _) (by simp) _⟩
    all_goals first | (simp [*]; done) | (simp [*]; omega)
  · by_cases k1 : e.kind = 1
    · have e1 : (e.kind == 0) = false := beq_eq_false_iff_ne.mpr k0
      have e2 : (e.kind == 1) = true := beq_iff_eq.mpr k1
      have hv : rightE e = ((decide (0 ≤ e.who) && decide (e.who < 256)) && rightC e.call_Op e.call_A e.call_B e.call_C && (e.n == 0) && (e.dev == 0) && (e.mask == 0)) := by unfold rightE; rw [if_neg k0, if_pos k1]
      rw [hv]
      clear k0 k1 hv
      by_cases k2 : 0 ≤ e.who ∧ e.who < 256
      · obtain ⟨k2, k3⟩ := k2
        have hd1 : decide (0 ≤ e.who) = true := decide_eq_true k2
        have hd2 : decide (e.who < 256) = true := decide_eq_true k3
        rw [hd1, hd2, Bool.true_and, Bool.true_and]
        have r2 := ((Cel.new w #[.int .i64 e.kind, .int .i64 e.who, .int .i64 e.n, .int .i64 e.call_Op, .int .u64 e.call_A, .int .u64 e.call_B, .int .u64 e.call_C, .int .i64 e.dev, .int .i64 e.mask] 47 2 _ rfl).alloc (.cells #[.int .i64 0, .int .u64 0, .int .u64 0, .int .u64 0] 45)).1
        have r7 := ((Cel.new w #[.int .i64 e.kind, .int .i64 e.who, .int .i64 e.n, .int .i64 e.call_Op, .int .u64 e.call_A, .int .u64 e.call_B, .int .u64 e.call_C, .int .i64 e.dev, .int .i64 e.mask] 47 7 _ rfl).alloc (.cells #[.int .i64 0, .int .u64 0, .int .u64 0, .int .u64 0] 45)).1
        have r8 := ((Cel.new w #[.int .i64 e.kind, .int .i64 e.who, .int .i64 e.n, .int .i64 e.call_Op, .int .u64 e.call_A, .int .u64 e.call_B, .int .u64 e.call_C, .int .i64 e.dev, .int .i64 e.mask] 47 8 _ rfl).alloc (.cells #[.int .i64 0, .int .u64 0, .int .u64 0, .int .u64 0] 45)).1
        have hb := Below.alloc (Below.alloc (Below.refl w.heap.size w) (Nat.le_refl _) (.cells #[.int .i64 e.kind, .int .i64 e.who, .int .i64 e.n, .int .i64 e.call_Op, .int .u64 e.call_A, .int .u64 e.call_B, .int .u64 e.call_C, .int .i64 e.dev, .int .i64 e.mask] 47)) (by simp) (.cells #[.int .i64 0, .int .u64 0, .int .u64 0, .int .u64 0] 45)
        have hs : w.heap.size < ((w.alloc (.cells #[.int .i64 e.kind, .int .i64 e.who, .int .i64 e.n, .int .i64 e.call_Op, .int .u64 e.call_A, .int .u64 e.call_B, .int .u64 e.call_C, .int .i64 e.dev, .int .i64 e.mask] 47)).alloc (.cells #[.int .i64 0, .int .u64 0, .int .u64 0, .int .u64 0] 45)).heap.size := by simp; omega
        replace r2 := Lib.hid r2; replace r7 := Lib.hid r7; replace r8 := Lib.hid r8; replace hb := Lib.hid hb; replace hs := Lib.hid hs
        clear k2 k3
        go_enter Try.func32, Try.ntmps32
        go_wp2_with fail
        generalize (w.alloc (.cells #[.int .i64 e.kind, .int .i64 e.who, .int .i64 e.n, .int .i64 e.call_Op, .int .u64 e.call_A, .int .u64 e.call_B, .int .u64 e.call_C, .int .i64 e.dev, .int .i64 e.mask] 47)).alloc (.cells #[.int .i64 0, .int .u64 0, .int .u64 0, .int .u64 0] 45) = W at *
        refine (right14_c W _ _ _ _).mono ?_
        rintro r w1 ⟨rfl, hB⟩
        have q2 := (hB.cell (p := ⟨w.heap.size, 2, none⟩) hs.out).trans r2.out
        have q7 := (hB.cell (p := ⟨w.heap.size, 7, none⟩) hs.out).trans r7.out
        have q8 := (hB.cell (p := ⟨w.heap.size, 8, none⟩) hs.out).trans r8.out
        have hB2 := Lib.hid (hb.out.trans (hB.mono hb.out.size))
        have q2' : w1.cell? ⟨w.heap.size, 2, none⟩ = some (.int .i64 e.n) := q2
        have q7' : w1.cell? ⟨w.heap.size, 7, none⟩ = some (.int .i64 e.dev) := q7
        have q8' : w1.cell? ⟨w.heap.size, 8, none⟩ = some (.int .i64 e.mask) := q8
        clear q2 q7 q8 r2 r7 r8 hb hs hB
        cases hc : rightC e.call_Op e.call_A e.call_B e.call_C
        all_goals
          replace hc := Lib.hid hc
          go_wp2
        all_goals go_ret
        all_goals refine ⟨?_, hB2.out⟩
        all_goals rw [hc.out]
        all_goals first | rfl | (simp [*]; done) | (simp [*]; omega)
      · have hv2 : ((decide (0 ≤ e.who) && decide (e.who < 256)) && rightC e.call_Op e.call_A e.call_B e.call_C && (e.n == 0) && (e.dev == 0) && (e.mask == 0)) = false := by
          have : (decide (0 ≤ e.who) && decide (e.who < 256)) = false := by simp; omega
          rw [this]; rfl
        rw [hv2]
        clear hv2
        go_enter Try.func32, Try.ntmps32
        go_wp2_with fail
        all_goals go_ret
        all_goals exact ⟨rfl, Below.alloc (Below.alloc (Below.refl _ _) (Nat.le_refl _) _) (by simp) _⟩
    · have e1 : (e.kind == 0) = false := beq_eq_false_iff_ne.mpr k0
      have e2 : (e.kind == 1) = false := beq_eq_false_iff_ne.mpr k1
      have hv : rightE e = ((e.kind == 2) && (decide (0 ≤ e.who) && decide (e.who < 256)) && decide (0 ≤ e.dev) && decide (e.dev < 256) && decide (1 ≤ e.mask) && decide (e.mask ≤ 7) && (e.n == 0) && (e.call_Op == 0 && (e.call_A == 0 && (e.call_B == 0 && (e.call_C == 0 && true))))) := by unfold rightE; rw [if_neg k0, if_neg k1]
      rw [hv]
      clear k0 k1 hv
      go_enter Try.func32, Try.ntmps32
      go_wp2_with fail
      all_goals go_ret
      all_goals refine ⟨?_, Below.alloc (Below.alloc (Below.refl _ _) (Nat.le_refl _) _) (by simp) _⟩
      all_goals first | (simp [*]; done) | (simp [*]; omega)
end Go.Proofs.Ytamnibfaoikdbaa
