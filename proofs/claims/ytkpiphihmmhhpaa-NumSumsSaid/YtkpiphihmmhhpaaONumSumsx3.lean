-- Written by own.py out of the printed text of the same name, with the walk of num.Times done anew.
import Derived.Test.YtkpiphihmmhhpaaPNumSumsx0
import Derived.Test.YtkpiphihmmhhpaaONumSumsx1
import Derived.Test.YtkpiphihmmhhpaaONumSumsx2
namespace Go.Proofs.Ytkpiphihmmhhpaa.PNumSums
open Go.RowKit Go.Proofs.YtkpiphihmmhhpaaW.PrintWords Go.Proofs.YtkpiphihmmhhpaaW.PrintLast Go.Proofs.YtkpiphihmmhhpaaW.PrintMore
attribute [local go_sem] max2_int min2_int max_two min_two max_three min_three max_four min_four   -- for this text's walks alone
set_option linter.unusedVariables false
set_option linter.unusedSimpArgs false

attribute [local go_sem high] eqA47
/-! ### nightjarlaw01_NumSums: function 5 -/
def nightjarlaw01_NumSums.j0 : Nat → Int → Int → Int → Int → Int → Bool → Option (Bool)
  | 0, _, _, _, _, _, _ => none
  | k + 1, x0, x1, x2, x3, x4, x62 => if x62 = true then (some false) else ((num_Minus.f x0 x1).bind fun t125 => (if x1 > x0 then (if t125 = 0 then (if x1 ≤ x0 then ((nightjarref01_Sum.f t125 x1).bind fun bt126 => (if (!(bt126.1 == 0) || (!(bt126.2 == x0))) = true then (some false) else ((num_Clamp.f x2 x3 x4).bind fun t128 => (if x3 > x4 then (some true) else (if t128 ≥ x3 then (if t128 ≤ x4 then (if t128 = x2 then (some true) else (if x2 < x3 then (if t128 = x3 then (some true) else (if x2 > x4 then (some (t128 == x4)) else (some false))) else (if x2 > x4 then (some (t128 == x4)) else (some false)))) else (some false)) else (some false)))))) else ((num_Clamp.f x2 x3 x4).bind fun t129 => (if x3 > x4 then (some true) else (if t129 ≥ x3 then (if t129 ≤ x4 then (if t129 = x2 then (some true) else (if x2 < x3 then (if t129 = x3 then (some true) else (if x2 > x4 then (some (t129 == x4)) else (some false))) else (if x2 > x4 then (some (t129 == x4)) else (some false)))) else (some false)) else (some false))))) else (some false)) else (if x1 ≤ x0 then ((nightjarref01_Sum.f t125 x1).bind fun bt130 => (if (!(bt130.1 == 0) || (!(bt130.2 == x0))) = true then (some false) else ((num_Clamp.f x2 x3 x4).bind fun t132 => (if x3 > x4 then (some true) else (if t132 ≥ x3 then (if t132 ≤ x4 then (if t132 = x2 then (some true) else (if x2 < x3 then (if t132 = x3 then (some true) else (if x2 > x4 then (some (t132 == x4)) else (some false))) else (if x2 > x4 then (some (t132 == x4)) else (some false)))) else (some false)) else (some false)))))) else ((num_Clamp.f x2 x3 x4).bind fun t133 => (if x3 > x4 then (some true) else (if t133 ≥ x3 then (if t133 ≤ x4 then (if t133 = x2 then (some true) else (if x2 < x3 then (if t133 = x3 then (some true) else (if x2 > x4 then (some (t133 == x4)) else (some false))) else (if x2 > x4 then (some (t133 == x4)) else (some false)))) else (some false)) else (some false)))))))
def nightjarlaw01_NumSums.f (k : Nat) (a0 : Int) (a1 : Int) (a2 : Int) (a3 : Int) (a4 : Int) : Option (Bool) := (nightjarlaw01_alive.f).bind fun t118 => (if t118 = true then ((nightjarref01_Sum.f a0 a1).bind fun bt119 => ((num_Add.f a0 a1).bind fun bt122 => ((num_Plus.f a0 a1).bind fun t124 => (if (bt122.2 != (bt119.1 == 0)) = true then (nightjarlaw01_NumSums.j0 k a0 a1 a2 a3 a4 true) else (if bt122.2 = true then (if bt122.1 = bt119.2 then (if t124 = bt119.2 then (nightjarlaw01_NumSums.j0 k a0 a1 a2 a3 a4 false) else (nightjarlaw01_NumSums.j0 k a0 a1 a2 a3 a4 true)) else (nightjarlaw01_NumSums.j0 k a0 a1 a2 a3 a4 true)) else (if bt122.1 = 0 then (nightjarlaw01_NumSums.j0 k a0 a1 a2 a3 a4 (t124 != 18446744073709551615)) else (nightjarlaw01_NumSums.j0 k a0 a1 a2 a3 a4 true))))))) else (some false))
theorem nightjarlaw01_NumSums.mono_l : ∀ k, (∀ y0 y1 y2 y3 y4 y5, LeO (nightjarlaw01_NumSums.j0 k y0 y1 y2 y3 y4 y5) (nightjarlaw01_NumSums.j0 (k + 1) y0 y1 y2 y3 y4 y5))
  | 0 => fun _ _ _ _ _ _ r h => by simp [nightjarlaw01_NumSums.j0] at h
  | k + 1 => by
    have ih0 := nightjarlaw01_NumSums.mono_l k
    · intro y0 y1 y2 y3 y4 y5
      unfold nightjarlaw01_NumSums.j0
      repeat' first
      | (with_reducible exact ih0 _ _ _ _ _ _)
      | (with_reducible exact LeO.refl _)
      | (with_reducible exact LeO.none _)
      | (with_reducible refine LeO.ite ?_ ?_)
      | (with_reducible refine LeO.bind ?_ (fun _ => ?_))
      | exact ih0 _ _ _ _ _ _
      | exact LeO.none _
      | refine LeO.ite ?_ ?_
      | refine LeO.bind ?_ (fun _ => ?_)
theorem nightjarlaw01_NumSums.mono : ∀ a0 a1 a2 a3 a4 k, LeO (nightjarlaw01_NumSums.f k a0 a1 a2 a3 a4) (nightjarlaw01_NumSums.f (k + 1) a0 a1 a2 a3 a4) := by
  intro a0 a1 a2 a3 a4 k
  have ih0 := nightjarlaw01_NumSums.mono_l k
  unfold nightjarlaw01_NumSums.f
  repeat' first
      | (with_reducible exact ih0 _ _ _ _ _ _)
      | (with_reducible exact LeO.refl _)
      | (with_reducible exact LeO.none _)
      | (with_reducible refine LeO.ite ?_ ?_)
      | (with_reducible refine LeO.bind ?_ (fun _ => ?_))
      | exact ih0 _ _ _ _ _ _
      | exact LeO.none _
      | refine LeO.ite ?_ ?_
      | refine LeO.bind ?_ (fun _ => ?_)
set_option maxHeartbeats 8000000 in
set_option maxRecDepth 100000 in
theorem nightjarlaw01_NumSums.calls (k : Nat) (a0 : Int) (a1 : Int) (a2 : Int) (a3 : Int) (a4 : Int) (r : Bool) (w : World) (h : nightjarlaw01_NumSums.f k a0 a1 a2 a3 a4 = some r) :
    Calls Try.prog 5 #[.int .u64 a0, .int .u64 a1, .int .i64 a2, .int .i64 a3, .int .i64 a4] w fun e w' => e = .returned (.bool r) ∧ Below w.heap.size w w' := by
  have hu47 := Try.underlying47
  have HB := Aside0.mk (Below.refl w.heap.size w)
  have H : ((nightjarlaw01_alive.f).bind fun t118 => (if t118 = true then ((nightjarref01_Sum.f a0 a1).bind fun bt119 => ((num_Add.f a0 a1).bind fun bt122 => ((num_Plus.f a0 a1).bind fun t124 => (if (bt122.2 != (bt119.1 == 0)) = true then (nightjarlaw01_NumSums.j0 k a0 a1 a2 a3 a4 true) else (if bt122.2 = true then (if bt122.1 = bt119.2 then (if t124 = bt119.2 then (nightjarlaw01_NumSums.j0 k a0 a1 a2 a3 a4 false) else (nightjarlaw01_NumSums.j0 k a0 a1 a2 a3 a4 true)) else (nightjarlaw01_NumSums.j0 k a0 a1 a2 a3 a4 true)) else (if bt122.1 = 0 then (nightjarlaw01_NumSums.j0 k a0 a1 a2 a3 a4 (t124 != 18446744073709551615)) else (nightjarlaw01_NumSums.j0 k a0 a1 a2 a3 a4 true))))))) else (some false))) = some r := h
  clear h
  replace H := Option.bind_eq_some_iff.mp H
  obtain ⟨t118, A60, H⟩ := H
  replace H : (if t118 = true then ((nightjarref01_Sum.f a0 a1).bind fun bt119 => ((num_Add.f a0 a1).bind fun bt122 => ((num_Plus.f a0 a1).bind fun t124 => (if (bt122.2 != (bt119.1 == 0)) = true then (nightjarlaw01_NumSums.j0 k a0 a1 a2 a3 a4 true) else (if bt122.2 = true then (if bt122.1 = bt119.2 then (if t124 = bt119.2 then (nightjarlaw01_NumSums.j0 k a0 a1 a2 a3 a4 false) else (nightjarlaw01_NumSums.j0 k a0 a1 a2 a3 a4 true)) else (nightjarlaw01_NumSums.j0 k a0 a1 a2 a3 a4 true)) else (if bt122.1 = 0 then (nightjarlaw01_NumSums.j0 k a0 a1 a2 a3 a4 (t124 != 18446744073709551615)) else (nightjarlaw01_NumSums.j0 k a0 a1 a2 a3 a4 true))))))) else (some false)) = some r := H
  have A6 := Aside0.mk A60
  clear A60
  by_cases c7 : t118 = true
  · subst c7
    have H1 : ((nightjarref01_Sum.f a0 a1).bind fun bt119 => ((num_Add.f a0 a1).bind fun bt122 => ((num_Plus.f a0 a1).bind fun t124 => (if (bt122.2 != (bt119.1 == 0)) = true then (nightjarlaw01_NumSums.j0 k a0 a1 a2 a3 a4 true) else (if bt122.2 = true then (if bt122.1 = bt119.2 then (if t124 = bt119.2 then (nightjarlaw01_NumSums.j0 k a0 a1 a2 a3 a4 false) else (nightjarlaw01_NumSums.j0 k a0 a1 a2 a3 a4 true)) else (nightjarlaw01_NumSums.j0 k a0 a1 a2 a3 a4 true)) else (if bt122.1 = 0 then (nightjarlaw01_NumSums.j0 k a0 a1 a2 a3 a4 (t124 != 18446744073709551615)) else (nightjarlaw01_NumSums.j0 k a0 a1 a2 a3 a4 true))))))) = some r := by rw [if_pos rfl] at H; exact H
    clear H
    have H := H1
    clear H1
    replace H := Option.bind_eq_some_iff.mp H
    obtain ⟨⟨t119, t120⟩, A80, H⟩ := H
    replace H : ((num_Add.f a0 a1).bind fun bt122 => ((num_Plus.f a0 a1).bind fun t124 => (if (bt122.2 != (t119 == 0)) = true then (nightjarlaw01_NumSums.j0 k a0 a1 a2 a3 a4 true) else (if bt122.2 = true then (if bt122.1 = t120 then (if t124 = t120 then (nightjarlaw01_NumSums.j0 k a0 a1 a2 a3 a4 false) else (nightjarlaw01_NumSums.j0 k a0 a1 a2 a3 a4 true)) else (nightjarlaw01_NumSums.j0 k a0 a1 a2 a3 a4 true)) else (if bt122.1 = 0 then (nightjarlaw01_NumSums.j0 k a0 a1 a2 a3 a4 (t124 != 18446744073709551615)) else (nightjarlaw01_NumSums.j0 k a0 a1 a2 a3 a4 true)))))) = some r := H
    have A8 := Aside0.mk A80
    clear A80
    replace H := Option.bind_eq_some_iff.mp H
    obtain ⟨⟨t122, t123⟩, A90, H⟩ := H
    replace H : ((num_Plus.f a0 a1).bind fun t124 => (if (t123 != (t119 == 0)) = true then (nightjarlaw01_NumSums.j0 k a0 a1 a2 a3 a4 true) else (if t123 = true then (if t122 = t120 then (if t124 = t120 then (nightjarlaw01_NumSums.j0 k a0 a1 a2 a3 a4 false) else (nightjarlaw01_NumSums.j0 k a0 a1 a2 a3 a4 true)) else (nightjarlaw01_NumSums.j0 k a0 a1 a2 a3 a4 true)) else (if t122 = 0 then (nightjarlaw01_NumSums.j0 k a0 a1 a2 a3 a4 (t124 != 18446744073709551615)) else (nightjarlaw01_NumSums.j0 k a0 a1 a2 a3 a4 true))))) = some r := H
    have A9 := Aside0.mk A90
    clear A90
    replace H := Option.bind_eq_some_iff.mp H
    obtain ⟨t124, A100, H⟩ := H
    replace H : (if (t123 != (t119 == 0)) = true then (nightjarlaw01_NumSums.j0 k a0 a1 a2 a3 a4 true) else (if t123 = true then (if t122 = t120 then (if t124 = t120 then (nightjarlaw01_NumSums.j0 k a0 a1 a2 a3 a4 false) else (nightjarlaw01_NumSums.j0 k a0 a1 a2 a3 a4 true)) else (nightjarlaw01_NumSums.j0 k a0 a1 a2 a3 a4 true)) else (if t122 = 0 then (nightjarlaw01_NumSums.j0 k a0 a1 a2 a3 a4 (t124 != 18446744073709551615)) else (nightjarlaw01_NumSums.j0 k a0 a1 a2 a3 a4 true)))) = some r := H
    have A10 := Aside0.mk A100
    clear A100
    have HC11 := Aside0.mk H
    clear H
    go_enter Try.func5, Try.ntmps5
    go_upto_region 6 with (first | ((with_reducible refine gate_callee (f := 25) rfl ?_); refine goesL_ (some 17) rfl rfl Try.func25 (by kernel_rfl) rfl #[] rfl (by (try simp only [List.map_toArray, List.map_cons, List.map_nil]); first | done | rfl | (simp only [List.length_drop, List.length_take]; rfl)) ?_; (with_reducible refine (nightjarlaw01_alive.calls  true _ A6.out).mono ?_); rintro e w12 ⟨rfl, hb⟩; refine ⟨_, rfl, ?_⟩; have n0_ := Aside0.mk (below_step (by repeat (first | (with_reducible first | exact HB.out | apply below_alloc | apply pw_below_drewN | apply below_drew1) | exact HB.out)) hb); clear HB; have HB := n0_; clear n0_; (try clear hb); (try clear hb2); (try clear hk); (try clear hi)) | ((with_reducible refine gate_callee (f := 26) rfl ?_); refine goesL_ (some 21) rfl rfl Try.func26 (by kernel_rfl) rfl #[.int .u64 a0, .int .u64 a1] rfl (by (try simp only [List.map_toArray, List.map_cons, List.map_nil]); first | done | rfl | (simp only [List.length_drop, List.length_take]; rfl)) ?_; (with_reducible refine (nightjarref01_Sum.calls a0 a1 t119 t120 _ A8.out).mono ?_); rintro e w13 ⟨rfl, hb⟩; refine ⟨_, rfl, ?_⟩; have n0_ := Aside0.mk (below_step (by repeat (first | (with_reducible first | exact HB.out | apply below_alloc | apply pw_below_drewN | apply below_drew1) | exact HB.out)) hb); clear HB; have HB := n0_; clear n0_; (try clear hb); (try clear hb2); (try clear hk); (try clear hi)) | ((with_reducible refine gate_dst (N := 11) rfl ?_); refine box_event ?hg (N := 11) ?hd (cs := #[.int .u64 0, .int .u64 0]) (t := 47) ?hr ?_; (case hd => rfl); (case hg => rfl); (case hr => first | (go_simp; done) | (go_simp; rfl)); intro gb121 hg w14 hbox hb; have n0_ := Aside0.mk (below_step (by repeat (first | (with_reducible first | exact HB.out | apply below_alloc | apply pw_below_drewN | apply below_drew1) | exact HB.out)) hb); have n1_ := Aside0.mk (hbox); have n2_ := Aside0.mk ((by rw [hg]; exact (below_size (by repeat (first | (with_reducible first | exact HB.out | apply below_alloc | apply pw_below_drewN | apply below_drew1) | exact HB.out))) : w.heap.size ≤ gb121)); have n3_ := Aside0.mk ((by rw [hg]; exact (below_size (by repeat (first | (with_reducible first | exact HB.out | apply below_alloc | apply pw_below_drewN | apply below_drew1) | exact HB.out))) : w.heap.size ≤ gb121)); clear HB; have HB := n0_; have BK121 := n1_; have GW121 := n2_; have GE121 := n3_; clear n0_ n1_ n2_ n3_; clear hb hbox hg; have hcz15_0 : w14.cell? ⟨gb121, 0, none⟩ = some (.int .u64 0) := (blk_cell BK121.out 0).trans rfl; have hcz15_1 : w14.cell? ⟨gb121, 1, none⟩ = some (.int .u64 0) := (blk_cell BK121.out 1).trans rfl; have hfz15_0 := blk_frozen BK121.out 0; have hfz15_1 := blk_frozen BK121.out 1) | ((with_reducible refine gate_callee (f := 27) rfl ?_); refine goesL_ (some 25) rfl rfl Try.func27 (by kernel_rfl) rfl #[.int .u64 a0, .int .u64 a1] rfl (by (try simp only [List.map_toArray, List.map_cons, List.map_nil]); first | done | rfl | (simp only [List.length_drop, List.length_take]; rfl)) ?_; (with_reducible refine (num_Add.calls a0 a1 t122 t123 _ A9.out).mono ?_); rintro e w' ⟨rfl, ⟨nd, rfl⟩⟩; refine ⟨_, rfl, ?_⟩) | ((with_reducible refine gate_callee (f := 28) rfl ?_); refine goesL_ (some 30) rfl rfl Try.func28 (by kernel_rfl) rfl #[.int .u64 a0, .int .u64 a1] rfl (by (try simp only [List.map_toArray, List.map_cons, List.map_nil]); first | done | rfl | (simp only [List.length_drop, List.length_take]; rfl)) ?_; (with_reducible refine (num_Plus.calls a0 a1 t124 _ A10.out).mono ?_); rintro e w' ⟨rfl, ⟨nd, rfl⟩⟩; refine ⟨_, rfl, ?_⟩))
    (try simp only [Act.put, List.setIfInBounds_toArray, List.set_cons_zero, List.set_cons_succ])
    go_cut [62] (fun v62 wc => ∃ (kq : Nat) (x62_10 : Bool), v62 = .bool x62_10 ∧ Aside0 (nightjarlaw01_NumSums.j0 kq a0 a1 a2 a3 a4 x62_10 = some r) ∧ Aside0 (kq ≤ k) ∧ Aside0 (wc.heap[gb121]? = some (.cells #[.int .u64 t119, .int .u64 t120] 47 (0, 0))) ∧ Aside0 (Below w.heap.size w wc))
    case first =>
      have H := HC11.out
      clear HC11
      by_cases c16 : (t123 != (t119 == 0)) = true
      · rw [if_pos c16] at H
        have c16b0 : (t123 != (t119 == 0)) = true := c16
        (try (have c16b1 : decide (t123 = (t119 == 0)) = false := by simpa using c16))
        (try (have c16b2 : (t123 == (t119 == 0)) = false := by simpa using c16))
        (try (have c16b3 : ¬ (t123 = (t119 == 0)) := by simpa using c16))
        clear c16
        (first | rw [c16b0] | (simp only [i64_w, i32_w]; rw [c16b0]) | skip)
        have H' := Aside0.mk H
        clear H
        have hcz17_0 : w14.cell? ⟨gb121, 0, none⟩ = some (.int .u64 0) := (blk_cell BK121.out 0).trans rfl
        have hcz17_1 : w14.cell? ⟨gb121, 1, none⟩ = some (.int .u64 0) := (blk_cell BK121.out 1).trans rfl
        have hfz17_0 := blk_frozen BK121.out 0
        have hfz17_1 := blk_frozen BK121.out 1
        go_wp2
        go_meet
        case rel => exact ⟨_, (true), (by first | rfl | (simp; done) | (simp [*]; done)), H', ⟨by first | omega | exact Nat.le_refl _⟩, ⟨by (with_reducible repeat (first | refine blk_drewN ?_ _ | refine blk_drew ?_ | refine blk_alloc ?_ _)); refine blk_put (cs := #[.int .u64 t119, .int .u64 0]) ?_ 1 _ rfl; (with_reducible repeat (first | refine blk_drewN ?_ _ | refine blk_drew ?_ | refine blk_alloc ?_ _)); refine blk_put (cs := #[.int .u64 0, .int .u64 0]) ?_ 0 _ rfl; (with_reducible repeat (first | refine blk_drewN ?_ _ | refine blk_drew ?_ | refine blk_alloc ?_ _)); exact BK121.out⟩, ⟨by repeat (first | (with_reducible first | exact HB.out | apply below_alloc | apply pw_below_drewN | apply below_drew1 | refine below_set ?_ GE121.out) | exact HB.out)⟩⟩
      · rw [if_neg c16] at H
        have c16b0 : (t123 != (t119 == 0)) = false := by simpa using c16
        (try (have c16b1 : decide (t123 = (t119 == 0)) = true := by simpa using c16))
        (try (have c16b2 : (t123 == (t119 == 0)) = true := by simpa using c16))
        clear c16
        (first | rw [c16b0] | (simp only [i64_w, i32_w]; rw [c16b0]) | skip)
        by_cases c18 : t123 = true
        · subst c18
          have H1 : (if t122 = t120 then (if t124 = t120 then (nightjarlaw01_NumSums.j0 k a0 a1 a2 a3 a4 false) else (nightjarlaw01_NumSums.j0 k a0 a1 a2 a3 a4 true)) else (nightjarlaw01_NumSums.j0 k a0 a1 a2 a3 a4 true)) = some r := by rw [if_pos rfl] at H; exact H
          clear H
          have H := H1
          clear H1
          by_cases c19 : t122 = t120
          · rw [if_pos c19] at H
            have c19b0 : (t122 == t120) = true := beq_iff_eq.mpr c19
            have c19b1 : (t122 != t120) = false := bne_eq_false_iff_eq.mpr c19
            clear c19
            by_cases c20 : t124 = t120
            · rw [if_pos c20] at H
              have c20b0 : (t124 == t120) = true := beq_iff_eq.mpr c20
              have c20b1 : (t124 != t120) = false := bne_eq_false_iff_eq.mpr c20
              clear c20
              have H' := Aside0.mk H
              clear H
              have hcz21_0 : w14.cell? ⟨gb121, 0, none⟩ = some (.int .u64 0) := (blk_cell BK121.out 0).trans rfl
              have hcz21_1 : w14.cell? ⟨gb121, 1, none⟩ = some (.int .u64 0) := (blk_cell BK121.out 1).trans rfl
              have hfz21_0 := blk_frozen BK121.out 0
              have hfz21_1 := blk_frozen BK121.out 1
              go_wp2
              go_meet
              case rel => exact ⟨_, (false), (by first | rfl | (simp; done) | (simp [*]; done)), H', ⟨by first | omega | exact Nat.le_refl _⟩, ⟨by (with_reducible repeat (first | refine blk_drewN ?_ _ | refine blk_drew ?_ | refine blk_alloc ?_ _)); refine blk_put (cs := #[.int .u64 t119, .int .u64 0]) ?_ 1 _ rfl; (with_reducible repeat (first | refine blk_drewN ?_ _ | refine blk_drew ?_ | refine blk_alloc ?_ _)); refine blk_put (cs := #[.int .u64 0, .int .u64 0]) ?_ 0 _ rfl; (with_reducible repeat (first | refine blk_drewN ?_ _ | refine blk_drew ?_ | refine blk_alloc ?_ _)); exact BK121.out⟩, ⟨by repeat (first | (with_reducible first | exact HB.out | apply below_alloc | apply pw_below_drewN | apply below_drew1 | refine below_set ?_ GE121.out) | exact HB.out)⟩⟩
            · rw [if_neg c20] at H
              have c20b0 : (t124 == t120) = false := beq_eq_false_iff_ne.mpr c20
              have c20b1 : (t124 != t120) = true := bne_iff_ne.mpr c20
              have H' := Aside0.mk H
              clear H
              have hcz22_0 : w14.cell? ⟨gb121, 0, none⟩ = some (.int .u64 0) := (blk_cell BK121.out 0).trans rfl
              have hcz22_1 : w14.cell? ⟨gb121, 1, none⟩ = some (.int .u64 0) := (blk_cell BK121.out 1).trans rfl
              have hfz22_0 := blk_frozen BK121.out 0
              have hfz22_1 := blk_frozen BK121.out 1
              go_wp2
              go_meet
              case rel => exact ⟨_, (true), (by first | rfl | (simp; done) | (simp [*]; done)), H', ⟨by first | omega | exact Nat.le_refl _⟩, ⟨by (with_reducible repeat (first | refine blk_drewN ?_ _ | refine blk_drew ?_ | refine blk_alloc ?_ _)); refine blk_put (cs := #[.int .u64 t119, .int .u64 0]) ?_ 1 _ rfl; (with_reducible repeat (first | refine blk_drewN ?_ _ | refine blk_drew ?_ | refine blk_alloc ?_ _)); refine blk_put (cs := #[.int .u64 0, .int .u64 0]) ?_ 0 _ rfl; (with_reducible repeat (first | refine blk_drewN ?_ _ | refine blk_drew ?_ | refine blk_alloc ?_ _)); exact BK121.out⟩, ⟨by repeat (first | (with_reducible first | exact HB.out | apply below_alloc | apply pw_below_drewN | apply below_drew1 | refine below_set ?_ GE121.out) | exact HB.out)⟩⟩
          · rw [if_neg c19] at H
            have c19b0 : (t122 == t120) = false := beq_eq_false_iff_ne.mpr c19
            have c19b1 : (t122 != t120) = true := bne_iff_ne.mpr c19
            have H' := Aside0.mk H
            clear H
            have hcz23_0 : w14.cell? ⟨gb121, 0, none⟩ = some (.int .u64 0) := (blk_cell BK121.out 0).trans rfl
            have hcz23_1 : w14.cell? ⟨gb121, 1, none⟩ = some (.int .u64 0) := (blk_cell BK121.out 1).trans rfl
            have hfz23_0 := blk_frozen BK121.out 0
            have hfz23_1 := blk_frozen BK121.out 1
            go_wp2
            go_meet
            case rel => exact ⟨_, (true), (by first | rfl | (simp; done) | (simp [*]; done)), H', ⟨by first | omega | exact Nat.le_refl _⟩, ⟨by (with_reducible repeat (first | refine blk_drewN ?_ _ | refine blk_drew ?_ | refine blk_alloc ?_ _)); refine blk_put (cs := #[.int .u64 t119, .int .u64 0]) ?_ 1 _ rfl; (with_reducible repeat (first | refine blk_drewN ?_ _ | refine blk_drew ?_ | refine blk_alloc ?_ _)); refine blk_put (cs := #[.int .u64 0, .int .u64 0]) ?_ 0 _ rfl; (with_reducible repeat (first | refine blk_drewN ?_ _ | refine blk_drew ?_ | refine blk_alloc ?_ _)); exact BK121.out⟩, ⟨by repeat (first | (with_reducible first | exact HB.out | apply below_alloc | apply pw_below_drewN | apply below_drew1 | refine below_set ?_ GE121.out) | exact HB.out)⟩⟩
        · replace c18 := Bool.eq_false_iff.mpr c18
          subst c18
          have H1 : (if t122 = 0 then (nightjarlaw01_NumSums.j0 k a0 a1 a2 a3 a4 (t124 != 18446744073709551615)) else (nightjarlaw01_NumSums.j0 k a0 a1 a2 a3 a4 true)) = some r := by rw [if_neg (show ¬ (false = true) by decide)] at H; exact H
          clear H
          have H := H1
          clear H1
          by_cases c24 : t122 = 0
          · rw [if_pos c24] at H
            have c24b0 : (t122 == 0) = true := beq_iff_eq.mpr c24
            have c24b1 : (t122 != 0) = false := bne_eq_false_iff_eq.mpr c24
            clear c24
            have H' := Aside0.mk H
            clear H
            have hcz25_0 : w14.cell? ⟨gb121, 0, none⟩ = some (.int .u64 0) := (blk_cell BK121.out 0).trans rfl
            have hcz25_1 : w14.cell? ⟨gb121, 1, none⟩ = some (.int .u64 0) := (blk_cell BK121.out 1).trans rfl
            have hfz25_0 := blk_frozen BK121.out 0
            have hfz25_1 := blk_frozen BK121.out 1
            go_wp2
            go_meet
            case rel => exact ⟨_, ((t124 != 18446744073709551615)), (by first | rfl | (simp; done) | (simp [*]; done)), H', ⟨by first | omega | exact Nat.le_refl _⟩, ⟨by (with_reducible repeat (first | refine blk_drewN ?_ _ | refine blk_drew ?_ | refine blk_alloc ?_ _)); refine blk_put (cs := #[.int .u64 t119, .int .u64 0]) ?_ 1 _ rfl; (with_reducible repeat (first | refine blk_drewN ?_ _ | refine blk_drew ?_ | refine blk_alloc ?_ _)); refine blk_put (cs := #[.int .u64 0, .int .u64 0]) ?_ 0 _ rfl; (with_reducible repeat (first | refine blk_drewN ?_ _ | refine blk_drew ?_ | refine blk_alloc ?_ _)); exact BK121.out⟩, ⟨by repeat (first | (with_reducible first | exact HB.out | apply below_alloc | apply pw_below_drewN | apply below_drew1 | refine below_set ?_ GE121.out) | exact HB.out)⟩⟩
          · rw [if_neg c24] at H
            have c24b0 : (t122 == 0) = false := beq_eq_false_iff_ne.mpr c24
            have c24b1 : (t122 != 0) = true := bne_iff_ne.mpr c24
            have H' := Aside0.mk H
            clear H
            have hcz26_0 : w14.cell? ⟨gb121, 0, none⟩ = some (.int .u64 0) := (blk_cell BK121.out 0).trans rfl
            have hcz26_1 : w14.cell? ⟨gb121, 1, none⟩ = some (.int .u64 0) := (blk_cell BK121.out 1).trans rfl
            have hfz26_0 := blk_frozen BK121.out 0
            have hfz26_1 := blk_frozen BK121.out 1
            go_wp2
            go_meet
            case rel => exact ⟨_, (true), (by first | rfl | (simp; done) | (simp [*]; done)), H', ⟨by first | omega | exact Nat.le_refl _⟩, ⟨by (with_reducible repeat (first | refine blk_drewN ?_ _ | refine blk_drew ?_ | refine blk_alloc ?_ _)); refine blk_put (cs := #[.int .u64 t119, .int .u64 0]) ?_ 1 _ rfl; (with_reducible repeat (first | refine blk_drewN ?_ _ | refine blk_drew ?_ | refine blk_alloc ?_ _)); refine blk_put (cs := #[.int .u64 0, .int .u64 0]) ?_ 0 _ rfl; (with_reducible repeat (first | refine blk_drewN ?_ _ | refine blk_drew ?_ | refine blk_alloc ?_ _)); exact BK121.out⟩, ⟨by repeat (first | (with_reducible first | exact HB.out | apply below_alloc | apply pw_below_drewN | apply below_drew1 | refine below_set ?_ GE121.out) | exact HB.out)⟩⟩
    case rest =>
      clear HC11
      try clear c1
      try clear c2
      try clear p2
      try clear c5
      try clear c7
      try clear c16
      try clear c16b0
      try clear c16b1
      try clear c16b2
      try clear c18
      try clear c19
      try clear c19b0
      try clear c19b1
      try clear c20
      try clear c20b0
      try clear c20b1
      try clear c24
      try clear c24b0
      try clear c24b1
      try clear c25
      try clear c26
      try clear hcz15_0
      try clear hcz15_1
      try clear hcz17_0
      try clear hcz17_1
      try clear hcz21_0
      try clear hcz21_1
      try clear hcz22_0
      try clear hcz22_1
      try clear hcz23_0
      try clear hcz23_1
      try clear hcz25_0
      try clear hcz25_1
      try clear hcz26_0
      try clear hcz26_1
      try clear hfz15_0
      try clear hfz15_1
      try clear hfz17_0
      try clear hfz17_1
      try clear hfz21_0
      try clear hfz21_1
      try clear hfz22_0
      try clear hfz22_1
      try clear hfz23_0
      try clear hfz23_1
      try clear hfz25_0
      try clear hfz25_1
      try clear hfz26_0
      try clear hfz26_1
      obtain ⟨kq, x62_10, rfl, HA, HJ10, BK121, HB⟩ := hcut
      cases kq with
      | zero => exact absurd HA.out (by simp [nightjarlaw01_NumSums.j0])
      | succ kj10 =>
        have H := HA.out
        clear HA
        simp only [nightjarlaw01_NumSums.j0] at H
        by_cases c27 : x62_10 = true
        · subst c27
          have H1 : (some false) = some r := by rw [if_pos rfl] at H; exact H
          clear H
          have H := H1
          clear H1
          obtain rfl := Option.some.inj H
          go_wp2
          go_ret
          exact ⟨by first | rfl | (simp [errW_none, errW_some] <;> rfl) | (simp [*, errW_none, errW_some] <;> rfl), by repeat (first | (with_reducible first | exact HB.out | apply below_alloc | apply pw_below_drewN | apply below_drew1 | refine below_set ?_ GE121.out) | exact HB.out)⟩
        · replace c27 := Bool.eq_false_iff.mpr c27
          subst c27
          have H1 : ((num_Minus.f a0 a1).bind fun t125 => (if a1 > a0 then (if t125 = 0 then (if a1 ≤ a0 then ((nightjarref01_Sum.f t125 a1).bind fun bt126 => (if (!(bt126.1 == 0) || (!(bt126.2 == a0))) = true then (some false) else ((num_Clamp.f a2 a3 a4).bind fun t128 => (if a3 > a4 then (some true) else (if t128 ≥ a3 then (if t128 ≤ a4 then (if t128 = a2 then (some true) else (if a2 < a3 then (if t128 = a3 then (some true) else (if a2 > a4 then (some (t128 == a4)) else (some false))) else (if a2 > a4 then (some (t128 == a4)) else (some false)))) else (some false)) else (some false)))))) else ((num_Clamp.f a2 a3 a4).bind fun t129 => (if a3 > a4 then (some true) else (if t129 ≥ a3 then (if t129 ≤ a4 then (if t129 = a2 then (some true) else (if a2 < a3 then (if t129 = a3 then (some true) else (if a2 > a4 then (some (t129 == a4)) else (some false))) else (if a2 > a4 then (some (t129 == a4)) else (some false)))) else (some false)) else (some false))))) else (some false)) else (if a1 ≤ a0 then ((nightjarref01_Sum.f t125 a1).bind fun bt130 => (if (!(bt130.1 == 0) || (!(bt130.2 == a0))) = true then (some false) else ((num_Clamp.f a2 a3 a4).bind fun t132 => (if a3 > a4 then (some true) else (if t132 ≥ a3 then (if t132 ≤ a4 then (if t132 = a2 then (some true) else (if a2 < a3 then (if t132 = a3 then (some true) else (if a2 > a4 then (some (t132 == a4)) else (some false))) else (if a2 > a4 then (some (t132 == a4)) else (some false)))) else (some false)) else (some false)))))) else ((num_Clamp.f a2 a3 a4).bind fun t133 => (if a3 > a4 then (some true) else (if t133 ≥ a3 then (if t133 ≤ a4 then (if t133 = a2 then (some true) else (if a2 < a3 then (if t133 = a3 then (some true) else (if a2 > a4 then (some (t133 == a4)) else (some false))) else (if a2 > a4 then (some (t133 == a4)) else (some false)))) else (some false)) else (some false))))))) = some r := by rw [if_neg (show ¬ (false = true) by decide)] at H; exact H
          clear H
          have H := H1
          clear H1
          replace H := Option.bind_eq_some_iff.mp H
          obtain ⟨t125, A280, H⟩ := H
          replace H : (if a1 > a0 then (if t125 = 0 then (if a1 ≤ a0 then ((nightjarref01_Sum.f t125 a1).bind fun bt126 => (if (!(bt126.1 == 0) || (!(bt126.2 == a0))) = true then (some false) else ((num_Clamp.f a2 a3 a4).bind fun t128 => (if a3 > a4 then (some true) else (if t128 ≥ a3 then (if t128 ≤ a4 then (if t128 = a2 then (some true) else (if a2 < a3 then (if t128 = a3 then (some true) else (if a2 > a4 then (some (t128 == a4)) else (some false))) else (if a2 > a4 then (some (t128 == a4)) else (some false)))) else (some false)) else (some false)))))) else ((num_Clamp.f a2 a3 a4).bind fun t129 => (if a3 > a4 then (some true) else (if t129 ≥ a3 then (if t129 ≤ a4 then (if t129 = a2 then (some true) else (if a2 < a3 then (if t129 = a3 then (some true) else (if a2 > a4 then (some (t129 == a4)) else (some false))) else (if a2 > a4 then (some (t129 == a4)) else (some false)))) else (some false)) else (some false))))) else (some false)) else (if a1 ≤ a0 then ((nightjarref01_Sum.f t125 a1).bind fun bt130 => (if (!(bt130.1 == 0) || (!(bt130.2 == a0))) = true then (some false) else ((num_Clamp.f a2 a3 a4).bind fun t132 => (if a3 > a4 then (some true) else (if t132 ≥ a3 then (if t132 ≤ a4 then (if t132 = a2 then (some true) else (if a2 < a3 then (if t132 = a3 then (some true) else (if a2 > a4 then (some (t132 == a4)) else (some false))) else (if a2 > a4 then (some (t132 == a4)) else (some false)))) else (some false)) else (some false)))))) else ((num_Clamp.f a2 a3 a4).bind fun t133 => (if a3 > a4 then (some true) else (if t133 ≥ a3 then (if t133 ≤ a4 then (if t133 = a2 then (some true) else (if a2 < a3 then (if t133 = a3 then (some true) else (if a2 > a4 then (some (t133 == a4)) else (some false))) else (if a2 > a4 then (some (t133 == a4)) else (some false)))) else (some false)) else (some false)))))) = some r := H
          have A28 := Aside0.mk A280
          clear A280
          by_cases c29 : a1 > a0
          · rw [if_pos c29] at H
            have c29b0 : decide (a0 < a1) = true := decide_eq_true c29
            clear c29
            by_cases c30 : t125 = 0
            · rw [if_pos c30] at H
              have c30b0 : (t125 == 0) = true := beq_iff_eq.mpr c30
              have c30b1 : (t125 != 0) = false := bne_eq_false_iff_eq.mpr c30
              clear c30
              by_cases c31 : a1 ≤ a0
              · rw [if_pos c31] at H
                have c31b0 : decide (a1 ≤ a0) = true := decide_eq_true c31
                clear c31
                replace H := Option.bind_eq_some_iff.mp H
                obtain ⟨⟨t126, t127⟩, A320, H⟩ := H
                replace H : (if (!(t126 == 0) || (!(t127 == a0))) = true then (some false) else ((num_Clamp.f a2 a3 a4).bind fun t128 => (if a3 > a4 then (some true) else (if t128 ≥ a3 then (if t128 ≤ a4 then (if t128 = a2 then (some true) else (if a2 < a3 then (if t128 = a3 then (some true) else (if a2 > a4 then (some (t128 == a4)) else (some false))) else (if a2 > a4 then (some (t128 == a4)) else (some false)))) else (some false)) else (some false))))) = some r := H
                have A32 := Aside0.mk A320
                clear A320
                by_cases c33 : (!(t126 == 0) || (!(t127 == a0))) = true
                · rw [if_pos c33] at H
                  have c33b0 : (!(t126 == 0) || (!(t127 == a0))) = true := c33
                  clear c33
                  obtain rfl := Option.some.inj H
                  go_wp2_with (first | ((with_reducible refine gate_callee (f := 29) rfl ?_); refine goesL_ (some 65) rfl rfl Try.func29 (by kernel_rfl) rfl #[.int .u64 a0, .int .u64 a1] rfl (by (try simp only [List.map_toArray, List.map_cons, List.map_nil]); first | done | rfl | (simp only [List.length_drop, List.length_take]; rfl)) ?_; (with_reducible refine (num_Minus.calls a0 a1 t125 _ A28.out).mono ?_); rintro e w' ⟨rfl, ⟨nd, rfl⟩⟩; refine ⟨_, rfl, ?_⟩) | (go_at_call 26; (with_reducible refine (nightjarref01_Sum.calls t125 a1 t126 t127 _ A32.out).mono ?_); rintro e w34 ⟨rfl, hb⟩; have n0_ := Aside0.mk (blk_below (g := gb121) (o := .cells #[.int .u64 t119, .int .u64 t120] 47 (0, 0)) (by (with_reducible repeat (first | refine blk_drewN ?_ _ | refine blk_drew ?_ | refine blk_alloc ?_ _)); exact BK121.out) hb); have n1_ := Aside0.mk (below_step (by repeat (first | (with_reducible first | exact HB.out | apply below_alloc | apply pw_below_drewN | apply below_drew1 | refine below_set ?_ GE121.out) | exact HB.out)) hb); clear BK121; clear HB; have BK121 := n0_; have HB := n1_; clear n0_ n1_; (try clear hb); (try clear hb2); (try clear hk); (try clear hi)))
                  go_ret
                  exact ⟨by first | rfl | (simp [errW_none, errW_some] <;> rfl) | (simp [*, errW_none, errW_some] <;> rfl), by repeat (first | (with_reducible first | exact HB.out | apply below_alloc | apply pw_below_drewN | apply below_drew1 | refine below_set ?_ GE121.out) | exact HB.out)⟩
                · rw [if_neg c33] at H
                  have c33b0 : (!(t126 == 0) || (!(t127 == a0))) = false := by simpa using c33
                  clear c33
                  replace H := Option.bind_eq_some_iff.mp H
                  obtain ⟨t128, A350, H⟩ := H
                  replace H : (if a3 > a4 then (some true) else (if t128 ≥ a3 then (if t128 ≤ a4 then (if t128 = a2 then (some true) else (if a2 < a3 then (if t128 = a3 then (some true) else (if a2 > a4 then (some (t128 == a4)) else (some false))) else (if a2 > a4 then (some (t128 == a4)) else (some false)))) else (some false)) else (some false))) = some r := H
                  have A35 := Aside0.mk A350
                  clear A350
                  by_cases c36 : a3 > a4
                  · rw [if_pos c36] at H
                    have c36b0 : decide (a4 < a3) = true := decide_eq_true c36
                    clear c36
                    obtain rfl := Option.some.inj H
                    go_wp2_with (first | ((with_reducible refine gate_callee (f := 29) rfl ?_); refine goesL_ (some 65) rfl rfl Try.func29 (by kernel_rfl) rfl #[.int .u64 a0, .int .u64 a1] rfl (by (try simp only [List.map_toArray, List.map_cons, List.map_nil]); first | done | rfl | (simp only [List.length_drop, List.length_take]; rfl)) ?_; (with_reducible refine (num_Minus.calls a0 a1 t125 _ A28.out).mono ?_); rintro e w' ⟨rfl, ⟨nd, rfl⟩⟩; refine ⟨_, rfl, ?_⟩) | (go_at_call 26; (with_reducible refine (nightjarref01_Sum.calls t125 a1 t126 t127 _ A32.out).mono ?_); rintro e w37 ⟨rfl, hb⟩; have n0_ := Aside0.mk (blk_below (g := gb121) (o := .cells #[.int .u64 t119, .int .u64 t120] 47 (0, 0)) (by (with_reducible repeat (first | refine blk_drewN ?_ _ | refine blk_drew ?_ | refine blk_alloc ?_ _)); exact BK121.out) hb); have n1_ := Aside0.mk (below_step (by repeat (first | (with_reducible first | exact HB.out | apply below_alloc | apply pw_below_drewN | apply below_drew1 | refine below_set ?_ GE121.out) | exact HB.out)) hb); clear BK121; clear HB; have BK121 := n0_; have HB := n1_; clear n0_ n1_; (try clear hb); (try clear hb2); (try clear hk); (try clear hi)) | ((with_reducible refine gate_callee (f := 30) rfl ?_); refine goesL_ (some 89) rfl rfl Try.func30 (by kernel_rfl) rfl #[.int .i64 a2, .int .i64 a3, .int .i64 a4] rfl (by (try simp only [List.map_toArray, List.map_cons, List.map_nil]); first | done | rfl | (simp only [List.length_drop, List.length_take]; rfl)) ?_; (with_reducible refine (num_Clamp.calls a2 a3 a4 t128 _ A35.out).mono ?_); rintro e w38 ⟨rfl, hb⟩; refine ⟨_, rfl, ?_⟩; have n0_ := Aside0.mk (blk_below (g := gb121) (o := .cells #[.int .u64 t119, .int .u64 t120] 47 (0, 0)) (by (with_reducible repeat (first | refine blk_drewN ?_ _ | refine blk_drew ?_ | refine blk_alloc ?_ _)); exact BK121.out) hb); have n1_ := Aside0.mk (below_step (by repeat (first | (with_reducible first | exact HB.out | apply below_alloc | apply pw_below_drewN | apply below_drew1 | refine below_set ?_ GE121.out) | exact HB.out)) hb); clear BK121; clear HB; have BK121 := n0_; have HB := n1_; clear n0_ n1_; (try clear hb); (try clear hb2); (try clear hk); (try clear hi)))
                    go_ret
                    exact ⟨by first | rfl | (simp [errW_none, errW_some] <;> rfl) | (simp [*, errW_none, errW_some] <;> rfl), by repeat (first | (with_reducible first | exact HB.out | apply below_alloc | apply pw_below_drewN | apply below_drew1 | refine below_set ?_ GE121.out) | exact HB.out)⟩
                  · rw [if_neg c36] at H
                    have c36b0 : decide (a4 < a3) = false := decide_eq_false c36
                    clear c36
                    by_cases c39 : t128 ≥ a3
                    · rw [if_pos c39] at H
                      have c39b0 : decide (a3 ≤ t128) = true := decide_eq_true c39
                      clear c39
                      by_cases c40 : t128 ≤ a4
                      · rw [if_pos c40] at H
                        have c40b0 : decide (t128 ≤ a4) = true := decide_eq_true c40
                        clear c40
                        by_cases c41 : t128 = a2
                        · rw [if_pos c41] at H
                          have c41b0 : (t128 == a2) = true := beq_iff_eq.mpr c41
                          have c41b1 : (t128 != a2) = false := bne_eq_false_iff_eq.mpr c41
                          clear c41
                          obtain rfl := Option.some.inj H
                          go_wp2_with (first | ((with_reducible refine gate_callee (f := 29) rfl ?_); refine goesL_ (some 65) rfl rfl Try.func29 (by kernel_rfl) rfl #[.int .u64 a0, .int .u64 a1] rfl (by (try simp only [List.map_toArray, List.map_cons, List.map_nil]); first | done | rfl | (simp only [List.length_drop, List.length_take]; rfl)) ?_; (with_reducible refine (num_Minus.calls a0 a1 t125 _ A28.out).mono ?_); rintro e w' ⟨rfl, ⟨nd, rfl⟩⟩; refine ⟨_, rfl, ?_⟩) | (go_at_call 26; (with_reducible refine (nightjarref01_Sum.calls t125 a1 t126 t127 _ A32.out).mono ?_); rintro e w42 ⟨rfl, hb⟩; have n0_ := Aside0.mk (blk_below (g := gb121) (o := .cells #[.int .u64 t119, .int .u64 t120] 47 (0, 0)) (by (with_reducible repeat (first | refine blk_drewN ?_ _ | refine blk_drew ?_ | refine blk_alloc ?_ _)); exact BK121.out) hb); have n1_ := Aside0.mk (below_step (by repeat (first | (with_reducible first | exact HB.out | apply below_alloc | apply pw_below_drewN | apply below_drew1 | refine below_set ?_ GE121.out) | exact HB.out)) hb); clear BK121; clear HB; have BK121 := n0_; have HB := n1_; clear n0_ n1_; (try clear hb); (try clear hb2); (try clear hk); (try clear hi)) | ((with_reducible refine gate_callee (f := 30) rfl ?_); refine goesL_ (some 89) rfl rfl Try.func30 (by kernel_rfl) rfl #[.int .i64 a2, .int .i64 a3, .int .i64 a4] rfl (by (try simp only [List.map_toArray, List.map_cons, List.map_nil]); first | done | rfl | (simp only [List.length_drop, List.length_take]; rfl)) ?_; (with_reducible refine (num_Clamp.calls a2 a3 a4 t128 _ A35.out).mono ?_); rintro e w43 ⟨rfl, hb⟩; refine ⟨_, rfl, ?_⟩; have n0_ := Aside0.mk (blk_below (g := gb121) (o := .cells #[.int .u64 t119, .int .u64 t120] 47 (0, 0)) (by (with_reducible repeat (first | refine blk_drewN ?_ _ | refine blk_drew ?_ | refine blk_alloc ?_ _)); exact BK121.out) hb); have n1_ := Aside0.mk (below_step (by repeat (first | (with_reducible first | exact HB.out | apply below_alloc | apply pw_below_drewN | apply below_drew1 | refine below_set ?_ GE121.out) | exact HB.out)) hb); clear BK121; clear HB; have BK121 := n0_; have HB := n1_; clear n0_ n1_; (try clear hb); (try clear hb2); (try clear hk); (try clear hi)))
                          go_ret
                          exact ⟨by first | rfl | (simp [errW_none, errW_some] <;> rfl) | (simp [*, errW_none, errW_some] <;> rfl), by repeat (first | (with_reducible first | exact HB.out | apply below_alloc | apply pw_below_drewN | apply below_drew1 | refine below_set ?_ GE121.out) | exact HB.out)⟩
                        · rw [if_neg c41] at H
                          have c41b0 : (t128 == a2) = false := beq_eq_false_iff_ne.mpr c41
                          have c41b1 : (t128 != a2) = true := bne_iff_ne.mpr c41
                          by_cases c44 : a2 < a3
                          · rw [if_pos c44] at H
                            have c44b0 : decide (a2 < a3) = true := decide_eq_true c44
                            clear c44
                            by_cases c45 : t128 = a3
                            · rw [if_pos c45] at H
                              have c45b0 : (t128 == a3) = true := beq_iff_eq.mpr c45
                              have c45b1 : (t128 != a3) = false := bne_eq_false_iff_eq.mpr c45
                              clear c45
                              obtain rfl := Option.some.inj H
                              go_wp2_with (first | ((with_reducible refine gate_callee (f := 29) rfl ?_); refine goesL_ (some 65) rfl rfl Try.func29 (by kernel_rfl) rfl #[.int .u64 a0, .int .u64 a1] rfl (by (try simp only [List.map_toArray, List.map_cons, List.map_nil]); first | done | rfl | (simp only [List.length_drop, List.length_take]; rfl)) ?_; (with_reducible refine (num_Minus.calls a0 a1 t125 _ A28.out).mono ?_); rintro e w' ⟨rfl, ⟨nd, rfl⟩⟩; refine ⟨_, rfl, ?_⟩) | (go_at_call 26; (with_reducible refine (nightjarref01_Sum.calls t125 a1 t126 t127 _ A32.out).mono ?_); rintro e w46 ⟨rfl, hb⟩; have n0_ := Aside0.mk (blk_below (g := gb121) (o := .cells #[.int .u64 t119, .int .u64 t120] 47 (0, 0)) (by (with_reducible repeat (first | refine blk_drewN ?_ _ | refine blk_drew ?_ | refine blk_alloc ?_ _)); exact BK121.out) hb); have n1_ := Aside0.mk (below_step (by repeat (first | (with_reducible first | exact HB.out | apply below_alloc | apply pw_below_drewN | apply below_drew1 | refine below_set ?_ GE121.out) | exact HB.out)) hb); clear BK121; clear HB; have BK121 := n0_; have HB := n1_; clear n0_ n1_; (try clear hb); (try clear hb2); (try clear hk); (try clear hi)) | ((with_reducible refine gate_callee (f := 30) rfl ?_); refine goesL_ (some 89) rfl rfl Try.func30 (by kernel_rfl) rfl #[.int .i64 a2, .int .i64 a3, .int .i64 a4] rfl (by (try simp only [List.map_toArray, List.map_cons, List.map_nil]); first | done | rfl | (simp only [List.length_drop, List.length_take]; rfl)) ?_; (with_reducible refine (num_Clamp.calls a2 a3 a4 t128 _ A35.out).mono ?_); rintro e w47 ⟨rfl, hb⟩; refine ⟨_, rfl, ?_⟩; have n0_ := Aside0.mk (blk_below (g := gb121) (o := .cells #[.int .u64 t119, .int .u64 t120] 47 (0, 0)) (by (with_reducible repeat (first | refine blk_drewN ?_ _ | refine blk_drew ?_ | refine blk_alloc ?_ _)); exact BK121.out) hb); have n1_ := Aside0.mk (below_step (by repeat (first | (with_reducible first | exact HB.out | apply below_alloc | apply pw_below_drewN | apply below_drew1 | refine below_set ?_ GE121.out) | exact HB.out)) hb); clear BK121; clear HB; have BK121 := n0_; have HB := n1_; clear n0_ n1_; (try clear hb); (try clear hb2); (try clear hk); (try clear hi)))
                              go_ret
                              exact ⟨by first | rfl | (simp [errW_none, errW_some] <;> rfl) | (simp [*, errW_none, errW_some] <;> rfl), by repeat (first | (with_reducible first | exact HB.out | apply below_alloc | apply pw_below_drewN | apply below_drew1 | refine below_set ?_ GE121.out) | exact HB.out)⟩
                            · rw [if_neg c45] at H
                              have c45b0 : (t128 == a3) = false := beq_eq_false_iff_ne.mpr c45
                              have c45b1 : (t128 != a3) = true := bne_iff_ne.mpr c45
                              by_cases c48 : a2 > a4
                              · rw [if_pos c48] at H
                                have c48b0 : decide (a4 < a2) = true := decide_eq_true c48
                                clear c48
                                obtain rfl := Option.some.inj H
                                go_wp2_with (first | ((with_reducible refine gate_callee (f := 29) rfl ?_); refine goesL_ (some 65) rfl rfl Try.func29 (by kernel_rfl) rfl #[.int .u64 a0, .int .u64 a1] rfl (by (try simp only [List.map_toArray, List.map_cons, List.map_nil]); first | done | rfl | (simp only [List.length_drop, List.length_take]; rfl)) ?_; (with_reducible refine (num_Minus.calls a0 a1 t125 _ A28.out).mono ?_); rintro e w' ⟨rfl, ⟨nd, rfl⟩⟩; refine ⟨_, rfl, ?_⟩) | (go_at_call 26; (with_reducible refine (nightjarref01_Sum.calls t125 a1 t126 t127 _ A32.out).mono ?_); rintro e w49 ⟨rfl, hb⟩; have n0_ := Aside0.mk (blk_below (g := gb121) (o := .cells #[.int .u64 t119, .int .u64 t120] 47 (0, 0)) (by (with_reducible repeat (first | refine blk_drewN ?_ _ | refine blk_drew ?_ | refine blk_alloc ?_ _)); exact BK121.out) hb); have n1_ := Aside0.mk (below_step (by repeat (first | (with_reducible first | exact HB.out | apply below_alloc | apply pw_below_drewN | apply below_drew1 | refine below_set ?_ GE121.out) | exact HB.out)) hb); clear BK121; clear HB; have BK121 := n0_; have HB := n1_; clear n0_ n1_; (try clear hb); (try clear hb2); (try clear hk); (try clear hi)) | ((with_reducible refine gate_callee (f := 30) rfl ?_); refine goesL_ (some 89) rfl rfl Try.func30 (by kernel_rfl) rfl #[.int .i64 a2, .int .i64 a3, .int .i64 a4] rfl (by (try simp only [List.map_toArray, List.map_cons, List.map_nil]); first | done | rfl | (simp only [List.length_drop, List.length_take]; rfl)) ?_; (with_reducible refine (num_Clamp.calls a2 a3 a4 t128 _ A35.out).mono ?_); rintro e w50 ⟨rfl, hb⟩; refine ⟨_, rfl, ?_⟩; have n0_ := Aside0.mk (blk_below (g := gb121) (o := .cells #[.int .u64 t119, .int .u64 t120] 47 (0, 0)) (by (with_reducible repeat (first | refine blk_drewN ?_ _ | refine blk_drew ?_ | refine blk_alloc ?_ _)); exact BK121.out) hb); have n1_ := Aside0.mk (below_step (by repeat (first | (with_reducible first | exact HB.out | apply below_alloc | apply pw_below_drewN | apply below_drew1 | refine below_set ?_ GE121.out) | exact HB.out)) hb); clear BK121; clear HB; have BK121 := n0_; have HB := n1_; clear n0_ n1_; (try clear hb); (try clear hb2); (try clear hk); (try clear hi)))
                                go_ret
                                exact ⟨by first | rfl | (simp [errW_none, errW_some] <;> rfl) | (simp [*, errW_none, errW_some] <;> rfl), by repeat (first | (with_reducible first | exact HB.out | apply below_alloc | apply pw_below_drewN | apply below_drew1 | refine below_set ?_ GE121.out) | exact HB.out)⟩
                              · rw [if_neg c48] at H
                                have c48b0 : decide (a4 < a2) = false := decide_eq_false c48
                                clear c48
                                obtain rfl := Option.some.inj H
                                go_wp2_with (first | ((with_reducible refine gate_callee (f := 29) rfl ?_); refine goesL_ (some 65) rfl rfl Try.func29 (by kernel_rfl) rfl #[.int .u64 a0, .int .u64 a1] rfl (by (try simp only [List.map_toArray, List.map_cons, List.map_nil]); first | done | rfl | (simp only [List.length_drop, List.length_take]; rfl)) ?_; (with_reducible refine (num_Minus.calls a0 a1 t125 _ A28.out).mono ?_); rintro e w' ⟨rfl, ⟨nd, rfl⟩⟩; refine ⟨_, rfl, ?_⟩) | (go_at_call 26; (with_reducible refine (nightjarref01_Sum.calls t125 a1 t126 t127 _ A32.out).mono ?_); rintro e w51 ⟨rfl, hb⟩; have n0_ := Aside0.mk (blk_below (g := gb121) (o := .cells #[.int .u64 t119, .int .u64 t120] 47 (0, 0)) (by (with_reducible repeat (first | refine blk_drewN ?_ _ | refine blk_drew ?_ | refine blk_alloc ?_ _)); exact BK121.out) hb); have n1_ := Aside0.mk (below_step (by repeat (first | (with_reducible first | exact HB.out | apply below_alloc | apply pw_below_drewN | apply below_drew1 | refine below_set ?_ GE121.out) | exact HB.out)) hb); clear BK121; clear HB; have BK121 := n0_; have HB := n1_; clear n0_ n1_; (try clear hb); (try clear hb2); (try clear hk); (try clear hi)) | ((with_reducible refine gate_callee (f := 30) rfl ?_); refine goesL_ (some 89) rfl rfl Try.func30 (by kernel_rfl) rfl #[.int .i64 a2, .int .i64 a3, .int .i64 a4] rfl (by (try simp only [List.map_toArray, List.map_cons, List.map_nil]); first | done | rfl | (simp only [List.length_drop, List.length_take]; rfl)) ?_; (with_reducible refine (num_Clamp.calls a2 a3 a4 t128 _ A35.out).mono ?_); rintro e w52 ⟨rfl, hb⟩; refine ⟨_, rfl, ?_⟩; have n0_ := Aside0.mk (blk_below (g := gb121) (o := .cells #[.int .u64 t119, .int .u64 t120] 47 (0, 0)) (by (with_reducible repeat (first | refine blk_drewN ?_ _ | refine blk_drew ?_ | refine blk_alloc ?_ _)); exact BK121.out) hb); have n1_ := Aside0.mk (below_step (by repeat (first | (with_reducible first | exact HB.out | apply below_alloc | apply pw_below_drewN | apply below_drew1 | refine below_set ?_ GE121.out) | exact HB.out)) hb); clear BK121; clear HB; have BK121 := n0_; have HB := n1_; clear n0_ n1_; (try clear hb); (try clear hb2); (try clear hk); (try clear hi)))
                                go_ret
                                exact ⟨by first | rfl | (simp [errW_none, errW_some] <;> rfl) | (simp [*, errW_none, errW_some] <;> rfl), by repeat (first | (with_reducible first | exact HB.out | apply below_alloc | apply pw_below_drewN | apply below_drew1 | refine below_set ?_ GE121.out) | exact HB.out)⟩
                          · rw [if_neg c44] at H
                            have c44b0 : decide (a2 < a3) = false := decide_eq_false c44
                            clear c44
                            by_cases c53 : a2 > a4
                            · rw [if_pos c53] at H
                              have c53b0 : decide (a4 < a2) = true := decide_eq_true c53
                              clear c53
                              obtain rfl := Option.some.inj H
                              go_wp2_with (first | ((with_reducible refine gate_callee (f := 29) rfl ?_); refine goesL_ (some 65) rfl rfl Try.func29 (by kernel_rfl) rfl #[.int .u64 a0, .int .u64 a1] rfl (by (try simp only [List.map_toArray, List.map_cons, List.map_nil]); first | done | rfl | (simp only [List.length_drop, List.length_take]; rfl)) ?_; (with_reducible refine (num_Minus.calls a0 a1 t125 _ A28.out).mono ?_); rintro e w' ⟨rfl, ⟨nd, rfl⟩⟩; refine ⟨_, rfl, ?_⟩) | (go_at_call 26; (with_reducible refine (nightjarref01_Sum.calls t125 a1 t126 t127 _ A32.out).mono ?_); rintro e w54 ⟨rfl, hb⟩; have n0_ := Aside0.mk (blk_below (g := gb121) (o := .cells #[.int .u64 t119, .int .u64 t120] 47 (0, 0)) (by (with_reducible repeat (first | refine blk_drewN ?_ _ | refine blk_drew ?_ | refine blk_alloc ?_ _)); exact BK121.out) hb); have n1_ := Aside0.mk (below_step (by repeat (first | (with_reducible first | exact HB.out | apply below_alloc | apply pw_below_drewN | apply below_drew1 | refine below_set ?_ GE121.out) | exact HB.out)) hb); clear BK121; clear HB; have BK121 := n0_; have HB := n1_; clear n0_ n1_; (try clear hb); (try clear hb2); (try clear hk); (try clear hi)) | ((with_reducible refine gate_callee (f := 30) rfl ?_); refine goesL_ (some 89) rfl rfl Try.func30 (by kernel_rfl) rfl #[.int .i64 a2, .int .i64 a3, .int .i64 a4] rfl (by (try simp only [List.map_toArray, List.map_cons, List.map_nil]); first | done | rfl | (simp only [List.length_drop, List.length_take]; rfl)) ?_; (with_reducible refine (num_Clamp.calls a2 a3 a4 t128 _ A35.out).mono ?_); rintro e w55 ⟨rfl, hb⟩; refine ⟨_, rfl, ?_⟩; have n0_ := Aside0.mk (blk_below (g := gb121) (o := .cells #[.int .u64 t119, .int .u64 t120] 47 (0, 0)) (by (with_reducible repeat (first | refine blk_drewN ?_ _ | refine blk_drew ?_ | refine blk_alloc ?_ _)); exact BK121.out) hb); have n1_ := Aside0.mk (below_step (by repeat (first | (with_reducible first | exact HB.out | apply below_alloc | apply pw_below_drewN | apply below_drew1 | refine below_set ?_ GE121.out) | exact HB.out)) hb); clear BK121; clear HB; have BK121 := n0_; have HB := n1_; clear n0_ n1_; (try clear hb); (try clear hb2); (try clear hk); (try clear hi)))
                              go_ret
                              exact ⟨by first | rfl | (simp [errW_none, errW_some] <;> rfl) | (simp [*, errW_none, errW_some] <;> rfl), by repeat (first | (with_reducible first | exact HB.out | apply below_alloc | apply pw_below_drewN | apply below_drew1 | refine below_set ?_ GE121.out) | exact HB.out)⟩
                            · rw [if_neg c53] at H
                              have c53b0 : decide (a4 < a2) = false := decide_eq_false c53
                              clear c53
                              obtain rfl := Option.some.inj H
                              go_wp2_with (first | ((with_reducible refine gate_callee (f := 29) rfl ?_); refine goesL_ (some 65) rfl rfl Try.func29 (by kernel_rfl) rfl #[.int .u64 a0, .int .u64 a1] rfl (by (try simp only [List.map_toArray, List.map_cons, List.map_nil]); first | done | rfl | (simp only [List.length_drop, List.length_take]; rfl)) ?_; (with_reducible refine (num_Minus.calls a0 a1 t125 _ A28.out).mono ?_); rintro e w' ⟨rfl, ⟨nd, rfl⟩⟩; refine ⟨_, rfl, ?_⟩) | (go_at_call 26; (with_reducible refine (nightjarref01_Sum.calls t125 a1 t126 t127 _ A32.out).mono ?_); rintro e w56 ⟨rfl, hb⟩; have n0_ := Aside0.mk (blk_below (g := gb121) (o := .cells #[.int .u64 t119, .int .u64 t120] 47 (0, 0)) (by (with_reducible repeat (first | refine blk_drewN ?_ _ | refine blk_drew ?_ | refine blk_alloc ?_ _)); exact BK121.out) hb); have n1_ := Aside0.mk (below_step (by repeat (first | (with_reducible first | exact HB.out | apply below_alloc | apply pw_below_drewN | apply below_drew1 | refine below_set ?_ GE121.out) | exact HB.out)) hb); clear BK121; clear HB; have BK121 := n0_; have HB := n1_; clear n0_ n1_; (try clear hb); (try clear hb2); (try clear hk); (try clear hi)) | ((with_reducible refine gate_callee (f := 30) rfl ?_); refine goesL_ (some 89) rfl rfl Try.func30 (by kernel_rfl) rfl #[.int .i64 a2, .int .i64 a3, .int .i64 a4] rfl (by (try simp only [List.map_toArray, List.map_cons, List.map_nil]); first | done | rfl | (simp only [List.length_drop, List.length_take]; rfl)) ?_; (with_reducible refine (num_Clamp.calls a2 a3 a4 t128 _ A35.out).mono ?_); rintro e w57 ⟨rfl, hb⟩; refine ⟨_, rfl, ?_⟩; have n0_ := Aside0.mk (blk_below (g := gb121) (o := .cells #[.int .u64 t119, .int .u64 t120] 47 (0, 0)) (by (with_reducible repeat (first | refine blk_drewN ?_ _ | refine blk_drew ?_ | refine blk_alloc ?_ _)); exact BK121.out) hb); have n1_ := Aside0.mk (below_step (by repeat (first | (with_reducible first | exact HB.out | apply below_alloc | apply pw_below_drewN | apply below_drew1 | refine below_set ?_ GE121.out) | exact HB.out)) hb); clear BK121; clear HB; have BK121 := n0_; have HB := n1_; clear n0_ n1_; (try clear hb); (try clear hb2); (try clear hk); (try clear hi)))
                              go_ret
                              exact ⟨by first | rfl | (simp [errW_none, errW_some] <;> rfl) | (simp [*, errW_none, errW_some] <;> rfl), by repeat (first | (with_reducible first | exact HB.out | apply below_alloc | apply pw_below_drewN | apply below_drew1 | refine below_set ?_ GE121.out) | exact HB.out)⟩
                      · rw [if_neg c40] at H
                        have c40b0 : decide (t128 ≤ a4) = false := decide_eq_false c40
                        clear c40
                        obtain rfl := Option.some.inj H
                        go_wp2_with (first | ((with_reducible refine gate_callee (f := 29) rfl ?_); refine goesL_ (some 65) rfl rfl Try.func29 (by kernel_rfl) rfl #[.int .u64 a0, .int .u64 a1] rfl (by (try simp only [List.map_toArray, List.map_cons, List.map_nil]); first | done | rfl | (simp only [List.length_drop, List.length_take]; rfl)) ?_; (with_reducible refine (num_Minus.calls a0 a1 t125 _ A28.out).mono ?_); rintro e w' ⟨rfl, ⟨nd, rfl⟩⟩; refine ⟨_, rfl, ?_⟩) | (go_at_call 26; (with_reducible refine (nightjarref01_Sum.calls t125 a1 t126 t127 _ A32.out).mono ?_); rintro e w58 ⟨rfl, hb⟩; have n0_ := Aside0.mk (blk_below (g := gb121) (o := .cells #[.int .u64 t119, .int .u64 t120] 47 (0, 0)) (by (with_reducible repeat (first | refine blk_drewN ?_ _ | refine blk_drew ?_ | refine blk_alloc ?_ _)); exact BK121.out) hb); have n1_ := Aside0.mk (below_step (by repeat (first | (with_reducible first | exact HB.out | apply below_alloc | apply pw_below_drewN | apply below_drew1 | refine below_set ?_ GE121.out) | exact HB.out)) hb); clear BK121; clear HB; have BK121 := n0_; have HB := n1_; clear n0_ n1_; (try clear hb); (try clear hb2); (try clear hk); (try clear hi)) | ((with_reducible refine gate_callee (f := 30) rfl ?_); refine goesL_ (some 89) rfl rfl Try.func30 (by kernel_rfl) rfl #[.int .i64 a2, .int .i64 a3, .int .i64 a4] rfl (by (try simp only [List.map_toArray, List.map_cons, List.map_nil]); first | done | rfl | (simp only [List.length_drop, List.length_take]; rfl)) ?_; (with_reducible refine (num_Clamp.calls a2 a3 a4 t128 _ A35.out).mono ?_); rintro e w59 ⟨rfl, hb⟩; refine ⟨_, rfl, ?_⟩; have n0_ := Aside0.mk (blk_below (g := gb121) (o := .cells #[.int .u64 t119, .int .u64 t120] 47 (0, 0)) (by (with_reducible repeat (first | refine blk_drewN ?_ _ | refine blk_drew ?_ | refine blk_alloc ?_ _)); exact BK121.out) hb); have n1_ := Aside0.mk (below_step (by repeat (first | (with_reducible first | exact HB.out | apply below_alloc | apply pw_below_drewN | apply below_drew1 | refine below_set ?_ GE121.out) | exact HB.out)) hb); clear BK121; clear HB; have BK121 := n0_; have HB := n1_; clear n0_ n1_; (try clear hb); (try clear hb2); (try clear hk); (try clear hi)))
                        go_ret
                        exact ⟨by first | rfl | (simp [errW_none, errW_some] <;> rfl) | (simp [*, errW_none, errW_some] <;> rfl), by repeat (first | (with_reducible first | exact HB.out | apply below_alloc | apply pw_below_drewN | apply below_drew1 | refine below_set ?_ GE121.out) | exact HB.out)⟩
                    · rw [if_neg c39] at H
                      have c39b0 : decide (a3 ≤ t128) = false := decide_eq_false c39
                      clear c39
                      obtain rfl := Option.some.inj H
                      go_wp2_with (first | ((with_reducible refine gate_callee (f := 29) rfl ?_); refine goesL_ (some 65) rfl rfl Try.func29 (by kernel_rfl) rfl #[.int .u64 a0, .int .u64 a1] rfl (by (try simp only [List.map_toArray, List.map_cons, List.map_nil]); first | done | rfl | (simp only [List.length_drop, List.length_take]; rfl)) ?_; (with_reducible refine (num_Minus.calls a0 a1 t125 _ A28.out).mono ?_); rintro e w' ⟨rfl, ⟨nd, rfl⟩⟩; refine ⟨_, rfl, ?_⟩) | (go_at_call 26; (with_reducible refine (nightjarref01_Sum.calls t125 a1 t126 t127 _ A32.out).mono ?_); rintro e w60 ⟨rfl, hb⟩; have n0_ := Aside0.mk (blk_below (g := gb121) (o := .cells #[.int .u64 t119, .int .u64 t120] 47 (0, 0)) (by (with_reducible repeat (first | refine blk_drewN ?_ _ | refine blk_drew ?_ | refine blk_alloc ?_ _)); exact BK121.out) hb); have n1_ := Aside0.mk (below_step (by repeat (first | (with_reducible first | exact HB.out | apply below_alloc | apply pw_below_drewN | apply below_drew1 | refine below_set ?_ GE121.out) | exact HB.out)) hb); clear BK121; clear HB; have BK121 := n0_; have HB := n1_; clear n0_ n1_; (try clear hb); (try clear hb2); (try clear hk); (try clear hi)) | ((with_reducible refine gate_callee (f := 30) rfl ?_); refine goesL_ (some 89) rfl rfl Try.func30 (by kernel_rfl) rfl #[.int .i64 a2, .int .i64 a3, .int .i64 a4] rfl (by (try simp only [List.map_toArray, List.map_cons, List.map_nil]); first | done | rfl | (simp only [List.length_drop, List.length_take]; rfl)) ?_; (with_reducible refine (num_Clamp.calls a2 a3 a4 t128 _ A35.out).mono ?_); rintro e w61 ⟨rfl, hb⟩; refine ⟨_, rfl, ?_⟩; have n0_ := Aside0.mk (blk_below (g := gb121) (o := .cells #[.int .u64 t119, .int .u64 t120] 47 (0, 0)) (by (with_reducible repeat (first | refine blk_drewN ?_ _ | refine blk_drew ?_ | refine blk_alloc ?_ _)); exact BK121.out) hb); have n1_ := Aside0.mk (below_step (by repeat (first | (with_reducible first | exact HB.out | apply below_alloc | apply pw_below_drewN | apply below_drew1 | refine below_set ?_ GE121.out) | exact HB.out)) hb); clear BK121; clear HB; have BK121 := n0_; have HB := n1_; clear n0_ n1_; (try clear hb); (try clear hb2); (try clear hk); (try clear hi)))
                      go_ret
                      exact ⟨by first | rfl | (simp [errW_none, errW_some] <;> rfl) | (simp [*, errW_none, errW_some] <;> rfl), by repeat (first | (with_reducible first | exact HB.out | apply below_alloc | apply pw_below_drewN | apply below_drew1 | refine below_set ?_ GE121.out) | exact HB.out)⟩
              · rw [if_neg c31] at H
                have c31b0 : decide (a1 ≤ a0) = false := decide_eq_false c31
                clear c31
                replace H := Option.bind_eq_some_iff.mp H
                obtain ⟨t129, A620, H⟩ := H
                replace H : (if a3 > a4 then (some true) else (if t129 ≥ a3 then (if t129 ≤ a4 then (if t129 = a2 then (some true) else (if a2 < a3 then (if t129 = a3 then (some true) else (if a2 > a4 then (some (t129 == a4)) else (some false))) else (if a2 > a4 then (some (t129 == a4)) else (some false)))) else (some false)) else (some false))) = some r := H
                have A62 := Aside0.mk A620
                clear A620
                by_cases c63 : a3 > a4
                · rw [if_pos c63] at H
                  have c63b0 : decide (a4 < a3) = true := decide_eq_true c63
                  clear c63
                  obtain rfl := Option.some.inj H
                  go_wp2_with (first | ((with_reducible refine gate_callee (f := 29) rfl ?_); refine goesL_ (some 65) rfl rfl Try.func29 (by kernel_rfl) rfl #[.int .u64 a0, .int .u64 a1] rfl (by (try simp only [List.map_toArray, List.map_cons, List.map_nil]); first | done | rfl | (simp only [List.length_drop, List.length_take]; rfl)) ?_; (with_reducible refine (num_Minus.calls a0 a1 t125 _ A28.out).mono ?_); rintro e w' ⟨rfl, ⟨nd, rfl⟩⟩; refine ⟨_, rfl, ?_⟩) | ((with_reducible refine gate_callee (f := 30) rfl ?_); refine goesL_ (some 89) rfl rfl Try.func30 (by kernel_rfl) rfl #[.int .i64 a2, .int .i64 a3, .int .i64 a4] rfl (by (try simp only [List.map_toArray, List.map_cons, List.map_nil]); first | done | rfl | (simp only [List.length_drop, List.length_take]; rfl)) ?_; (with_reducible refine (num_Clamp.calls a2 a3 a4 t129 _ A62.out).mono ?_); rintro e w64 ⟨rfl, hb⟩; refine ⟨_, rfl, ?_⟩; have n0_ := Aside0.mk (blk_below (g := gb121) (o := .cells #[.int .u64 t119, .int .u64 t120] 47 (0, 0)) (by (with_reducible repeat (first | refine blk_drewN ?_ _ | refine blk_drew ?_ | refine blk_alloc ?_ _)); exact BK121.out) hb); have n1_ := Aside0.mk (below_step (by repeat (first | (with_reducible first | exact HB.out | apply below_alloc | apply pw_below_drewN | apply below_drew1 | refine below_set ?_ GE121.out) | exact HB.out)) hb); clear BK121; clear HB; have BK121 := n0_; have HB := n1_; clear n0_ n1_; (try clear hb); (try clear hb2); (try clear hk); (try clear hi)))
                  go_ret
                  exact ⟨by first | rfl | (simp [errW_none, errW_some] <;> rfl) | (simp [*, errW_none, errW_some] <;> rfl), by repeat (first | (with_reducible first | exact HB.out | apply below_alloc | apply pw_below_drewN | apply below_drew1 | refine below_set ?_ GE121.out) | exact HB.out)⟩
                · rw [if_neg c63] at H
                  have c63b0 : decide (a4 < a3) = false := decide_eq_false c63
                  clear c63
                  by_cases c65 : t129 ≥ a3
                  · rw [if_pos c65] at H
                    have c65b0 : decide (a3 ≤ t129) = true := decide_eq_true c65
                    clear c65
                    by_cases c66 : t129 ≤ a4
                    · rw [if_pos c66] at H
                      have c66b0 : decide (t129 ≤ a4) = true := decide_eq_true c66
                      clear c66
                      by_cases c67 : t129 = a2
                      · rw [if_pos c67] at H
                        have c67b0 : (t129 == a2) = true := beq_iff_eq.mpr c67
                        have c67b1 : (t129 != a2) = false := bne_eq_false_iff_eq.mpr c67
                        clear c67
                        obtain rfl := Option.some.inj H
                        go_wp2_with (first | ((with_reducible refine gate_callee (f := 29) rfl ?_); refine goesL_ (some 65) rfl rfl Try.func29 (by kernel_rfl) rfl #[.int .u64 a0, .int .u64 a1] rfl (by (try simp only [List.map_toArray, List.map_cons, List.map_nil]); first | done | rfl | (simp only [List.length_drop, List.length_take]; rfl)) ?_; (with_reducible refine (num_Minus.calls a0 a1 t125 _ A28.out).mono ?_); rintro e w' ⟨rfl, ⟨nd, rfl⟩⟩; refine ⟨_, rfl, ?_⟩) | ((with_reducible refine gate_callee (f := 30) rfl ?_); refine goesL_ (some 89) rfl rfl Try.func30 (by kernel_rfl) rfl #[.int .i64 a2, .int .i64 a3, .int .i64 a4] rfl (by (try simp only [List.map_toArray, List.map_cons, List.map_nil]); first | done | rfl | (simp only [List.length_drop, List.length_take]; rfl)) ?_; (with_reducible refine (num_Clamp.calls a2 a3 a4 t129 _ A62.out).mono ?_); rintro e w68 ⟨rfl, hb⟩; refine ⟨_, rfl, ?_⟩; have n0_ := Aside0.mk (blk_below (g := gb121) (o := .cells #[.int .u64 t119, .int .u64 t120] 47 (0, 0)) (by (with_reducible repeat (first | refine blk_drewN ?_ _ | refine blk_drew ?_ | refine blk_alloc ?_ _)); exact BK121.out) hb); have n1_ := Aside0.mk (below_step (by repeat (first | (with_reducible first | exact HB.out | apply below_alloc | apply pw_below_drewN | apply below_drew1 | refine below_set ?_ GE121.out) | exact HB.out)) hb); clear BK121; clear HB; have BK121 := n0_; have HB := n1_; clear n0_ n1_; (try clear hb); (try clear hb2); (try clear hk); (try clear hi)))
                        go_ret
                        exact ⟨by first | rfl | (simp [errW_none, errW_some] <;> rfl) | (simp [*, errW_none, errW_some] <;> rfl), by repeat (first | (with_reducible first | exact HB.out | apply below_alloc | apply pw_below_drewN | apply below_drew1 | refine below_set ?_ GE121.out) | exact HB.out)⟩
                      · rw [if_neg c67] at H
                        have c67b0 : (t129 == a2) = false := beq_eq_false_iff_ne.mpr c67
                        have c67b1 : (t129 != a2) = true := bne_iff_ne.mpr c67
                        by_cases c69 : a2 < a3
                        · rw [if_pos c69] at H
                          have c69b0 : decide (a2 < a3) = true := decide_eq_true c69
                          clear c69
                          by_cases c70 : t129 = a3
                          · rw [if_pos c70] at H
                            have c70b0 : (t129 == a3) = true := beq_iff_eq.mpr c70
                            have c70b1 : (t129 != a3) = false := bne_eq_false_iff_eq.mpr c70
                            clear c70
                            obtain rfl := Option.some.inj H
                            go_wp2_with (first | ((with_reducible refine gate_callee (f := 29) rfl ?_); refine goesL_ (some 65) rfl rfl Try.func29 (by kernel_rfl) rfl #[.int .u64 a0, .int .u64 a1] rfl (by (try simp only [List.map_toArray, List.map_cons, List.map_nil]); first | done | rfl | (simp only [List.length_drop, List.length_take]; rfl)) ?_; (with_reducible refine (num_Minus.calls a0 a1 t125 _ A28.out).mono ?_); rintro e w' ⟨rfl, ⟨nd, rfl⟩⟩; refine ⟨_, rfl, ?_⟩) | ((with_reducible refine gate_callee (f := 30) rfl ?_); refine goesL_ (some 89) rfl rfl Try.func30 (by kernel_rfl) rfl #[.int .i64 a2, .int .i64 a3, .int .i64 a4] rfl (by (try simp only [List.map_toArray, List.map_cons, List.map_nil]); first | done | rfl | (simp only [List.length_drop, List.length_take]; rfl)) ?_; (with_reducible refine (num_Clamp.calls a2 a3 a4 t129 _ A62.out).mono ?_); rintro e w71 ⟨rfl, hb⟩; refine ⟨_, rfl, ?_⟩; have n0_ := Aside0.mk (blk_below (g := gb121) (o := .cells #[.int .u64 t119, .int .u64 t120] 47 (0, 0)) (by (with_reducible repeat (first | refine blk_drewN ?_ _ | refine blk_drew ?_ | refine blk_alloc ?_ _)); exact BK121.out) hb); have n1_ := Aside0.mk (below_step (by repeat (first | (with_reducible first | exact HB.out | apply below_alloc | apply pw_below_drewN | apply below_drew1 | refine below_set ?_ GE121.out) | exact HB.out)) hb); clear BK121; clear HB; have BK121 := n0_; have HB := n1_; clear n0_ n1_; (try clear hb); (try clear hb2); (try clear hk); (try clear hi)))
                            go_ret
                            exact ⟨by first | rfl | (simp [errW_none, errW_some] <;> rfl) | (simp [*, errW_none, errW_some] <;> rfl), by repeat (first | (with_reducible first | exact HB.out | apply below_alloc | apply pw_below_drewN | apply below_drew1 | refine below_set ?_ GE121.out) | exact HB.out)⟩
                          · rw [if_neg c70] at H
                            have c70b0 : (t129 == a3) = false := beq_eq_false_iff_ne.mpr c70
                            have c70b1 : (t129 != a3) = true := bne_iff_ne.mpr c70
                            by_cases c72 : a2 > a4
                            · rw [if_pos c72] at H
                              have c72b0 : decide (a4 < a2) = true := decide_eq_true c72
                              clear c72
                              obtain rfl := Option.some.inj H
                              go_wp2_with (first | ((with_reducible refine gate_callee (f := 29) rfl ?_); refine goesL_ (some 65) rfl rfl Try.func29 (by kernel_rfl) rfl #[.int .u64 a0, .int .u64 a1] rfl (by (try simp only [List.map_toArray, List.map_cons, List.map_nil]); first | done | rfl | (simp only [List.length_drop, List.length_take]; rfl)) ?_; (with_reducible refine (num_Minus.calls a0 a1 t125 _ A28.out).mono ?_); rintro e w' ⟨rfl, ⟨nd, rfl⟩⟩; refine ⟨_, rfl, ?_⟩) | ((with_reducible refine gate_callee (f := 30) rfl ?_); refine goesL_ (some 89) rfl rfl Try.func30 (by kernel_rfl) rfl #[.int .i64 a2, .int .i64 a3, .int .i64 a4] rfl (by (try simp only [List.map_toArray, List.map_cons, List.map_nil]); first | done | rfl | (simp only [List.length_drop, List.length_take]; rfl)) ?_; (with_reducible refine (num_Clamp.calls a2 a3 a4 t129 _ A62.out).mono ?_); rintro e w73 ⟨rfl, hb⟩; refine ⟨_, rfl, ?_⟩; have n0_ := Aside0.mk (blk_below (g := gb121) (o := .cells #[.int .u64 t119, .int .u64 t120] 47 (0, 0)) (by (with_reducible repeat (first | refine blk_drewN ?_ _ | refine blk_drew ?_ | refine blk_alloc ?_ _)); exact BK121.out) hb); have n1_ := Aside0.mk (below_step (by repeat (first | (with_reducible first | exact HB.out | apply below_alloc | apply pw_below_drewN | apply below_drew1 | refine below_set ?_ GE121.out) | exact HB.out)) hb); clear BK121; clear HB; have BK121 := n0_; have HB := n1_; clear n0_ n1_; (try clear hb); (try clear hb2); (try clear hk); (try clear hi)))
                              go_ret
                              exact ⟨by first | rfl | (simp [errW_none, errW_some] <;> rfl) | (simp [*, errW_none, errW_some] <;> rfl), by repeat (first | (with_reducible first | exact HB.out | apply below_alloc | apply pw_below_drewN | apply below_drew1 | refine below_set ?_ GE121.out) | exact HB.out)⟩
                            · rw [if_neg c72] at H
                              have c72b0 : decide (a4 < a2) = false := decide_eq_false c72
                              clear c72
                              obtain rfl := Option.some.inj H
                              go_wp2_with (first | ((with_reducible refine gate_callee (f := 29) rfl ?_); refine goesL_ (some 65) rfl rfl Try.func29 (by kernel_rfl) rfl #[.int .u64 a0, .int .u64 a1] rfl (by (try simp only [List.map_toArray, List.map_cons, List.map_nil]); first | done | rfl | (simp only [List.length_drop, List.length_take]; rfl)) ?_; (with_reducible refine (num_Minus.calls a0 a1 t125 _ A28.out).mono ?_); rintro e w' ⟨rfl, ⟨nd, rfl⟩⟩; refine ⟨_, rfl, ?_⟩) | ((with_reducible refine gate_callee (f := 30) rfl ?_); refine goesL_ (some 89) rfl rfl Try.func30 (by kernel_rfl) rfl #[.int .i64 a2, .int .i64 a3, .int .i64 a4] rfl (by (try simp only [List.map_toArray, List.map_cons, List.map_nil]); first | done | rfl | (simp only [List.length_drop, List.length_take]; rfl)) ?_; (with_reducible refine (num_Clamp.calls a2 a3 a4 t129 _ A62.out).mono ?_); rintro e w74 ⟨rfl, hb⟩; refine ⟨_, rfl, ?_⟩; have n0_ := Aside0.mk (blk_below (g := gb121) (o := .cells #[.int .u64 t119, .int .u64 t120] 47 (0, 0)) (by (with_reducible repeat (first | refine blk_drewN ?_ _ | refine blk_drew ?_ | refine blk_alloc ?_ _)); exact BK121.out) hb); have n1_ := Aside0.mk (below_step (by repeat (first | (with_reducible first | exact HB.out | apply below_alloc | apply pw_below_drewN | apply below_drew1 | refine below_set ?_ GE121.out) | exact HB.out)) hb); clear BK121; clear HB; have BK121 := n0_; have HB := n1_; clear n0_ n1_; (try clear hb); (try clear hb2); (try clear hk); (try clear hi)))
                              go_ret
                              exact ⟨by first | rfl | (simp [errW_none, errW_some] <;> rfl) | (simp [*, errW_none, errW_some] <;> rfl), by repeat (first | (with_reducible first | exact HB.out | apply below_alloc | apply pw_below_drewN | apply below_drew1 | refine below_set ?_ GE121.out) | exact HB.out)⟩
                        · rw [if_neg c69] at H
                          have c69b0 : decide (a2 < a3) = false := decide_eq_false c69
                          clear c69
                          by_cases c75 : a2 > a4
                          · rw [if_pos c75] at H
                            have c75b0 : decide (a4 < a2) = true := decide_eq_true c75
                            clear c75
                            obtain rfl := Option.some.inj H
                            go_wp2_with (first | ((with_reducible refine gate_callee (f := 29) rfl ?_); refine goesL_ (some 65) rfl rfl Try.func29 (by kernel_rfl) rfl #[.int .u64 a0, .int .u64 a1] rfl (by (try simp only [List.map_toArray, List.map_cons, List.map_nil]); first | done | rfl | (simp only [List.length_drop, List.length_take]; rfl)) ?_; (with_reducible refine (num_Minus.calls a0 a1 t125 _ A28.out).mono ?_); rintro e w' ⟨rfl, ⟨nd, rfl⟩⟩; refine ⟨_, rfl, ?_⟩) | ((with_reducible refine gate_callee (f := 30) rfl ?_); refine goesL_ (some 89) rfl rfl Try.func30 (by kernel_rfl) rfl #[.int .i64 a2, .int .i64 a3, .int .i64 a4] rfl (by (try simp only [List.map_toArray, List.map_cons, List.map_nil]); first | done | rfl | (simp only [List.length_drop, List.length_take]; rfl)) ?_; (with_reducible refine (num_Clamp.calls a2 a3 a4 t129 _ A62.out).mono ?_); rintro e w76 ⟨rfl, hb⟩; refine ⟨_, rfl, ?_⟩; have n0_ := Aside0.mk (blk_below (g := gb121) (o := .cells #[.int .u64 t119, .int .u64 t120] 47 (0, 0)) (by (with_reducible repeat (first | refine blk_drewN ?_ _ | refine blk_drew ?_ | refine blk_alloc ?_ _)); exact BK121.out) hb); have n1_ := Aside0.mk (below_step (by repeat (first | (with_reducible first | exact HB.out | apply below_alloc | apply pw_below_drewN | apply below_drew1 | refine below_set ?_ GE121.out) | exact HB.out)) hb); clear BK121; clear HB; have BK121 := n0_; have HB := n1_; clear n0_ n1_; (try clear hb); (try clear hb2); (try clear hk); (try clear hi)))
                            go_ret
                            exact ⟨by first | rfl | (simp [errW_none, errW_some] <;> rfl) | (simp [*, errW_none, errW_some] <;> rfl), by repeat (first | (with_reducible first | exact HB.out | apply below_alloc | apply pw_below_drewN | apply below_drew1 | refine below_set ?_ GE121.out) | exact HB.out)⟩
                          · rw [if_neg c75] at H
                            have c75b0 : decide (a4 < a2) = false := decide_eq_false c75
                            clear c75
                            obtain rfl := Option.some.inj H
                            go_wp2_with (first | ((with_reducible refine gate_callee (f := 29) rfl ?_); refine goesL_ (some 65) rfl rfl Try.func29 (by kernel_rfl) rfl #[.int .u64 a0, .int .u64 a1] rfl (by (try simp only [List.map_toArray, List.map_cons, List.map_nil]); first | done | rfl | (simp only [List.length_drop, List.length_take]; rfl)) ?_; (with_reducible refine (num_Minus.calls a0 a1 t125 _ A28.out).mono ?_); rintro e w' ⟨rfl, ⟨nd, rfl⟩⟩; refine ⟨_, rfl, ?_⟩) | ((with_reducible refine gate_callee (f := 30) rfl ?_); refine goesL_ (some 89) rfl rfl Try.func30 (by kernel_rfl) rfl #[.int .i64 a2, .int .i64 a3, .int .i64 a4] rfl (by (try simp only [List.map_toArray, List.map_cons, List.map_nil]); first | done | rfl | (simp only [List.length_drop, List.length_take]; rfl)) ?_; (with_reducible refine (num_Clamp.calls a2 a3 a4 t129 _ A62.out).mono ?_); rintro e w77 ⟨rfl, hb⟩; refine ⟨_, rfl, ?_⟩; have n0_ := Aside0.mk (blk_below (g := gb121) (o := .cells #[.int .u64 t119, .int .u64 t120] 47 (0, 0)) (by (with_reducible repeat (first | refine blk_drewN ?_ _ | refine blk_drew ?_ | refine blk_alloc ?_ _)); exact BK121.out) hb); have n1_ := Aside0.mk (below_step (by repeat (first | (with_reducible first | exact HB.out | apply below_alloc | apply pw_below_drewN | apply below_drew1 | refine below_set ?_ GE121.out) | exact HB.out)) hb); clear BK121; clear HB; have BK121 := n0_; have HB := n1_; clear n0_ n1_; (try clear hb); (try clear hb2); (try clear hk); (try clear hi)))
                            go_ret
                            exact ⟨by first | rfl | (simp [errW_none, errW_some] <;> rfl) | (simp [*, errW_none, errW_some] <;> rfl), by repeat (first | (with_reducible first | exact HB.out | apply below_alloc | apply pw_below_drewN | apply below_drew1 | refine below_set ?_ GE121.out) | exact HB.out)⟩
                    · rw [if_neg c66] at H
                      have c66b0 : decide (t129 ≤ a4) = false := decide_eq_false c66
                      clear c66
                      obtain rfl := Option.some.inj H
                      go_wp2_with (first | ((with_reducible refine gate_callee (f := 29) rfl ?_); refine goesL_ (some 65) rfl rfl Try.func29 (by kernel_rfl) rfl #[.int .u64 a0, .int .u64 a1] rfl (by (try simp only [List.map_toArray, List.map_cons, List.map_nil]); first | done | rfl | (simp only [List.length_drop, List.length_take]; rfl)) ?_; (with_reducible refine (num_Minus.calls a0 a1 t125 _ A28.out).mono ?_); rintro e w' ⟨rfl, ⟨nd, rfl⟩⟩; refine ⟨_, rfl, ?_⟩) | ((with_reducible refine gate_callee (f := 30) rfl ?_); refine goesL_ (some 89) rfl rfl Try.func30 (by kernel_rfl) rfl #[.int .i64 a2, .int .i64 a3, .int .i64 a4] rfl (by (try simp only [List.map_toArray, List.map_cons, List.map_nil]); first | done | rfl | (simp only [List.length_drop, List.length_take]; rfl)) ?_; (with_reducible refine (num_Clamp.calls a2 a3 a4 t129 _ A62.out).mono ?_); rintro e w78 ⟨rfl, hb⟩; refine ⟨_, rfl, ?_⟩; have n0_ := Aside0.mk (blk_below (g := gb121) (o := .cells #[.int .u64 t119, .int .u64 t120] 47 (0, 0)) (by (with_reducible repeat (first | refine blk_drewN ?_ _ | refine blk_drew ?_ | refine blk_alloc ?_ _)); exact BK121.out) hb); have n1_ := Aside0.mk (below_step (by repeat (first | (with_reducible first | exact HB.out | apply below_alloc | apply pw_below_drewN | apply below_drew1 | refine below_set ?_ GE121.out) | exact HB.out)) hb); clear BK121; clear HB; have BK121 := n0_; have HB := n1_; clear n0_ n1_; (try clear hb); (try clear hb2); (try clear hk); (try clear hi)))
                      go_ret
                      exact ⟨by first | rfl | (simp [errW_none, errW_some] <;> rfl) | (simp [*, errW_none, errW_some] <;> rfl), by repeat (first | (with_reducible first | exact HB.out | apply below_alloc | apply pw_below_drewN | apply below_drew1 | refine below_set ?_ GE121.out) | exact HB.out)⟩
                  · rw [if_neg c65] at H
                    have c65b0 : decide (a3 ≤ t129) = false := decide_eq_false c65
                    clear c65
                    obtain rfl := Option.some.inj H
                    go_wp2_with (first | ((with_reducible refine gate_callee (f := 29) rfl ?_); refine goesL_ (some 65) rfl rfl Try.func29 (by kernel_rfl) rfl #[.int .u64 a0, .int .u64 a1] rfl (by (try simp only [List.map_toArray, List.map_cons, List.map_nil]); first | done | rfl | (simp only [List.length_drop, List.length_take]; rfl)) ?_; (with_reducible refine (num_Minus.calls a0 a1 t125 _ A28.out).mono ?_); rintro e w' ⟨rfl, ⟨nd, rfl⟩⟩; refine ⟨_, rfl, ?_⟩) | ((with_reducible refine gate_callee (f := 30) rfl ?_); refine goesL_ (some 89) rfl rfl Try.func30 (by kernel_rfl) rfl #[.int .i64 a2, .int .i64 a3, .int .i64 a4] rfl (by (try simp only [List.map_toArray, List.map_cons, List.map_nil]); first | done | rfl | (simp only [List.length_drop, List.length_take]; rfl)) ?_; (with_reducible refine (num_Clamp.calls a2 a3 a4 t129 _ A62.out).mono ?_); rintro e w79 ⟨rfl, hb⟩; refine ⟨_, rfl, ?_⟩; have n0_ := Aside0.mk (blk_below (g := gb121) (o := .cells #[.int .u64 t119, .int .u64 t120] 47 (0, 0)) (by (with_reducible repeat (first | refine blk_drewN ?_ _ | refine blk_drew ?_ | refine blk_alloc ?_ _)); exact BK121.out) hb); have n1_ := Aside0.mk (below_step (by repeat (first | (with_reducible first | exact HB.out | apply below_alloc | apply pw_below_drewN | apply below_drew1 | refine below_set ?_ GE121.out) | exact HB.out)) hb); clear BK121; clear HB; have BK121 := n0_; have HB := n1_; clear n0_ n1_; (try clear hb); (try clear hb2); (try clear hk); (try clear hi)))
                    go_ret
                    exact ⟨by first | rfl | (simp [errW_none, errW_some] <;> rfl) | (simp [*, errW_none, errW_some] <;> rfl), by repeat (first | (with_reducible first | exact HB.out | apply below_alloc | apply pw_below_drewN | apply below_drew1 | refine below_set ?_ GE121.out) | exact HB.out)⟩
            · rw [if_neg c30] at H
              have c30b0 : (t125 == 0) = false := beq_eq_false_iff_ne.mpr c30
              have c30b1 : (t125 != 0) = true := bne_iff_ne.mpr c30
              obtain rfl := Option.some.inj H
              go_wp2_with (first | ((with_reducible refine gate_callee (f := 29) rfl ?_); refine goesL_ (some 65) rfl rfl Try.func29 (by kernel_rfl) rfl #[.int .u64 a0, .int .u64 a1] rfl (by (try simp only [List.map_toArray, List.map_cons, List.map_nil]); first | done | rfl | (simp only [List.length_drop, List.length_take]; rfl)) ?_; (with_reducible refine (num_Minus.calls a0 a1 t125 _ A28.out).mono ?_); rintro e w' ⟨rfl, ⟨nd, rfl⟩⟩; refine ⟨_, rfl, ?_⟩))
              go_ret
              exact ⟨by first | rfl | (simp [errW_none, errW_some] <;> rfl) | (simp [*, errW_none, errW_some] <;> rfl), by repeat (first | (with_reducible first | exact HB.out | apply below_alloc | apply pw_below_drewN | apply below_drew1 | refine below_set ?_ GE121.out) | exact HB.out)⟩
          · rw [if_neg c29] at H
            have c29b0 : decide (a0 < a1) = false := decide_eq_false c29
            clear c29
            by_cases c80 : a1 ≤ a0
            · rw [if_pos c80] at H
              have c80b0 : decide (a1 ≤ a0) = true := decide_eq_true c80
              clear c80
              replace H := Option.bind_eq_some_iff.mp H
              obtain ⟨⟨t130, t131⟩, A810, H⟩ := H
              replace H : (if (!(t130 == 0) || (!(t131 == a0))) = true then (some false) else ((num_Clamp.f a2 a3 a4).bind fun t132 => (if a3 > a4 then (some true) else (if t132 ≥ a3 then (if t132 ≤ a4 then (if t132 = a2 then (some true) else (if a2 < a3 then (if t132 = a3 then (some true) else (if a2 > a4 then (some (t132 == a4)) else (some false))) else (if a2 > a4 then (some (t132 == a4)) else (some false)))) else (some false)) else (some false))))) = some r := H
              have A81 := Aside0.mk A810
              clear A810
              by_cases c82 : (!(t130 == 0) || (!(t131 == a0))) = true
              · rw [if_pos c82] at H
                have c82b0 : (!(t130 == 0) || (!(t131 == a0))) = true := c82
                clear c82
                obtain rfl := Option.some.inj H
                go_wp2_with (first | ((with_reducible refine gate_callee (f := 29) rfl ?_); refine goesL_ (some 65) rfl rfl Try.func29 (by kernel_rfl) rfl #[.int .u64 a0, .int .u64 a1] rfl (by (try simp only [List.map_toArray, List.map_cons, List.map_nil]); first | done | rfl | (simp only [List.length_drop, List.length_take]; rfl)) ?_; (with_reducible refine (num_Minus.calls a0 a1 t125 _ A28.out).mono ?_); rintro e w' ⟨rfl, ⟨nd, rfl⟩⟩; refine ⟨_, rfl, ?_⟩) | (go_at_call 26; (with_reducible refine (nightjarref01_Sum.calls t125 a1 t130 t131 _ A81.out).mono ?_); rintro e w83 ⟨rfl, hb⟩; have n0_ := Aside0.mk (blk_below (g := gb121) (o := .cells #[.int .u64 t119, .int .u64 t120] 47 (0, 0)) (by (with_reducible repeat (first | refine blk_drewN ?_ _ | refine blk_drew ?_ | refine blk_alloc ?_ _)); exact BK121.out) hb); have n1_ := Aside0.mk (below_step (by repeat (first | (with_reducible first | exact HB.out | apply below_alloc | apply pw_below_drewN | apply below_drew1 | refine below_set ?_ GE121.out) | exact HB.out)) hb); clear BK121; clear HB; have BK121 := n0_; have HB := n1_; clear n0_ n1_; (try clear hb); (try clear hb2); (try clear hk); (try clear hi)))
                go_ret
                exact ⟨by first | rfl | (simp [errW_none, errW_some] <;> rfl) | (simp [*, errW_none, errW_some] <;> rfl), by repeat (first | (with_reducible first | exact HB.out | apply below_alloc | apply pw_below_drewN | apply below_drew1 | refine below_set ?_ GE121.out) | exact HB.out)⟩
              · rw [if_neg c82] at H
                have c82b0 : (!(t130 == 0) || (!(t131 == a0))) = false := by simpa using c82
                clear c82
                replace H := Option.bind_eq_some_iff.mp H
                obtain ⟨t132, A840, H⟩ := H
                replace H : (if a3 > a4 then (some true) else (if t132 ≥ a3 then (if t132 ≤ a4 then (if t132 = a2 then (some true) else (if a2 < a3 then (if t132 = a3 then (some true) else (if a2 > a4 then (some (t132 == a4)) else (some false))) else (if a2 > a4 then (some (t132 == a4)) else (some false)))) else (some false)) else (some false))) = some r := H
                have A84 := Aside0.mk A840
                clear A840
                by_cases c85 : a3 > a4
                · rw [if_pos c85] at H
                  have c85b0 : decide (a4 < a3) = true := decide_eq_true c85
                  clear c85
                  obtain rfl := Option.some.inj H
                  go_wp2_with (first | ((with_reducible refine gate_callee (f := 29) rfl ?_); refine goesL_ (some 65) rfl rfl Try.func29 (by kernel_rfl) rfl #[.int .u64 a0, .int .u64 a1] rfl (by (try simp only [List.map_toArray, List.map_cons, List.map_nil]); first | done | rfl | (simp only [List.length_drop, List.length_take]; rfl)) ?_; (with_reducible refine (num_Minus.calls a0 a1 t125 _ A28.out).mono ?_); rintro e w' ⟨rfl, ⟨nd, rfl⟩⟩; refine ⟨_, rfl, ?_⟩) | (go_at_call 26; (with_reducible refine (nightjarref01_Sum.calls t125 a1 t130 t131 _ A81.out).mono ?_); rintro e w86 ⟨rfl, hb⟩; have n0_ := Aside0.mk (blk_below (g := gb121) (o := .cells #[.int .u64 t119, .int .u64 t120] 47 (0, 0)) (by (with_reducible repeat (first | refine blk_drewN ?_ _ | refine blk_drew ?_ | refine blk_alloc ?_ _)); exact BK121.out) hb); have n1_ := Aside0.mk (below_step (by repeat (first | (with_reducible first | exact HB.out | apply below_alloc | apply pw_below_drewN | apply below_drew1 | refine below_set ?_ GE121.out) | exact HB.out)) hb); clear BK121; clear HB; have BK121 := n0_; have HB := n1_; clear n0_ n1_; (try clear hb); (try clear hb2); (try clear hk); (try clear hi)) | ((with_reducible refine gate_callee (f := 30) rfl ?_); refine goesL_ (some 89) rfl rfl Try.func30 (by kernel_rfl) rfl #[.int .i64 a2, .int .i64 a3, .int .i64 a4] rfl (by (try simp only [List.map_toArray, List.map_cons, List.map_nil]); first | done | rfl | (simp only [List.length_drop, List.length_take]; rfl)) ?_; (with_reducible refine (num_Clamp.calls a2 a3 a4 t132 _ A84.out).mono ?_); rintro e w87 ⟨rfl, hb⟩; refine ⟨_, rfl, ?_⟩; have n0_ := Aside0.mk (blk_below (g := gb121) (o := .cells #[.int .u64 t119, .int .u64 t120] 47 (0, 0)) (by (with_reducible repeat (first | refine blk_drewN ?_ _ | refine blk_drew ?_ | refine blk_alloc ?_ _)); exact BK121.out) hb); have n1_ := Aside0.mk (below_step (by repeat (first | (with_reducible first | exact HB.out | apply below_alloc | apply pw_below_drewN | apply below_drew1 | refine below_set ?_ GE121.out) | exact HB.out)) hb); clear BK121; clear HB; have BK121 := n0_; have HB := n1_; clear n0_ n1_; (try clear hb); (try clear hb2); (try clear hk); (try clear hi)))
                  go_ret
                  exact ⟨by first | rfl | (simp [errW_none, errW_some] <;> rfl) | (simp [*, errW_none, errW_some] <;> rfl), by repeat (first | (with_reducible first | exact HB.out | apply below_alloc | apply pw_below_drewN | apply below_drew1 | refine below_set ?_ GE121.out) | exact HB.out)⟩
                · rw [if_neg c85] at H
                  have c85b0 : decide (a4 < a3) = false := decide_eq_false c85
                  clear c85
                  by_cases c88 : t132 ≥ a3
                  · rw [if_pos c88] at H
                    have c88b0 : decide (a3 ≤ t132) = true := decide_eq_true c88
                    clear c88
                    by_cases c89 : t132 ≤ a4
                    · rw [if_pos c89] at H
                      have c89b0 : decide (t132 ≤ a4) = true := decide_eq_true c89
                      clear c89
                      by_cases c90 : t132 = a2
                      · rw [if_pos c90] at H
                        have c90b0 : (t132 == a2) = true := beq_iff_eq.mpr c90
                        have c90b1 : (t132 != a2) = false := bne_eq_false_iff_eq.mpr c90
                        clear c90
                        obtain rfl := Option.some.inj H
                        go_wp2_with (first | ((with_reducible refine gate_callee (f := 29) rfl ?_); refine goesL_ (some 65) rfl rfl Try.func29 (by kernel_rfl) rfl #[.int .u64 a0, .int .u64 a1] rfl (by (try simp only [List.map_toArray, List.map_cons, List.map_nil]); first | done | rfl | (simp only [List.length_drop, List.length_take]; rfl)) ?_; (with_reducible refine (num_Minus.calls a0 a1 t125 _ A28.out).mono ?_); rintro e w' ⟨rfl, ⟨nd, rfl⟩⟩; refine ⟨_, rfl, ?_⟩) | (go_at_call 26; (with_reducible refine (nightjarref01_Sum.calls t125 a1 t130 t131 _ A81.out).mono ?_); rintro e w91 ⟨rfl, hb⟩; have n0_ := Aside0.mk (blk_below (g := gb121) (o := .cells #[.int .u64 t119, .int .u64 t120] 47 (0, 0)) (by (with_reducible repeat (first | refine blk_drewN ?_ _ | refine blk_drew ?_ | refine blk_alloc ?_ _)); exact BK121.out) hb); have n1_ := Aside0.mk (below_step (by repeat (first | (with_reducible first | exact HB.out | apply below_alloc | apply pw_below_drewN | apply below_drew1 | refine below_set ?_ GE121.out) | exact HB.out)) hb); clear BK121; clear HB; have BK121 := n0_; have HB := n1_; clear n0_ n1_; (try clear hb); (try clear hb2); (try clear hk); (try clear hi)) | ((with_reducible refine gate_callee (f := 30) rfl ?_); refine goesL_ (some 89) rfl rfl Try.func30 (by kernel_rfl) rfl #[.int .i64 a2, .int .i64 a3, .int .i64 a4] rfl (by (try simp only [List.map_toArray, List.map_cons, List.map_nil]); first | done | rfl | (simp only [List.length_drop, List.length_take]; rfl)) ?_; (with_reducible refine (num_Clamp.calls a2 a3 a4 t132 _ A84.out).mono ?_); rintro e w92 ⟨rfl, hb⟩; refine ⟨_, rfl, ?_⟩; have n0_ := Aside0.mk (blk_below (g := gb121) (o := .cells #[.int .u64 t119, .int .u64 t120] 47 (0, 0)) (by (with_reducible repeat (first | refine blk_drewN ?_ _ | refine blk_drew ?_ | refine blk_alloc ?_ _)); exact BK121.out) hb); have n1_ := Aside0.mk (below_step (by repeat (first | (with_reducible first | exact HB.out | apply below_alloc | apply pw_below_drewN | apply below_drew1 | refine below_set ?_ GE121.out) | exact HB.out)) hb); clear BK121; clear HB; have BK121 := n0_; have HB := n1_; clear n0_ n1_; (try clear hb); (try clear hb2); (try clear hk); (try clear hi)))
                        go_ret
                        exact ⟨by first | rfl | (simp [errW_none, errW_some] <;> rfl) | (simp [*, errW_none, errW_some] <;> rfl), by repeat (first | (with_reducible first | exact HB.out | apply below_alloc | apply pw_below_drewN | apply below_drew1 | refine below_set ?_ GE121.out) | exact HB.out)⟩
                      · rw [if_neg c90] at H
                        have c90b0 : (t132 == a2) = false := beq_eq_false_iff_ne.mpr c90
                        have c90b1 : (t132 != a2) = true := bne_iff_ne.mpr c90
                        by_cases c93 : a2 < a3
                        · rw [if_pos c93] at H
                          have c93b0 : decide (a2 < a3) = true := decide_eq_true c93
                          clear c93
                          by_cases c94 : t132 = a3
                          · rw [if_pos c94] at H
                            have c94b0 : (t132 == a3) = true := beq_iff_eq.mpr c94
                            have c94b1 : (t132 != a3) = false := bne_eq_false_iff_eq.mpr c94
                            clear c94
                            obtain rfl := Option.some.inj H
                            go_wp2_with (first | ((with_reducible refine gate_callee (f := 29) rfl ?_); refine goesL_ (some 65) rfl rfl Try.func29 (by kernel_rfl) rfl #[.int .u64 a0, .int .u64 a1] rfl (by (try simp only [List.map_toArray, List.map_cons, List.map_nil]); first | done | rfl | (simp only [List.length_drop, List.length_take]; rfl)) ?_; (with_reducible refine (num_Minus.calls a0 a1 t125 _ A28.out).mono ?_); rintro e w' ⟨rfl, ⟨nd, rfl⟩⟩; refine ⟨_, rfl, ?_⟩) | (go_at_call 26; (with_reducible refine (nightjarref01_Sum.calls t125 a1 t130 t131 _ A81.out).mono ?_); rintro e w95 ⟨rfl, hb⟩; have n0_ := Aside0.mk (blk_below (g := gb121) (o := .cells #[.int .u64 t119, .int .u64 t120] 47 (0, 0)) (by (with_reducible repeat (first | refine blk_drewN ?_ _ | refine blk_drew ?_ | refine blk_alloc ?_ _)); exact BK121.out) hb); have n1_ := Aside0.mk (below_step (by repeat (first | (with_reducible first | exact HB.out | apply below_alloc | apply pw_below_drewN | apply below_drew1 | refine below_set ?_ GE121.out) | exact HB.out)) hb); clear BK121; clear HB; have BK121 := n0_; have HB := n1_; clear n0_ n1_; (try clear hb); (try clear hb2); (try clear hk); (try clear hi)) | ((with_reducible refine gate_callee (f := 30) rfl ?_); refine goesL_ (some 89) rfl rfl Try.func30 (by kernel_rfl) rfl #[.int .i64 a2, .int .i64 a3, .int .i64 a4] rfl (by (try simp only [List.map_toArray, List.map_cons, List.map_nil]); first | done | rfl | (simp only [List.length_drop, List.length_take]; rfl)) ?_; (with_reducible refine (num_Clamp.calls a2 a3 a4 t132 _ A84.out).mono ?_); rintro e w96 ⟨rfl, hb⟩; refine ⟨_, rfl, ?_⟩; have n0_ := Aside0.mk (blk_below (g := gb121) (o := .cells #[.int .u64 t119, .int .u64 t120] 47 (0, 0)) (by (with_reducible repeat (first | refine blk_drewN ?_ _ | refine blk_drew ?_ | refine blk_alloc ?_ _)); exact BK121.out) hb); have n1_ := Aside0.mk (below_step (by repeat (first | (with_reducible first | exact HB.out | apply below_alloc | apply pw_below_drewN | apply below_drew1 | refine below_set ?_ GE121.out) | exact HB.out)) hb); clear BK121; clear HB; have BK121 := n0_; have HB := n1_; clear n0_ n1_; (try clear hb); (try clear hb2); (try clear hk); (try clear hi)))
                            go_ret
                            exact ⟨by first | rfl | (simp [errW_none, errW_some] <;> rfl) | (simp [*, errW_none, errW_some] <;> rfl), by repeat (first | (with_reducible first | exact HB.out | apply below_alloc | apply pw_below_drewN | apply below_drew1 | refine below_set ?_ GE121.out) | exact HB.out)⟩
                          · rw [if_neg c94] at H
                            have c94b0 : (t132 == a3) = false := beq_eq_false_iff_ne.mpr c94
                            have c94b1 : (t132 != a3) = true := bne_iff_ne.mpr c94
                            by_cases c97 : a2 > a4
                            · rw [if_pos c97] at H
                              have c97b0 : decide (a4 < a2) = true := decide_eq_true c97
                              clear c97
                              obtain rfl := Option.some.inj H
                              go_wp2_with (first | ((with_reducible refine gate_callee (f := 29) rfl ?_); refine goesL_ (some 65) rfl rfl Try.func29 (by kernel_rfl) rfl #[.int .u64 a0, .int .u64 a1] rfl (by (try simp only [List.map_toArray, List.map_cons, List.map_nil]); first | done | rfl | (simp only [List.length_drop, List.length_take]; rfl)) ?_; (with_reducible refine (num_Minus.calls a0 a1 t125 _ A28.out).mono ?_); rintro e w' ⟨rfl, ⟨nd, rfl⟩⟩; refine ⟨_, rfl, ?_⟩) | (go_at_call 26; (with_reducible refine (nightjarref01_Sum.calls t125 a1 t130 t131 _ A81.out).mono ?_); rintro e w98 ⟨rfl, hb⟩; have n0_ := Aside0.mk (blk_below (g := gb121) (o := .cells #[.int .u64 t119, .int .u64 t120] 47 (0, 0)) (by (with_reducible repeat (first | refine blk_drewN ?_ _ | refine blk_drew ?_ | refine blk_alloc ?_ _)); exact BK121.out) hb); have n1_ := Aside0.mk (below_step (by repeat (first | (with_reducible first | exact HB.out | apply below_alloc | apply pw_below_drewN | apply below_drew1 | refine below_set ?_ GE121.out) | exact HB.out)) hb); clear BK121; clear HB; have BK121 := n0_; have HB := n1_; clear n0_ n1_; (try clear hb); (try clear hb2); (try clear hk); (try clear hi)) | ((with_reducible refine gate_callee (f := 30) rfl ?_); refine goesL_ (some 89) rfl rfl Try.func30 (by kernel_rfl) rfl #[.int .i64 a2, .int .i64 a3, .int .i64 a4] rfl (by (try simp only [List.map_toArray, List.map_cons, List.map_nil]); first | done | rfl | (simp only [List.length_drop, List.length_take]; rfl)) ?_; (with_reducible refine (num_Clamp.calls a2 a3 a4 t132 _ A84.out).mono ?_); rintro e w99 ⟨rfl, hb⟩; refine ⟨_, rfl, ?_⟩; have n0_ := Aside0.mk (blk_below (g := gb121) (o := .cells #[.int .u64 t119, .int .u64 t120] 47 (0, 0)) (by (with_reducible repeat (first | refine blk_drewN ?_ _ | refine blk_drew ?_ | refine blk_alloc ?_ _)); exact BK121.out) hb); have n1_ := Aside0.mk (below_step (by repeat (first | (with_reducible first | exact HB.out | apply below_alloc | apply pw_below_drewN | apply below_drew1 | refine below_set ?_ GE121.out) | exact HB.out)) hb); clear BK121; clear HB; have BK121 := n0_; have HB := n1_; clear n0_ n1_; (try clear hb); (try clear hb2); (try clear hk); (try clear hi)))
                              go_ret
                              exact ⟨by first | rfl | (simp [errW_none, errW_some] <;> rfl) | (simp [*, errW_none, errW_some] <;> rfl), by repeat (first | (with_reducible first | exact HB.out | apply below_alloc | apply pw_below_drewN | apply below_drew1 | refine below_set ?_ GE121.out) | exact HB.out)⟩
                            · rw [if_neg c97] at H
                              have c97b0 : decide (a4 < a2) = false := decide_eq_false c97
                              clear c97
                              obtain rfl := Option.some.inj H
                              go_wp2_with (first | ((with_reducible refine gate_callee (f := 29) rfl ?_); refine goesL_ (some 65) rfl rfl Try.func29 (by kernel_rfl) rfl #[.int .u64 a0, .int .u64 a1] rfl (by (try simp only [List.map_toArray, List.map_cons, List.map_nil]); first | done | rfl | (simp only [List.length_drop, List.length_take]; rfl)) ?_; (with_reducible refine (num_Minus.calls a0 a1 t125 _ A28.out).mono ?_); rintro e w' ⟨rfl, ⟨nd, rfl⟩⟩; refine ⟨_, rfl, ?_⟩) | (go_at_call 26; (with_reducible refine (nightjarref01_Sum.calls t125 a1 t130 t131 _ A81.out).mono ?_); rintro e w100 ⟨rfl, hb⟩; have n0_ := Aside0.mk (blk_below (g := gb121) (o := .cells #[.int .u64 t119, .int .u64 t120] 47 (0, 0)) (by (with_reducible repeat (first | refine blk_drewN ?_ _ | refine blk_drew ?_ | refine blk_alloc ?_ _)); exact BK121.out) hb); have n1_ := Aside0.mk (below_step (by repeat (first | (with_reducible first | exact HB.out | apply below_alloc | apply pw_below_drewN | apply below_drew1 | refine below_set ?_ GE121.out) | exact HB.out)) hb); clear BK121; clear HB; have BK121 := n0_; have HB := n1_; clear n0_ n1_; (try clear hb); (try clear hb2); (try clear hk); (try clear hi)) | ((with_reducible refine gate_callee (f := 30) rfl ?_); refine goesL_ (some 89) rfl rfl Try.func30 (by kernel_rfl) rfl #[.int .i64 a2, .int .i64 a3, .int .i64 a4] rfl (by (try simp only [List.map_toArray, List.map_cons, List.map_nil]); first | done | rfl | (simp only [List.length_drop, List.length_take]; rfl)) ?_; (with_reducible refine (num_Clamp.calls a2 a3 a4 t132 _ A84.out).mono ?_); rintro e w101 ⟨rfl, hb⟩; refine ⟨_, rfl, ?_⟩; have n0_ := Aside0.mk (blk_below (g := gb121) (o := .cells #[.int .u64 t119, .int .u64 t120] 47 (0, 0)) (by (with_reducible repeat (first | refine blk_drewN ?_ _ | refine blk_drew ?_ | refine blk_alloc ?_ _)); exact BK121.out) hb); have n1_ := Aside0.mk (below_step (by repeat (first | (with_reducible first | exact HB.out | apply below_alloc | apply pw_below_drewN | apply below_drew1 | refine below_set ?_ GE121.out) | exact HB.out)) hb); clear BK121; clear HB; have BK121 := n0_; have HB := n1_; clear n0_ n1_; (try clear hb); (try clear hb2); (try clear hk); (try clear hi)))
                              go_ret
                              exact ⟨by first | rfl | (simp [errW_none, errW_some] <;> rfl) | (simp [*, errW_none, errW_some] <;> rfl), by repeat (first | (with_reducible first | exact HB.out | apply below_alloc | apply pw_below_drewN | apply below_drew1 | refine below_set ?_ GE121.out) | exact HB.out)⟩
                        · rw [if_neg c93] at H
                          have c93b0 : decide (a2 < a3) = false := decide_eq_false c93
                          clear c93
                          by_cases c102 : a2 > a4
                          · rw [if_pos c102] at H
                            have c102b0 : decide (a4 < a2) = true := decide_eq_true c102
                            clear c102
                            obtain rfl := Option.some.inj H
                            go_wp2_with (first | ((with_reducible refine gate_callee (f := 29) rfl ?_); refine goesL_ (some 65) rfl rfl Try.func29 (by kernel_rfl) rfl #[.int .u64 a0, .int .u64 a1] rfl (by (try simp only [List.map_toArray, List.map_cons, List.map_nil]); first | done | rfl | (simp only [List.length_drop, List.length_take]; rfl)) ?_; (with_reducible refine (num_Minus.calls a0 a1 t125 _ A28.out).mono ?_); rintro e w' ⟨rfl, ⟨nd, rfl⟩⟩; refine ⟨_, rfl, ?_⟩) | (go_at_call 26; (with_reducible refine (nightjarref01_Sum.calls t125 a1 t130 t131 _ A81.out).mono ?_); rintro e w103 ⟨rfl, hb⟩; have n0_ := Aside0.mk (blk_below (g := gb121) (o := .cells #[.int .u64 t119, .int .u64 t120] 47 (0, 0)) (by (with_reducible repeat (first | refine blk_drewN ?_ _ | refine blk_drew ?_ | refine blk_alloc ?_ _)); exact BK121.out) hb); have n1_ := Aside0.mk (below_step (by repeat (first | (with_reducible first | exact HB.out | apply below_alloc | apply pw_below_drewN | apply below_drew1 | refine below_set ?_ GE121.out) | exact HB.out)) hb); clear BK121; clear HB; have BK121 := n0_; have HB := n1_; clear n0_ n1_; (try clear hb); (try clear hb2); (try clear hk); (try clear hi)) | ((with_reducible refine gate_callee (f := 30) rfl ?_); refine goesL_ (some 89) rfl rfl Try.func30 (by kernel_rfl) rfl #[.int .i64 a2, .int .i64 a3, .int .i64 a4] rfl (by (try simp only [List.map_toArray, List.map_cons, List.map_nil]); first | done | rfl | (simp only [List.length_drop, List.length_take]; rfl)) ?_; (with_reducible refine (num_Clamp.calls a2 a3 a4 t132 _ A84.out).mono ?_); rintro e w104 ⟨rfl, hb⟩; refine ⟨_, rfl, ?_⟩; have n0_ := Aside0.mk (blk_below (g := gb121) (o := .cells #[.int .u64 t119, .int .u64 t120] 47 (0, 0)) (by (with_reducible repeat (first | refine blk_drewN ?_ _ | refine blk_drew ?_ | refine blk_alloc ?_ _)); exact BK121.out) hb); have n1_ := Aside0.mk (below_step (by repeat (first | (with_reducible first | exact HB.out | apply below_alloc | apply pw_below_drewN | apply below_drew1 | refine below_set ?_ GE121.out) | exact HB.out)) hb); clear BK121; clear HB; have BK121 := n0_; have HB := n1_; clear n0_ n1_; (try clear hb); (try clear hb2); (try clear hk); (try clear hi)))
                            go_ret
                            exact ⟨by first | rfl | (simp [errW_none, errW_some] <;> rfl) | (simp [*, errW_none, errW_some] <;> rfl), by repeat (first | (with_reducible first | exact HB.out | apply below_alloc | apply pw_below_drewN | apply below_drew1 | refine below_set ?_ GE121.out) | exact HB.out)⟩
                          · rw [if_neg c102] at H
                            have c102b0 : decide (a4 < a2) = false := decide_eq_false c102
                            clear c102
                            obtain rfl := Option.some.inj H
                            go_wp2_with (first | ((with_reducible refine gate_callee (f := 29) rfl ?_); refine goesL_ (some 65) rfl rfl Try.func29 (by kernel_rfl) rfl #[.int .u64 a0, .int .u64 a1] rfl (by (try simp only [List.map_toArray, List.map_cons, List.map_nil]); first | done | rfl | (simp only [List.length_drop, List.length_take]; rfl)) ?_; (with_reducible refine (num_Minus.calls a0 a1 t125 _ A28.out).mono ?_); rintro e w' ⟨rfl, ⟨nd, rfl⟩⟩; refine ⟨_, rfl, ?_⟩) | (go_at_call 26; (with_reducible refine (nightjarref01_Sum.calls t125 a1 t130 t131 _ A81.out).mono ?_); rintro e w105 ⟨rfl, hb⟩; have n0_ := Aside0.mk (blk_below (g := gb121) (o := .cells #[.int .u64 t119, .int .u64 t120] 47 (0, 0)) (by (with_reducible repeat (first | refine blk_drewN ?_ _ | refine blk_drew ?_ | refine blk_alloc ?_ _)); exact BK121.out) hb); have n1_ := Aside0.mk (below_step (by repeat (first | (with_reducible first | exact HB.out | apply below_alloc | apply pw_below_drewN | apply below_drew1 | refine below_set ?_ GE121.out) | exact HB.out)) hb); clear BK121; clear HB; have BK121 := n0_; have HB := n1_; clear n0_ n1_; (try clear hb); (try clear hb2); (try clear hk); (try clear hi)) | ((with_reducible refine gate_callee (f := 30) rfl ?_); refine goesL_ (some 89) rfl rfl Try.func30 (by kernel_rfl) rfl #[.int .i64 a2, .int .i64 a3, .int .i64 a4] rfl (by (try simp only [List.map_toArray, List.map_cons, List.map_nil]); first | done | rfl | (simp only [List.length_drop, List.length_take]; rfl)) ?_; (with_reducible refine (num_Clamp.calls a2 a3 a4 t132 _ A84.out).mono ?_); rintro e w106 ⟨rfl, hb⟩; refine ⟨_, rfl, ?_⟩; have n0_ := Aside0.mk (blk_below (g := gb121) (o := .cells #[.int .u64 t119, .int .u64 t120] 47 (0, 0)) (by (with_reducible repeat (first | refine blk_drewN ?_ _ | refine blk_drew ?_ | refine blk_alloc ?_ _)); exact BK121.out) hb); have n1_ := Aside0.mk (below_step (by repeat (first | (with_reducible first | exact HB.out | apply below_alloc | apply pw_below_drewN | apply below_drew1 | refine below_set ?_ GE121.out) | exact HB.out)) hb); clear BK121; clear HB; have BK121 := n0_; have HB := n1_; clear n0_ n1_; (try clear hb); (try clear hb2); (try clear hk); (try clear hi)))
                            go_ret
                            exact ⟨by first | rfl | (simp [errW_none, errW_some] <;> rfl) | (simp [*, errW_none, errW_some] <;> rfl), by repeat (first | (with_reducible first | exact HB.out | apply below_alloc | apply pw_below_drewN | apply below_drew1 | refine below_set ?_ GE121.out) | exact HB.out)⟩
                    · rw [if_neg c89] at H
                      have c89b0 : decide (t132 ≤ a4) = false := decide_eq_false c89
                      clear c89
                      obtain rfl := Option.some.inj H
                      go_wp2_with (first | ((with_reducible refine gate_callee (f := 29) rfl ?_); refine goesL_ (some 65) rfl rfl Try.func29 (by kernel_rfl) rfl #[.int .u64 a0, .int .u64 a1] rfl (by (try simp only [List.map_toArray, List.map_cons, List.map_nil]); first | done | rfl | (simp only [List.length_drop, List.length_take]; rfl)) ?_; (with_reducible refine (num_Minus.calls a0 a1 t125 _ A28.out).mono ?_); rintro e w' ⟨rfl, ⟨nd, rfl⟩⟩; refine ⟨_, rfl, ?_⟩) | (go_at_call 26; (with_reducible refine (nightjarref01_Sum.calls t125 a1 t130 t131 _ A81.out).mono ?_); rintro e w107 ⟨rfl, hb⟩; have n0_ := Aside0.mk (blk_below (g := gb121) (o := .cells #[.int .u64 t119, .int .u64 t120] 47 (0, 0)) (by (with_reducible repeat (first | refine blk_drewN ?_ _ | refine blk_drew ?_ | refine blk_alloc ?_ _)); exact BK121.out) hb); have n1_ := Aside0.mk (below_step (by repeat (first | (with_reducible first | exact HB.out | apply below_alloc | apply pw_below_drewN | apply below_drew1 | refine below_set ?_ GE121.out) | exact HB.out)) hb); clear BK121; clear HB; have BK121 := n0_; have HB := n1_; clear n0_ n1_; (try clear hb); (try clear hb2); (try clear hk); (try clear hi)) | ((with_reducible refine gate_callee (f := 30) rfl ?_); refine goesL_ (some 89) rfl rfl Try.func30 (by kernel_rfl) rfl #[.int .i64 a2, .int .i64 a3, .int .i64 a4] rfl (by (try simp only [List.map_toArray, List.map_cons, List.map_nil]); first | done | rfl | (simp only [List.length_drop, List.length_take]; rfl)) ?_; (with_reducible refine (num_Clamp.calls a2 a3 a4 t132 _ A84.out).mono ?_); rintro e w108 ⟨rfl, hb⟩; refine ⟨_, rfl, ?_⟩; have n0_ := Aside0.mk (blk_below (g := gb121) (o := .cells #[.int .u64 t119, .int .u64 t120] 47 (0, 0)) (by (with_reducible repeat (first | refine blk_drewN ?_ _ | refine blk_drew ?_ | refine blk_alloc ?_ _)); exact BK121.out) hb); have n1_ := Aside0.mk (below_step (by repeat (first | (with_reducible first | exact HB.out | apply below_alloc | apply pw_below_drewN | apply below_drew1 | refine below_set ?_ GE121.out) | exact HB.out)) hb); clear BK121; clear HB; have BK121 := n0_; have HB := n1_; clear n0_ n1_; (try clear hb); (try clear hb2); (try clear hk); (try clear hi)))
                      go_ret
                      exact ⟨by first | rfl | (simp [errW_none, errW_some] <;> rfl) | (simp [*, errW_none, errW_some] <;> rfl), by repeat (first | (with_reducible first | exact HB.out | apply below_alloc | apply pw_below_drewN | apply below_drew1 | refine below_set ?_ GE121.out) | exact HB.out)⟩
                  · rw [if_neg c88] at H
                    have c88b0 : decide (a3 ≤ t132) = false := decide_eq_false c88
                    clear c88
                    obtain rfl := Option.some.inj H
                    go_wp2_with (first | ((with_reducible refine gate_callee (f := 29) rfl ?_); refine goesL_ (some 65) rfl rfl Try.func29 (by kernel_rfl) rfl #[.int .u64 a0, .int .u64 a1] rfl (by (try simp only [List.map_toArray, List.map_cons, List.map_nil]); first | done | rfl | (simp only [List.length_drop, List.length_take]; rfl)) ?_; (with_reducible refine (num_Minus.calls a0 a1 t125 _ A28.out).mono ?_); rintro e w' ⟨rfl, ⟨nd, rfl⟩⟩; refine ⟨_, rfl, ?_⟩) | (go_at_call 26; (with_reducible refine (nightjarref01_Sum.calls t125 a1 t130 t131 _ A81.out).mono ?_); rintro e w109 ⟨rfl, hb⟩; have n0_ := Aside0.mk (blk_below (g := gb121) (o := .cells #[.int .u64 t119, .int .u64 t120] 47 (0, 0)) (by (with_reducible repeat (first | refine blk_drewN ?_ _ | refine blk_drew ?_ | refine blk_alloc ?_ _)); exact BK121.out) hb); have n1_ := Aside0.mk (below_step (by repeat (first | (with_reducible first | exact HB.out | apply below_alloc | apply pw_below_drewN | apply below_drew1 | refine below_set ?_ GE121.out) | exact HB.out)) hb); clear BK121; clear HB; have BK121 := n0_; have HB := n1_; clear n0_ n1_; (try clear hb); (try clear hb2); (try clear hk); (try clear hi)) | ((with_reducible refine gate_callee (f := 30) rfl ?_); refine goesL_ (some 89) rfl rfl Try.func30 (by kernel_rfl) rfl #[.int .i64 a2, .int .i64 a3, .int .i64 a4] rfl (by (try simp only [List.map_toArray, List.map_cons, List.map_nil]); first | done | rfl | (simp only [List.length_drop, List.length_take]; rfl)) ?_; (with_reducible refine (num_Clamp.calls a2 a3 a4 t132 _ A84.out).mono ?_); rintro e w110 ⟨rfl, hb⟩; refine ⟨_, rfl, ?_⟩; have n0_ := Aside0.mk (blk_below (g := gb121) (o := .cells #[.int .u64 t119, .int .u64 t120] 47 (0, 0)) (by (with_reducible repeat (first | refine blk_drewN ?_ _ | refine blk_drew ?_ | refine blk_alloc ?_ _)); exact BK121.out) hb); have n1_ := Aside0.mk (below_step (by repeat (first | (with_reducible first | exact HB.out | apply below_alloc | apply pw_below_drewN | apply below_drew1 | refine below_set ?_ GE121.out) | exact HB.out)) hb); clear BK121; clear HB; have BK121 := n0_; have HB := n1_; clear n0_ n1_; (try clear hb); (try clear hb2); (try clear hk); (try clear hi)))
                    go_ret
                    exact ⟨by first | rfl | (simp [errW_none, errW_some] <;> rfl) | (simp [*, errW_none, errW_some] <;> rfl), by repeat (first | (with_reducible first | exact HB.out | apply below_alloc | apply pw_below_drewN | apply below_drew1 | refine below_set ?_ GE121.out) | exact HB.out)⟩
            · rw [if_neg c80] at H
              have c80b0 : decide (a1 ≤ a0) = false := decide_eq_false c80
              clear c80
              replace H := Option.bind_eq_some_iff.mp H
              obtain ⟨t133, A1110, H⟩ := H
              replace H : (if a3 > a4 then (some true) else (if t133 ≥ a3 then (if t133 ≤ a4 then (if t133 = a2 then (some true) else (if a2 < a3 then (if t133 = a3 then (some true) else (if a2 > a4 then (some (t133 == a4)) else (some false))) else (if a2 > a4 then (some (t133 == a4)) else (some false)))) else (some false)) else (some false))) = some r := H
              have A111 := Aside0.mk A1110
              clear A1110
              by_cases c112 : a3 > a4
              · rw [if_pos c112] at H
                have c112b0 : decide (a4 < a3) = true := decide_eq_true c112
                clear c112
                obtain rfl := Option.some.inj H
                go_wp2_with (first | ((with_reducible refine gate_callee (f := 29) rfl ?_); refine goesL_ (some 65) rfl rfl Try.func29 (by kernel_rfl) rfl #[.int .u64 a0, .int .u64 a1] rfl (by (try simp only [List.map_toArray, List.map_cons, List.map_nil]); first | done | rfl | (simp only [List.length_drop, List.length_take]; rfl)) ?_; (with_reducible refine (num_Minus.calls a0 a1 t125 _ A28.out).mono ?_); rintro e w' ⟨rfl, ⟨nd, rfl⟩⟩; refine ⟨_, rfl, ?_⟩) | ((with_reducible refine gate_callee (f := 30) rfl ?_); refine goesL_ (some 89) rfl rfl Try.func30 (by kernel_rfl) rfl #[.int .i64 a2, .int .i64 a3, .int .i64 a4] rfl (by (try simp only [List.map_toArray, List.map_cons, List.map_nil]); first | done | rfl | (simp only [List.length_drop, List.length_take]; rfl)) ?_; (with_reducible refine (num_Clamp.calls a2 a3 a4 t133 _ A111.out).mono ?_); rintro e w113 ⟨rfl, hb⟩; refine ⟨_, rfl, ?_⟩; have n0_ := Aside0.mk (blk_below (g := gb121) (o := .cells #[.int .u64 t119, .int .u64 t120] 47 (0, 0)) (by (with_reducible repeat (first | refine blk_drewN ?_ _ | refine blk_drew ?_ | refine blk_alloc ?_ _)); exact BK121.out) hb); have n1_ := Aside0.mk (below_step (by repeat (first | (with_reducible first | exact HB.out | apply below_alloc | apply pw_below_drewN | apply below_drew1 | refine below_set ?_ GE121.out) | exact HB.out)) hb); clear BK121; clear HB; have BK121 := n0_; have HB := n1_; clear n0_ n1_; (try clear hb); (try clear hb2); (try clear hk); (try clear hi)))
                go_ret
                exact ⟨by first | rfl | (simp [errW_none, errW_some] <;> rfl) | (simp [*, errW_none, errW_some] <;> rfl), by repeat (first | (with_reducible first | exact HB.out | apply below_alloc | apply pw_below_drewN | apply below_drew1 | refine below_set ?_ GE121.out) | exact HB.out)⟩
              · rw [if_neg c112] at H
                have c112b0 : decide (a4 < a3) = false := decide_eq_false c112
                clear c112
                by_cases c114 : t133 ≥ a3
                · rw [if_pos c114] at H
                  have c114b0 : decide (a3 ≤ t133) = true := decide_eq_true c114
                  clear c114
                  by_cases c115 : t133 ≤ a4
                  · rw [if_pos c115] at H
                    have c115b0 : decide (t133 ≤ a4) = true := decide_eq_true c115
                    clear c115
                    by_cases c116 : t133 = a2
                    · rw [if_pos c116] at H
                      have c116b0 : (t133 == a2) = true := beq_iff_eq.mpr c116
                      have c116b1 : (t133 != a2) = false := bne_eq_false_iff_eq.mpr c116
                      clear c116
                      obtain rfl := Option.some.inj H
                      go_wp2_with (first | ((with_reducible refine gate_callee (f := 29) rfl ?_); refine goesL_ (some 65) rfl rfl Try.func29 (by kernel_rfl) rfl #[.int .u64 a0, .int .u64 a1] rfl (by (try simp only [List.map_toArray, List.map_cons, List.map_nil]); first | done | rfl | (simp only [List.length_drop, List.length_take]; rfl)) ?_; (with_reducible refine (num_Minus.calls a0 a1 t125 _ A28.out).mono ?_); rintro e w' ⟨rfl, ⟨nd, rfl⟩⟩; refine ⟨_, rfl, ?_⟩) | ((with_reducible refine gate_callee (f := 30) rfl ?_); refine goesL_ (some 89) rfl rfl Try.func30 (by kernel_rfl) rfl #[.int .i64 a2, .int .i64 a3, .int .i64 a4] rfl (by (try simp only [List.map_toArray, List.map_cons, List.map_nil]); first | done | rfl | (simp only [List.length_drop, List.length_take]; rfl)) ?_; (with_reducible refine (num_Clamp.calls a2 a3 a4 t133 _ A111.out).mono ?_); rintro e w117 ⟨rfl, hb⟩; refine ⟨_, rfl, ?_⟩; have n0_ := Aside0.mk (blk_below (g := gb121) (o := .cells #[.int .u64 t119, .int .u64 t120] 47 (0, 0)) (by (with_reducible repeat (first | refine blk_drewN ?_ _ | refine blk_drew ?_ | refine blk_alloc ?_ _)); exact BK121.out) hb); have n1_ := Aside0.mk (below_step (by repeat (first | (with_reducible first | exact HB.out | apply below_alloc | apply pw_below_drewN | apply below_drew1 | refine below_set ?_ GE121.out) | exact HB.out)) hb); clear BK121; clear HB; have BK121 := n0_; have HB := n1_; clear n0_ n1_; (try clear hb); (try clear hb2); (try clear hk); (try clear hi)))
                      go_ret
                      exact ⟨by first | rfl | (simp [errW_none, errW_some] <;> rfl) | (simp [*, errW_none, errW_some] <;> rfl), by repeat (first | (with_reducible first | exact HB.out | apply below_alloc | apply pw_below_drewN | apply below_drew1 | refine below_set ?_ GE121.out) | exact HB.out)⟩
                    · rw [if_neg c116] at H
                      have c116b0 : (t133 == a2) = false := beq_eq_false_iff_ne.mpr c116
                      have c116b1 : (t133 != a2) = true := bne_iff_ne.mpr c116
                      by_cases c118 : a2 < a3
                      · rw [if_pos c118] at H
                        have c118b0 : decide (a2 < a3) = true := decide_eq_true c118
                        clear c118
                        by_cases c119 : t133 = a3
                        · rw [if_pos c119] at H
                          have c119b0 : (t133 == a3) = true := beq_iff_eq.mpr c119
                          have c119b1 : (t133 != a3) = false := bne_eq_false_iff_eq.mpr c119
                          clear c119
                          obtain rfl := Option.some.inj H
                          go_wp2_with (first | ((with_reducible refine gate_callee (f := 29) rfl ?_); refine goesL_ (some 65) rfl rfl Try.func29 (by kernel_rfl) rfl #[.int .u64 a0, .int .u64 a1] rfl (by (try simp only [List.map_toArray, List.map_cons, List.map_nil]); first | done | rfl | (simp only [List.length_drop, List.length_take]; rfl)) ?_; (with_reducible refine (num_Minus.calls a0 a1 t125 _ A28.out).mono ?_); rintro e w' ⟨rfl, ⟨nd, rfl⟩⟩; refine ⟨_, rfl, ?_⟩) | ((with_reducible refine gate_callee (f := 30) rfl ?_); refine goesL_ (some 89) rfl rfl Try.func30 (by kernel_rfl) rfl #[.int .i64 a2, .int .i64 a3, .int .i64 a4] rfl (by (try simp only [List.map_toArray, List.map_cons, List.map_nil]); first | done | rfl | (simp only [List.length_drop, List.length_take]; rfl)) ?_; (with_reducible refine (num_Clamp.calls a2 a3 a4 t133 _ A111.out).mono ?_); rintro e w120 ⟨rfl, hb⟩; refine ⟨_, rfl, ?_⟩; have n0_ := Aside0.mk (blk_below (g := gb121) (o := .cells #[.int .u64 t119, .int .u64 t120] 47 (0, 0)) (by (with_reducible repeat (first | refine blk_drewN ?_ _ | refine blk_drew ?_ | refine blk_alloc ?_ _)); exact BK121.out) hb); have n1_ := Aside0.mk (below_step (by repeat (first | (with_reducible first | exact HB.out | apply below_alloc | apply pw_below_drewN | apply below_drew1 | refine below_set ?_ GE121.out) | exact HB.out)) hb); clear BK121; clear HB; have BK121 := n0_; have HB := n1_; clear n0_ n1_; (try clear hb); (try clear hb2); (try clear hk); (try clear hi)))
                          go_ret
                          exact ⟨by first | rfl | (simp [errW_none, errW_some] <;> rfl) | (simp [*, errW_none, errW_some] <;> rfl), by repeat (first | (with_reducible first | exact HB.out | apply below_alloc | apply pw_below_drewN | apply below_drew1 | refine below_set ?_ GE121.out) | exact HB.out)⟩
                        · rw [if_neg c119] at H
                          have c119b0 : (t133 == a3) = false := beq_eq_false_iff_ne.mpr c119
                          have c119b1 : (t133 != a3) = true := bne_iff_ne.mpr c119
                          by_cases c121 : a2 > a4
                          · rw [if_pos c121] at H
                            have c121b0 : decide (a4 < a2) = true := decide_eq_true c121
                            clear c121
                            obtain rfl := Option.some.inj H
                            go_wp2_with (first | ((with_reducible refine gate_callee (f := 29) rfl ?_); refine goesL_ (some 65) rfl rfl Try.func29 (by kernel_rfl) rfl #[.int .u64 a0, .int .u64 a1] rfl (by (try simp only [List.map_toArray, List.map_cons, List.map_nil]); first | done | rfl | (simp only [List.length_drop, List.length_take]; rfl)) ?_; (with_reducible refine (num_Minus.calls a0 a1 t125 _ A28.out).mono ?_); rintro e w' ⟨rfl, ⟨nd, rfl⟩⟩; refine ⟨_, rfl, ?_⟩) | ((with_reducible refine gate_callee (f := 30) rfl ?_); refine goesL_ (some 89) rfl rfl Try.func30 (by kernel_rfl) rfl #[.int .i64 a2, .int .i64 a3, .int .i64 a4] rfl (by (try simp only [List.map_toArray, List.map_cons, List.map_nil]); first | done | rfl | (simp only [List.length_drop, List.length_take]; rfl)) ?_; (with_reducible refine (num_Clamp.calls a2 a3 a4 t133 _ A111.out).mono ?_); rintro e w122 ⟨rfl, hb⟩; refine ⟨_, rfl, ?_⟩; have n0_ := Aside0.mk (blk_below (g := gb121) (o := .cells #[.int .u64 t119, .int .u64 t120] 47 (0, 0)) (by (with_reducible repeat (first | refine blk_drewN ?_ _ | refine blk_drew ?_ | refine blk_alloc ?_ _)); exact BK121.out) hb); have n1_ := Aside0.mk (below_step (by repeat (first | (with_reducible first | exact HB.out | apply below_alloc | apply pw_below_drewN | apply below_drew1 | refine below_set ?_ GE121.out) | exact HB.out)) hb); clear BK121; clear HB; have BK121 := n0_; have HB := n1_; clear n0_ n1_; (try clear hb); (try clear hb2); (try clear hk); (try clear hi)))
                            go_ret
                            exact ⟨by first | rfl | (simp [errW_none, errW_some] <;> rfl) | (simp [*, errW_none, errW_some] <;> rfl), by repeat (first | (with_reducible first | exact HB.out | apply below_alloc | apply pw_below_drewN | apply below_drew1 | refine below_set ?_ GE121.out) | exact HB.out)⟩
                          · rw [if_neg c121] at H
                            have c121b0 : decide (a4 < a2) = false := decide_eq_false c121
                            clear c121
                            obtain rfl := Option.some.inj H
                            go_wp2_with (first | ((with_reducible refine gate_callee (f := 29) rfl ?_); refine goesL_ (some 65) rfl rfl Try.func29 (by kernel_rfl) rfl #[.int .u64 a0, .int .u64 a1] rfl (by (try simp only [List.map_toArray, List.map_cons, List.map_nil]); first | done | rfl | (simp only [List.length_drop, List.length_take]; rfl)) ?_; (with_reducible refine (num_Minus.calls a0 a1 t125 _ A28.out).mono ?_); rintro e w' ⟨rfl, ⟨nd, rfl⟩⟩; refine ⟨_, rfl, ?_⟩) | ((with_reducible refine gate_callee (f := 30) rfl ?_); refine goesL_ (some 89) rfl rfl Try.func30 (by kernel_rfl) rfl #[.int .i64 a2, .int .i64 a3, .int .i64 a4] rfl (by (try simp only [List.map_toArray, List.map_cons, List.map_nil]); first | done | rfl | (simp only [List.length_drop, List.length_take]; rfl)) ?_; (with_reducible refine (num_Clamp.calls a2 a3 a4 t133 _ A111.out).mono ?_); rintro e w123 ⟨rfl, hb⟩; refine ⟨_, rfl, ?_⟩; have n0_ := Aside0.mk (blk_below (g := gb121) (o := .cells #[.int .u64 t119, .int .u64 t120] 47 (0, 0)) (by (with_reducible repeat (first | refine blk_drewN ?_ _ | refine blk_drew ?_ | refine blk_alloc ?_ _)); exact BK121.out) hb); have n1_ := Aside0.mk (below_step (by repeat (first | (with_reducible first | exact HB.out | apply below_alloc | apply pw_below_drewN | apply below_drew1 | refine below_set ?_ GE121.out) | exact HB.out)) hb); clear BK121; clear HB; have BK121 := n0_; have HB := n1_; clear n0_ n1_; (try clear hb); (try clear hb2); (try clear hk); (try clear hi)))
                            go_ret
                            exact ⟨by first | rfl | (simp [errW_none, errW_some] <;> rfl) | (simp [*, errW_none, errW_some] <;> rfl), by repeat (first | (with_reducible first | exact HB.out | apply below_alloc | apply pw_below_drewN | apply below_drew1 | refine below_set ?_ GE121.out) | exact HB.out)⟩
                      · rw [if_neg c118] at H
                        have c118b0 : decide (a2 < a3) = false := decide_eq_false c118
                        clear c118
                        by_cases c124 : a2 > a4
                        · rw [if_pos c124] at H
                          have c124b0 : decide (a4 < a2) = true := decide_eq_true c124
                          clear c124
                          obtain rfl := Option.some.inj H
                          go_wp2_with (first | ((with_reducible refine gate_callee (f := 29) rfl ?_); refine goesL_ (some 65) rfl rfl Try.func29 (by kernel_rfl) rfl #[.int .u64 a0, .int .u64 a1] rfl (by (try simp only [List.map_toArray, List.map_cons, List.map_nil]); first | done | rfl | (simp only [List.length_drop, List.length_take]; rfl)) ?_; (with_reducible refine (num_Minus.calls a0 a1 t125 _ A28.out).mono ?_); rintro e w' ⟨rfl, ⟨nd, rfl⟩⟩; refine ⟨_, rfl, ?_⟩) | ((with_reducible refine gate_callee (f := 30) rfl ?_); refine goesL_ (some 89) rfl rfl Try.func30 (by kernel_rfl) rfl #[.int .i64 a2, .int .i64 a3, .int .i64 a4] rfl (by (try simp only [List.map_toArray, List.map_cons, List.map_nil]); first | done | rfl | (simp only [List.length_drop, List.length_take]; rfl)) ?_; (with_reducible refine (num_Clamp.calls a2 a3 a4 t133 _ A111.out).mono ?_); rintro e w125 ⟨rfl, hb⟩; refine ⟨_, rfl, ?_⟩; have n0_ := Aside0.mk (blk_below (g := gb121) (o := .cells #[.int .u64 t119, .int .u64 t120] 47 (0, 0)) (by (with_reducible repeat (first | refine blk_drewN ?_ _ | refine blk_drew ?_ | refine blk_alloc ?_ _)); exact BK121.out) hb); have n1_ := Aside0.mk (below_step (by repeat (first | (with_reducible first | exact HB.out | apply below_alloc | apply pw_below_drewN | apply below_drew1 | refine below_set ?_ GE121.out) | exact HB.out)) hb); clear BK121; clear HB; have BK121 := n0_; have HB := n1_; clear n0_ n1_; (try clear hb); (try clear hb2); (try clear hk); (try clear hi)))
                          go_ret
                          exact ⟨by first | rfl | (simp [errW_none, errW_some] <;> rfl) | (simp [*, errW_none, errW_some] <;> rfl), by repeat (first | (with_reducible first | exact HB.out | apply below_alloc | apply pw_below_drewN | apply below_drew1 | refine below_set ?_ GE121.out) | exact HB.out)⟩
                        · rw [if_neg c124] at H
                          have c124b0 : decide (a4 < a2) = false := decide_eq_false c124
                          clear c124
                          obtain rfl := Option.some.inj H
                          go_wp2_with (first | ((with_reducible refine gate_callee (f := 29) rfl ?_); refine goesL_ (some 65) rfl rfl Try.func29 (by kernel_rfl) rfl #[.int .u64 a0, .int .u64 a1] rfl (by (try simp only [List.map_toArray, List.map_cons, List.map_nil]); first | done | rfl | (simp only [List.length_drop, List.length_take]; rfl)) ?_; (with_reducible refine (num_Minus.calls a0 a1 t125 _ A28.out).mono ?_); rintro e w' ⟨rfl, ⟨nd, rfl⟩⟩; refine ⟨_, rfl, ?_⟩) | ((with_reducible refine gate_callee (f := 30) rfl ?_); refine goesL_ (some 89) rfl rfl Try.func30 (by kernel_rfl) rfl #[.int .i64 a2, .int .i64 a3, .int .i64 a4] rfl (by (try simp only [List.map_toArray, List.map_cons, List.map_nil]); first | done | rfl | (simp only [List.length_drop, List.length_take]; rfl)) ?_; (with_reducible refine (num_Clamp.calls a2 a3 a4 t133 _ A111.out).mono ?_); rintro e w126 ⟨rfl, hb⟩; refine ⟨_, rfl, ?_⟩; have n0_ := Aside0.mk (blk_below (g := gb121) (o := .cells #[.int .u64 t119, .int .u64 t120] 47 (0, 0)) (by (with_reducible repeat (first | refine blk_drewN ?_ _ | refine blk_drew ?_ | refine blk_alloc ?_ _)); exact BK121.out) hb); have n1_ := Aside0.mk (below_step (by repeat (first | (with_reducible first | exact HB.out | apply below_alloc | apply pw_below_drewN | apply below_drew1 | refine below_set ?_ GE121.out) | exact HB.out)) hb); clear BK121; clear HB; have BK121 := n0_; have HB := n1_; clear n0_ n1_; (try clear hb); (try clear hb2); (try clear hk); (try clear hi)))
                          go_ret
                          exact ⟨by first | rfl | (simp [errW_none, errW_some] <;> rfl) | (simp [*, errW_none, errW_some] <;> rfl), by repeat (first | (with_reducible first | exact HB.out | apply below_alloc | apply pw_below_drewN | apply below_drew1 | refine below_set ?_ GE121.out) | exact HB.out)⟩
                  · rw [if_neg c115] at H
                    have c115b0 : decide (t133 ≤ a4) = false := decide_eq_false c115
                    clear c115
                    obtain rfl := Option.some.inj H
                    go_wp2_with (first | ((with_reducible refine gate_callee (f := 29) rfl ?_); refine goesL_ (some 65) rfl rfl Try.func29 (by kernel_rfl) rfl #[.int .u64 a0, .int .u64 a1] rfl (by (try simp only [List.map_toArray, List.map_cons, List.map_nil]); first | done | rfl | (simp only [List.length_drop, List.length_take]; rfl)) ?_; (with_reducible refine (num_Minus.calls a0 a1 t125 _ A28.out).mono ?_); rintro e w' ⟨rfl, ⟨nd, rfl⟩⟩; refine ⟨_, rfl, ?_⟩) | ((with_reducible refine gate_callee (f := 30) rfl ?_); refine goesL_ (some 89) rfl rfl Try.func30 (by kernel_rfl) rfl #[.int .i64 a2, .int .i64 a3, .int .i64 a4] rfl (by (try simp only [List.map_toArray, List.map_cons, List.map_nil]); first | done | rfl | (simp only [List.length_drop, List.length_take]; rfl)) ?_; (with_reducible refine (num_Clamp.calls a2 a3 a4 t133 _ A111.out).mono ?_); rintro e w127 ⟨rfl, hb⟩; refine ⟨_, rfl, ?_⟩; have n0_ := Aside0.mk (blk_below (g := gb121) (o := .cells #[.int .u64 t119, .int .u64 t120] 47 (0, 0)) (by (with_reducible repeat (first | refine blk_drewN ?_ _ | refine blk_drew ?_ | refine blk_alloc ?_ _)); exact BK121.out) hb); have n1_ := Aside0.mk (below_step (by repeat (first | (with_reducible first | exact HB.out | apply below_alloc | apply pw_below_drewN | apply below_drew1 | refine below_set ?_ GE121.out) | exact HB.out)) hb); clear BK121; clear HB; have BK121 := n0_; have HB := n1_; clear n0_ n1_; (try clear hb); (try clear hb2); (try clear hk); (try clear hi)))
                    go_ret
                    exact ⟨by first | rfl | (simp [errW_none, errW_some] <;> rfl) | (simp [*, errW_none, errW_some] <;> rfl), by repeat (first | (with_reducible first | exact HB.out | apply below_alloc | apply pw_below_drewN | apply below_drew1 | refine below_set ?_ GE121.out) | exact HB.out)⟩
                · rw [if_neg c114] at H
                  have c114b0 : decide (a3 ≤ t133) = false := decide_eq_false c114
                  clear c114
                  obtain rfl := Option.some.inj H
                  go_wp2_with (first | ((with_reducible refine gate_callee (f := 29) rfl ?_); refine goesL_ (some 65) rfl rfl Try.func29 (by kernel_rfl) rfl #[.int .u64 a0, .int .u64 a1] rfl (by (try simp only [List.map_toArray, List.map_cons, List.map_nil]); first | done | rfl | (simp only [List.length_drop, List.length_take]; rfl)) ?_; (with_reducible refine (num_Minus.calls a0 a1 t125 _ A28.out).mono ?_); rintro e w' ⟨rfl, ⟨nd, rfl⟩⟩; refine ⟨_, rfl, ?_⟩) | ((with_reducible refine gate_callee (f := 30) rfl ?_); refine goesL_ (some 89) rfl rfl Try.func30 (by kernel_rfl) rfl #[.int .i64 a2, .int .i64 a3, .int .i64 a4] rfl (by (try simp only [List.map_toArray, List.map_cons, List.map_nil]); first | done | rfl | (simp only [List.length_drop, List.length_take]; rfl)) ?_; (with_reducible refine (num_Clamp.calls a2 a3 a4 t133 _ A111.out).mono ?_); rintro e w128 ⟨rfl, hb⟩; refine ⟨_, rfl, ?_⟩; have n0_ := Aside0.mk (blk_below (g := gb121) (o := .cells #[.int .u64 t119, .int .u64 t120] 47 (0, 0)) (by (with_reducible repeat (first | refine blk_drewN ?_ _ | refine blk_drew ?_ | refine blk_alloc ?_ _)); exact BK121.out) hb); have n1_ := Aside0.mk (below_step (by repeat (first | (with_reducible first | exact HB.out | apply below_alloc | apply pw_below_drewN | apply below_drew1 | refine below_set ?_ GE121.out) | exact HB.out)) hb); clear BK121; clear HB; have BK121 := n0_; have HB := n1_; clear n0_ n1_; (try clear hb); (try clear hb2); (try clear hk); (try clear hi)))
                  go_ret
                  exact ⟨by first | rfl | (simp [errW_none, errW_some] <;> rfl) | (simp [*, errW_none, errW_some] <;> rfl), by repeat (first | (with_reducible first | exact HB.out | apply below_alloc | apply pw_below_drewN | apply below_drew1 | refine below_set ?_ GE121.out) | exact HB.out)⟩
  · replace c7 := Bool.eq_false_iff.mpr c7
    subst c7
    have H1 : (some false) = some r := by rw [if_neg (show ¬ (false = true) by decide)] at H; exact H
    clear H
    have H := H1
    clear H1
    obtain rfl := Option.some.inj H
    go_enter Try.func5, Try.ntmps5
    go_wp2_with (first | ((with_reducible refine gate_callee (f := 25) rfl ?_); refine goesL_ (some 17) rfl rfl Try.func25 (by kernel_rfl) rfl #[] rfl (by (try simp only [List.map_toArray, List.map_cons, List.map_nil]); first | done | rfl | (simp only [List.length_drop, List.length_take]; rfl)) ?_; (with_reducible refine (nightjarlaw01_alive.calls  false _ A6.out).mono ?_); rintro e w129 ⟨rfl, hb⟩; refine ⟨_, rfl, ?_⟩; have n0_ := Aside0.mk (below_step (by repeat (first | (with_reducible first | exact HB.out | apply below_alloc | apply pw_below_drewN | apply below_drew1) | exact HB.out)) hb); clear HB; have HB := n0_; clear n0_; (try clear hb); (try clear hb2); (try clear hk); (try clear hi)))
    go_ret
    exact ⟨by first | rfl | (simp [errW_none, errW_some] <;> rfl) | (simp [*, errW_none, errW_some] <;> rfl), by repeat (first | (with_reducible first | exact HB.out | apply below_alloc | apply pw_below_drewN | apply below_drew1) | exact HB.out)⟩

/-- THE ONE PURE STATEMENT of nightjarlaw01_NumSums: yours. -/
def nightjarlaw01_NumSums.Pure : Prop := ∀ (a0 : Int) (a1 : Int) (a2 : Int) (a3 : Int) (a4 : Int), (Lit.int .u64 a0).wf = true → (Lit.int .u64 a1).wf = true → (Lit.int .i64 a2).wf = true → (Lit.int .i64 a3).wf = true → (Lit.int .i64 a4).wf = true → ∃ k, nightjarlaw01_NumSums.f k a0 a1 a2 a3 a4 = some true
theorem nightjarlaw01_NumSums.walk (P : nightjarlaw01_NumSums.Pure) (a0 : Int) (a1 : Int) (a2 : Int) (a3 : Int) (a4 : Int) (w : World) (w0 : (Lit.int .u64 a0).wf = true) (w1 : (Lit.int .u64 a1).wf = true) (w2 : (Lit.int .i64 a2).wf = true) (w3 : (Lit.int .i64 a3).wf = true) (w4 : (Lit.int .i64 a4).wf = true) :
    Calls Try.prog 5 #[.int .u64 a0, .int .u64 a1, .int .i64 a2, .int .i64 a3, .int .i64 a4] w fun e w' => e = .returned (.bool true) ∧ Below w.heap.size w w' := by
  obtain ⟨k, h⟩ := P a0 a1 a2 a3 a4 w0 w1 w2 w3 w4
  refine (nightjarlaw01_NumSums.calls k a0 a1 a2 a3 a4 true w h).mono ?_
  rintro e w' ⟨rfl, hd⟩
  exact ⟨rfl, hd⟩

end Go.Proofs.Ytkpiphihmmhhpaa.PNumSums
