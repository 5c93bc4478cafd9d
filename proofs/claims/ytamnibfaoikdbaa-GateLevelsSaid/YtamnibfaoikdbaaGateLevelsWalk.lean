/- GateLevels: by its level a gate tells again and again what is ready, as long as it is; for every input. No condition. -/
import Derived.Test.YtamnibfaoikdbaaGateKeepsWalk
import Derived.Deep.RegionHeld3
namespace Go.Proofs.Ytamnibfaoikdbaa
open Go.RowKit
set_option linter.unusedVariables false
set_option linter.unusedSimpArgs false

def levG (wt r t : Int) : G := ⟨true, r, 0, 4, wt, 0, t⟩
theorem lev_start {wt : Int} (h : 1 ≤ wt ∧ wt ≤ 4) : watchG (openG noG) 4 wt 0 = levG wt 0 0 := by
  unfold watchG
  rw [if_pos (by unfold watchB openG noG; simp; omega)]
  unfold openG noG levG
  simp [zero_and]
theorem lev_watchB {wt : Int} (h : 1 ≤ wt ∧ wt ≤ 4) : watchB (openG noG) wt 0 = true := by unfold watchB openG noG; simp; omega
theorem lev_meet (wt r t c : Int) : meetG (levG wt r t) c = levG wt (bits .or .i64 r (bits .and .i64 c 7)) (bits .or .i64 t (bits .and .i64 c wt)) := rfl
theorem lev_mask (wt r t : Int) : maskG (levG wt r t) = bits .and .i64 r wt := rfl
theorem lev_tell (wt r t : Int) : tellG (levG wt r t) = levG wt r (bits .and .i64 r wt) := rfl
theorem lev_ack (wt r t m : Int) : ackG (levG wt r t) m = levG wt (bits .andNot .i64 r m) t := rfl

set_option maxHeartbeats 1000000 in
set_option maxRecDepth 100000 in
theorem levels_walk (want : Int) (A : Option Addr) (c : Nat) (xs : List Int) (A2 : Option Addr) (c2 : Nat) (ys : List Int) (w : World) (hr : RowAt (fun x : Int => [.int .i64 x]) 1 w A xs) (hr2 : RowAt (fun x : Int => [.int .i64 x]) 1 w A2 ys) (hsz : xs.length * 8 ≤ 140737488351232) (hsz2 : ys.length * 8 ≤ 140737488351232) :
    Calls Try.prog 4 #[.int .i64 want, .slice A xs.length c, .slice A2 ys.length c2] w fun e w' => e = .returned (.bool true) ∧ Below w.heap.size w w' := by
  by_cases hbig : 30 < xs.length
  · have hb1 : decide ((30 : Int) < (xs.length : Int)) = true := by simp; omega
    go_enter Try.func4, Try.ntmps4
    go_wp2_with fail
    refine (alive_c w).mono ?_
    rintro e w1 ⟨rfl, hB1⟩
    have HB1 := Lib.hid hB1
    clear hB1
    go_wp2
    go_ret
    exact ⟨rfl, HB1.out⟩
  by_cases hfew : ys.length < xs.length
  · have hb1 : decide ((30 : Int) < (xs.length : Int)) = false := by simp; omega
    have hb2 : decide (ys.length < xs.length) = true := by simp; omega
    go_enter Try.func4, Try.ntmps4
    go_wp2_with fail
    refine (alive_c w).mono ?_
    rintro e w1 ⟨rfl, hB1⟩
    have HB1 := Lib.hid hB1
    clear hB1
    go_wp2
    go_ret
    exact ⟨rfl, HB1.out⟩
  · have hb1 : decide ((30 : Int) < (xs.length : Int)) = false := by simp; omega
    have hb2 : decide (ys.length < xs.length) = false := by simp; omega
    have hw := wantOf_bd want
    have hf1 := fieldLook1
    go_enter Try.func4, Try.ntmps4
    go_wp2_with fail
    refine (alive_c w).mono ?_
    rintro e w1 ⟨rfl, hB1⟩
    have HB1 := Lib.hid hB1
    clear hB1
    go_wp2_with fail
    generalize wrap64 (1 + bits .and .i64 want 3) = wt at *
    have hge := HB1.out.size
    have G0 := GC.new w1 26
    have HB2 := Lib.hid (HB1.out.alloc hge (.cells #[.bool false, .int .i64 0, .int .i64 0, .int .u64 0, .int .i64 0, .int .i64 0, .int .i64 0] 26))
    clear HB1
    generalize w1.alloc (.cells #[.bool false, .int .i64 0, .int .i64 0, .int .u64 0, .int .i64 0, .int .i64 0, .int .i64 0] 26) = w2 at *
    generalize w1.heap.size = B at *
    refine (open_c G0).mono ?_
    rintro e w3 ⟨rfl, G1, F1⟩
    have HB3 := below_gate HB2 F1 (Nat.le_refl _) hge
    clear F1 G0 HB2
    go_wp2_with fail
    refine (watch_c G1 4 wt 0).mono ?_
    rintro e w4 ⟨rfl, G2, F2⟩
    have HB4 := below_gate HB3 F2 (Nat.le_refl _) hge
    clear F2 G1 HB3
    rw [lev_start hw] at G2
    rw [lev_watchB hw]
    go_wp2_with fail
    go_loopw [8, 33] (fun rd i wr => ∃ (k : Nat) (r t : Int), k ≤ xs.length ∧ i = .int .i64 k ∧ rd = .int .i64 r ∧ GC wr B 0 (levG wt r t) ∧ Hid (Below w.heap.size w wr)) (fun _ i _ => xs.length - (intOf i).toNat)
    case atStart => exact ⟨0, 0, 0, Nat.zero_le _, rfl, rfl, G2, HB4⟩
    case round =>
      obtain ⟨k, r, t, hk, rfl, rfl, hG, HB⟩ := hrel
      clear G2 HB4
      by_cases hlt : k < xs.length
      · obtain ⟨b, off, rfl, hbl, hc⟩ := hr k hlt
        have hcell := (HB.out.cell (p := ⟨b, off + k * 1 + 0, none⟩) hbl).trans (hc 0 _ rfl)
        rw [Nat.mul_one, Nat.add_zero] at hcell
        obtain ⟨b2, off2, rfl, hbl2, hc2⟩ := hr2 k (by omega)
        have hcell2 := hc2 0 _ rfl
        simp only [Nat.mul_one, Nat.add_zero] at hcell2
        generalize xs[k] = cv at hcell
        generalize ys[k] = yv at hcell2
        have hlt2 : k < ys.length := by omega
        clear hc hc2 hr hr2
        have HC2 := Lib.hid hcell2
        clear hcell2
        go_wp2_with fail
        refine (meet_c hG cv).mono ?_
        rintro e w5 ⟨rfl, G3, F3⟩
        have HB5 := below_gate HB F3 (Nat.le_refl _) hge
        clear F3 hG HB hcell
        rw [lev_meet] at G3
        go_wp2_with fail
        refine (tell_c G3).mono ?_
        rintro e w6 ⟨rfl, G4, F4⟩
        have HB6 := below_gate HB5 F4 (Nat.le_refl _) hge
        clear F4 G3 HB5
        rw [lev_tell] at G4
        have hwho : whoG (levG wt (bits .or .i64 r (bits .and .i64 cv 7)) (bits .or .i64 t (bits .and .i64 cv wt))) = if bits .and .i64 (bits .or .i64 r (bits .and .i64 cv 7)) wt = 0 then 0 else 4 := rfl
        rw [lev_mask, hwho]
        clear hwho
        generalize bits .or .i64 r (bits .and .i64 cv 7) = r' at *
        have hmm : (bits .and .i64 r' wt = 0 ∧ (bits .and .i64 r' wt != 0) = false ∧ (bits .and .i64 r' wt == 0) = true) ∨ ((¬ bits .and .i64 r' wt = 0) ∧ (bits .and .i64 r' wt != 0) = true ∧ (bits .and .i64 r' wt == 0) = false) := by
          by_cases h : bits .and .i64 r' wt = 0
          · exact .inl ⟨h, by rw [h]; rfl, by rw [h]; rfl⟩
          · exact .inr ⟨h, bne_iff_ne.mpr h, beq_eq_false_iff_ne.mpr h⟩
        rcases hmm with ⟨hm, hm1, hm2⟩ | ⟨hm, hm1, hm2⟩
        all_goals
          first | rw [if_pos hm] | rw [if_neg hm]
          clear hm
          have HG4 := Lib.hid G4
          clear G4
          go_wp2_with fail
          have hy6 := (HB6.out.cell (p := ⟨b2, off2 + k, none⟩) hbl2).trans HC2.out
          go_region_held3 (fun w' => w'.cell? ⟨b2, off2 + k, none⟩ = some (.int .i64 yv)) (first | exact hy6 | exact hy7) (first | (go_at_call 18; refine (ack_c HG4.out.drew yv).mono ?_; rintro e w7 ⟨rfl, G5, F5⟩; have HB7 := below_gate (Lib.hid HB6.out.drew) F5 (Nat.le_refl _) hge; have hy7 := (HB7.out.cell (p := ⟨b2, off2 + k, none⟩) hbl2).trans HC2.out; have HG5 := Lib.hid G5; clear F5 G5))
          have hre : (levG wt r' (bits .and .i64 r' wt)).ready = r' := rfl
          rw [hre]
          clear hre
          go_wp2
          go_roundw
          case rel => exact ⟨k + 1, _, _, by omega, by go_num, rfl, HG5.out, HB7⟩
          case measure => simp [intOf]; omega
      · go_wp2_with fail
        refine (look_c hG).mono ?_
        rintro e w5 ⟨rfl, F5⟩
        have HB5 := Lib.hid (HB.out.trans (F5.below HB.out.size (fun _ _ _ h => h)))
        clear hG HB F5
        unfold lookV levG
        go_wp2
        go_ret
        exact ⟨by simp, HB5.out⟩
end Go.Proofs.Ytamnibfaoikdbaa
