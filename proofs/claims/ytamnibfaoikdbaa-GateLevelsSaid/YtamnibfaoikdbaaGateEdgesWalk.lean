/- GateEdges: watched by its edges, a gate tells once what came since it was told last; for every input. No condition. -/
import Derived.Test.YtamnibfaoikdbaaGateOncesWalk
namespace Go.Proofs.Ytamnibfaoikdbaa
open Go.RowKit
set_option linter.unusedVariables false
set_option linter.unusedSimpArgs false

def edgeG (wt r o : Int) : G := ⟨true, r, 0, 4, wt, 1, o⟩

theorem seven {wt : Int} (h : 1 ≤ wt ∧ wt ≤ 4) : bv 7 &&& bv wt = bv wt := by
  obtain rfl | rfl | rfl | rfl : wt = 1 ∨ wt = 2 ∨ wt = 3 ∨ wt = 4 := by omega
  all_goals decide
theorem and7 {wt : Int} (h : 1 ≤ wt ∧ wt ≤ 4) (c : Int) : bits .and .i64 (bits .and .i64 c 7) wt = bits .and .i64 c wt := by
  rw [and_bv, bv_and, BitVec.and_assoc, seven h, ← and_bv]

theorem edge_start {wt b : Int} (h : 1 ≤ wt ∧ wt ≤ 4) : watchG (meetG (openG noG) b) 4 wt 1 = edgeG wt (bits .or .i64 0 (bits .and .i64 b 7)) (bits .and .i64 b wt) := by
  have e : meetG (openG noG) b = ⟨true, bits .or .i64 0 (bits .and .i64 b 7), 0, 0, 0, 0, bits .or .i64 0 (bits .and .i64 b 0)⟩ := rfl
  rw [e]
  unfold watchG
  rw [if_pos (by unfold watchB; simp; omega)]
  unfold edgeG
  rw [or_zero_and, and7 h]
theorem edge_watchB {wt b : Int} (h : 1 ≤ wt ∧ wt ≤ 4) : watchB (meetG (openG noG) b) wt 1 = true := by
  unfold watchB
  have e : (meetG (openG noG) b).op = true := rfl
  rw [e]; simp; omega
theorem edge_meet (wt r o c : Int) : meetG (edgeG wt r o) c = edgeG wt (bits .or .i64 r (bits .and .i64 c 7)) (bits .or .i64 o (bits .and .i64 c wt)) := rfl
theorem edge_keep {wt : Int} (h : 1 ≤ wt ∧ wt ≤ 4) (r o c : Int) : flushG (keepG (edgeG wt r o) c) = edgeG wt (bits .or .i64 r (bits .and .i64 (bits .or .i64 0 (bits .and .i64 c 7)) 7)) (bits .or .i64 o (bits .and .i64 c wt)) := by
  have e : flushG (keepG (edgeG wt r o) c) = edgeG wt (bits .or .i64 r (bits .and .i64 (bits .or .i64 0 (bits .and .i64 c 7)) 7)) (bits .or .i64 o (bits .and .i64 (bits .or .i64 0 (bits .and .i64 c 7)) wt)) := rfl
  rw [e, or_zero_and, and7 h]
theorem edge_mask (wt r o : Int) : maskG (edgeG wt r o) = o := rfl
theorem edge_tell (wt r o : Int) : tellG (edgeG wt r o) = edgeG wt r 0 := rfl

set_option maxRecDepth 100000 in
theorem edges_walk (want before : Int) (A : Option Addr) (c : Nat) (xs : List Int) (A3 : Option Addr) (c3 : Nat) (ks : List Bool) (w : World) (hr : RowAt (fun x : Int => [.int .i64 x]) 1 w A xs) (hr3 : RowAt (fun x : Bool => [.bool x]) 1 w A3 ks) (hsz : xs.length * 8 ≤ 140737488351232) (hsz3 : ks.length * 1 ≤ 140737488351232) :
    Calls Try.prog 10 #[.int .i64 want, .int .i64 before, .slice A xs.length c, .slice A3 ks.length c3] w fun e w' => e = .returned (.bool true) ∧ Below w.heap.size w w' := by
  by_cases hbig : 30 < xs.length
  · have hb1 : decide ((30 : Int) < (xs.length : Int)) = true := by simp; omega
    go_enter Try.func10, Try.ntmps10
    go_wp2_with fail
    refine (alive_c w).mono ?_
    rintro e w1 ⟨rfl, hB1⟩
    have HB1 := Lib.hid hB1
    clear hB1
    go_wp2
    go_ret
    exact ⟨rfl, HB1.out⟩
  by_cases hfew : ks.length < xs.length
  · have hb1 : decide ((30 : Int) < (xs.length : Int)) = false := by simp; omega
    have hb2 : decide (ks.length < xs.length) = true := by simp; omega
    go_enter Try.func10, Try.ntmps10
    go_wp2_with fail
    refine (alive_c w).mono ?_
    rintro e w1 ⟨rfl, hB1⟩
    have HB1 := Lib.hid hB1
    clear hB1
    go_wp2
    go_ret
    exact ⟨rfl, HB1.out⟩
  · have hb1 : decide ((30 : Int) < (xs.length : Int)) = false := by simp; omega
    have hb2 : decide (ks.length < xs.length) = false := by simp; omega
    have hw := wantOf_bd want
    go_enter Try.func10, Try.ntmps10
    go_wp2_with fail
    refine (alive_c w).mono ?_
    rintro e w1 ⟨rfl, hB1⟩
    have HB1 := Lib.hid hB1
    clear hB1
    go_wp2_with fail
    generalize wrap64 (1 + bits .and .i64 want 3) = wt at *
    have hge := HB1.out.size
    have G0 := GC.new w1 26
    have HB2 := Lib.hid (HB1.out.alloc hge (.cells #[.bool false, .int .i64 0, .int .i64 0, .int .u64 0, .int .i64 0, .int .i64 0, .int .i64 0] 26))
    clear HB1
    generalize w1.alloc (.cells #[.bool false, .int .i64 0, .int .i64 0, .int .u64 0, .int .i64 0, .int .i64 0, .int .i64 0] 26) = w2 at *
    generalize w1.heap.size = B at *
    refine (open_c G0).mono ?_
    rintro e w3 ⟨rfl, G1, F1⟩
    have HB3 := below_gate HB2 F1 (Nat.le_refl _) hge
    clear F1 G0 HB2
    go_wp2_with fail
    refine (meet_c G1 before).mono ?_
    rintro e w4 ⟨rfl, G2, F2⟩
    have HB4 := below_gate HB3 F2 (Nat.le_refl _) hge
    clear F2 G1 HB3
    go_wp2_with fail
    refine (watch_c G2 4 wt 1).mono ?_
    rintro e w5 ⟨rfl, G3, F3⟩
    have HB5 := below_gate HB4 F3 (Nat.le_refl _) hge
    clear F3 G2 HB4
    rw [edge_start hw] at G3
    rw [edge_watchB hw]
    go_wp2_with fail
    go_loopw [10, 42] (fun op i wr => ∃ (k : Nat) (r o : Int), k ≤ xs.length ∧ i = .int .i64 k ∧ op = .int .i64 o ∧ GC wr B 0 (edgeG wt r o) ∧ Hid (Below w.heap.size w wr)) (fun _ i _ => xs.length - (intOf i).toNat)
    case atStart => exact ⟨0, _, _, Nat.zero_le _, rfl, rfl, G3, HB5⟩
    case round =>
      obtain ⟨k, r, o, hk, rfl, rfl, hG, HB⟩ := hrel
      clear G3 HB5
      by_cases hlt : k < xs.length
      · obtain ⟨b, off, rfl, hbl, hc⟩ := hr k hlt
        have hcell := (HB.out.cell (p := ⟨b, off + k * 1 + 0, none⟩) hbl).trans (hc 0 _ rfl)
        rw [Nat.mul_one, Nat.add_zero] at hcell
        obtain ⟨b3, off3, rfl, hbl3, hc3⟩ := hr3 k (by omega)
        have hcell3 := (HB.out.cell (p := ⟨b3, off3 + k * 1 + 0, none⟩) hbl3).trans (hc3 0 _ rfl)
        rw [Nat.mul_one, Nat.add_zero] at hcell3
        generalize xs[k] = cv at hcell
        generalize ks[k] = kv at hcell3
        clear hc hc3 hr hr3
        have hlt3 : k < ks.length := by omega
        have fin : ∀ (e : Ending) (w' : World), True := fun _ _ => trivial
        cases kv
        · go_wp2_with fail
          refine (meet_c hG cv).mono ?_
          rintro e w6 ⟨rfl, G4, F4⟩
          have HB6 := below_gate HB F4 (Nat.le_refl _) hge
          clear F4 hG HB hcell hcell3
          rw [edge_meet] at G4
          by_cases hp : bits .and .i64 k 1 = 0
          · have hp1 : (bits .and .i64 (k : Int) 1 == 0) = true := beq_iff_eq.mpr hp
            clear hp
            have HG4 := Lib.hid G4
            clear G4
            go_wp2
            go_roundw
            case rel => exact ⟨k + 1, _, _, by omega, by go_num, rfl, HG4.out, HB6⟩
            case measure => simp [intOf]; omega
          · have hp1 : (bits .and .i64 (k : Int) 1 == 0) = false := beq_eq_false_iff_ne.mpr hp
            clear hp
            go_wp2_with fail
            refine (tell_c G4).mono ?_
            rintro e w7 ⟨rfl, G5, F5⟩
            have HB7 := below_gate HB6 F5 (Nat.le_refl _) hge
            clear F5 G4 HB6
            rw [edge_mask]
            rw [edge_tell] at G5
            go_wp2_with fail
            refine (tell_c G5).mono ?_
            rintro e w8 ⟨rfl, G6, F6⟩
            have HB8 := below_gate HB7 F6 (Nat.le_refl _) hge
            clear F6 G5 HB7
            rw [edge_mask]
            rw [edge_tell] at G6
            have HG6 := Lib.hid G6
            clear G6
            go_wp2
            go_roundw
            case rel => exact ⟨k + 1, _, _, by omega, by go_num, rfl, HG6.out, HB8⟩
            case measure => simp [intOf]; omega
        · go_wp2_with fail
          refine (keep_c hG cv).mono ?_
          rintro e w5 ⟨rfl, G4, F4⟩
          have HB6 := below_gate HB F4 (Nat.le_refl _) hge
          clear F4 hG HB hcell hcell3
          go_wp2_with fail
          refine (flush_c G4).mono ?_
          rintro e w6 ⟨rfl, G4', F4⟩
          have HB6' := below_gate HB6 F4 (Nat.le_refl _) hge
          clear F4 G4 HB6
          rw [edge_keep hw] at G4'
          by_cases hp : bits .and .i64 k 1 = 0
          · have hp1 : (bits .and .i64 (k : Int) 1 == 0) = true := beq_iff_eq.mpr hp
            clear hp
            have HG4 := Lib.hid G4'
            clear G4'
            go_wp2
            go_roundw
            case rel => exact ⟨k + 1, _, _, by omega, by go_num, rfl, HG4.out, HB6'⟩
            case measure => simp [intOf]; omega
          · have hp1 : (bits .and .i64 (k : Int) 1 == 0) = false := beq_eq_false_iff_ne.mpr hp
            clear hp
            go_wp2_with fail
            refine (tell_c G4').mono ?_
            rintro e w7 ⟨rfl, G5, F5⟩
            have HB7 := below_gate HB6' F5 (Nat.le_refl _) hge
            clear F5 G4' HB6'
            rw [edge_mask]
            rw [edge_tell] at G5
            go_wp2_with fail
            refine (tell_c G5).mono ?_
            rintro e w8 ⟨rfl, G6, F6⟩
            have HB8 := below_gate HB7 F6 (Nat.le_refl _) hge
            clear F6 G5 HB7
            rw [edge_mask]
            rw [edge_tell] at G6
            have HG6 := Lib.hid G6
            clear G6
            go_wp2
            go_roundw
            case rel => exact ⟨k + 1, _, _, by omega, by go_num, rfl, HG6.out, HB8⟩
            case measure => simp [intOf]; omega
      · go_wp2_with fail
        refine (wants_c hG).mono ?_
        rintro e w' ⟨rfl, rfl⟩
        have ho : (edgeG wt r o).told = o := rfl
        rw [ho]
        clear hG ho
        go_wp2
        go_ret
        exact ⟨by simp, HB.out⟩
end Go.Proofs.Ytamnibfaoikdbaa
