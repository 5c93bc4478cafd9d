/- GateOnces: a gate that is watched once tells once, and then nobody watches it; for every input. No condition. -/
import Derived.Test.YtamnibfaoikdbaaGateAlive
import Derived.Test.YtamnibfaoikdbaaRow
import Derived.Test.YtamnibfaoikdbaaBits
namespace Go.Proofs.Ytamnibfaoikdbaa
open Go.RowKit
set_option linter.unusedVariables false
set_option linter.unusedSimpArgs false

theorem wantOf_bd (want : Int) : 1 ≤ wrap64 (1 + bits .and .i64 want 3) ∧ wrap64 (1 + bits .and .i64 want 3) ≤ 4 := by
  rw [and_mask 2 3 (by decide) (by decide)]
  unfold wrap64
  have h3 := Int.emod_nonneg want (show ((2 ^ 2 : Nat) : Int) ≠ 0 by decide)
  have h4 := Int.emod_lt_of_pos want (show (0 : Int) < ((2 ^ 2 : Nat) : Int) by decide)
  omega

/-- The gate behind so many rounds. -/
def onceG (wt : Int) (told : Nat) (r : Int) : G := if told = 0 then ⟨true, r, 0, 4, wt, 2, 0⟩ else ⟨true, r, 0, 0, 0, 0, 0⟩

theorem once_mask0 (wt r c : Int) : maskG (meetG (onceG wt 0 r) c) = bits .and .i64 c wt := by
  simp only [onceG, meetG, maskG, if_true, or_zero_and]
  rfl
theorem once_who0 {wt r c : Int} : whoG (meetG (onceG wt 0 r) c) = if bits .and .i64 c wt = 0 then 0 else 4 := by
  unfold whoG
  rw [once_mask0]
  rfl
theorem once_tell0 {wt r c : Int} (h : bits .and .i64 c wt = 0) : tellG (meetG (onceG wt 0 r) c) = onceG wt 0 (bits .or .i64 r (bits .and .i64 c 7)) := by
  simp only [onceG, meetG, tellG, if_true, or_zero_and, h]
  rfl
theorem once_tell0' {wt r c : Int} (h : ¬ bits .and .i64 c wt = 0) : tellG (meetG (onceG wt 0 r) c) = onceG wt 1 (bits .or .i64 r (bits .and .i64 c 7)) := by
  simp only [onceG, meetG, tellG, if_true, or_zero_and, if_neg h]
  rfl
theorem once_mask1 (wt r c : Int) : maskG (meetG (onceG wt 1 r) c) = 0 := by
  simp only [onceG, meetG, maskG, if_true, Nat.one_ne_zero, if_false, and_zero]
theorem once_who1 {wt r c : Int} : whoG (meetG (onceG wt 1 r) c) = 0 := by
  unfold whoG
  rw [once_mask1, if_pos rfl]
theorem once_tell1 {wt r c : Int} : tellG (meetG (onceG wt 1 r) c) = onceG wt 1 (bits .or .i64 r (bits .and .i64 c 7)) := by
  simp only [onceG, meetG, tellG, if_true, Nat.one_ne_zero, if_false, and_zero]

set_option maxRecDepth 100000 in
theorem onces_walk (want : Int) (A : Option Addr) (c : Nat) (xs : List Int) (w : World) (hr : RowAt (fun x : Int => [.int .i64 x]) 1 w A xs) (hsz : xs.length * 8 ≤ 140737488351232) :
    Calls Try.prog 3 #[.int .i64 want, .slice A xs.length c] w fun e w' => e = .returned (.bool true) ∧ Below w.heap.size w w' := by
  by_cases hbig : 30 < xs.length
  · have hb1 : decide ((30 : Int) < (xs.length : Int)) = true := by simp; omega
    go_enter Try.func3, Try.ntmps3
    go_wp2_with fail
    refine (alive_c w).mono ?_
    rintro e w1 ⟨rfl, hB1⟩
    have HB1 := Lib.hid hB1
    clear hB1
    go_wp2
    go_ret
    exact ⟨rfl, HB1.out⟩
  · have hb1 : decide ((30 : Int) < (xs.length : Int)) = false := by simp; omega
    have hw := wantOf_bd want
    go_enter Try.func3, Try.ntmps3
    go_wp2_with fail
    refine (alive_c w).mono ?_
    rintro e w1 ⟨rfl, hB1⟩
    have HB1 := Lib.hid hB1
    clear hB1
    go_wp2_with fail
    generalize wrap64 (1 + bits .and .i64 want 3) = wt at *
    have hwb : watchB (openG noG) wt 2 = true := by unfold watchB openG noG; simp; omega
    have hge := HB1.out.size
    have G0 := GC.new w1 26
    have HB2 := Lib.hid (HB1.out.alloc hge (.cells #[.bool false, .int .i64 0, .int .i64 0, .int .u64 0, .int .i64 0, .int .i64 0, .int .i64 0] 26))
    clear HB1
    generalize w1.alloc (.cells #[.bool false, .int .i64 0, .int .i64 0, .int .u64 0, .int .i64 0, .int .i64 0, .int .i64 0] 26) = w2 at *
    generalize w1.heap.size = B at *
    refine (open_c G0).mono ?_
    rintro e w3 ⟨rfl, G1, F1⟩
    have HB3 := below_gate HB2 F1 (Nat.le_refl _) hge
    clear F1 G0 HB2
    go_wp2_with fail
    refine (watch_c G1 4 wt 2).mono ?_
    rintro e w4 ⟨rfl, G2, F2⟩
    have HB4 := below_gate HB3 F2 (Nat.le_refl _) hge
    clear F2 G1 HB3
    have hs : watchG (openG noG) 4 wt 2 = onceG wt 0 0 := by
      unfold watchG; rw [if_pos hwb]; unfold openG noG onceG; simp [zero_and]
    rw [hs] at G2
    rw [hwb]
    clear hs hwb
    go_wp2_with fail
    go_loopw [6, 24] (fun told i wr => ∃ (k t : Nat) (r : Int), k ≤ xs.length ∧ t ≤ 1 ∧ i = .int .i64 k ∧ told = .int .i64 t ∧ GC wr B 0 (onceG wt t r) ∧ Hid (Below w.heap.size w wr)) (fun _ i _ => xs.length - (intOf i).toNat)
    case atStart => exact ⟨0, 0, 0, Nat.zero_le _, by omega, rfl, rfl, G2, HB4⟩
    case round =>
      obtain ⟨k, t, r, hk, ht, rfl, rfl, hG, HB⟩ := hrel
      clear G2 HB4
      by_cases hlt : k < xs.length
      · obtain ⟨b, off, rfl, hbl, hc⟩ := hr k hlt
        have hcell := (HB.out.cell (p := ⟨b, off + k * 1 + 0, none⟩) hbl).trans (hc 0 _ rfl)
        rw [Nat.mul_one, Nat.add_zero] at hcell
        generalize xs[k] = cv at hcell
        clear hc
        go_wp2_with fail
        refine (meet_c hG cv).mono ?_
        rintro e w5 ⟨rfl, G3, F3⟩
        have HB5 := below_gate HB F3 (Nat.le_refl _) hge
        clear F3 hG HB hcell hr
        go_wp2_with fail
        refine (tell_c G3).mono ?_
        rintro e w6 ⟨rfl, G4, F4⟩
        have HB6 := below_gate HB5 F4 (Nat.le_refl _) hge
        clear F4 G3 HB5
        by_cases ht0 : t = 0
        · subst ht0
          rw [once_mask0, once_who0]
          by_cases hm : bits .and .i64 cv wt = 0
          · rw [once_tell0 hm] at G4
            rw [if_pos hm]
            have HG4 := Lib.hid G4
            clear G4
            go_wp2
            go_roundw
            case rel => exact ⟨k + 1, 0, _, by omega, by omega, by go_num, rfl, HG4.out, HB6⟩
            case measure => simp [intOf]; omega
          · rw [once_tell0' hm] at G4
            rw [if_neg hm]
            have HG4 := Lib.hid G4
            clear G4
            have hm1 : (bits .and .i64 cv wt != 0) = true := bne_iff_ne.mpr hm
            clear hm
            go_wp2
            go_roundw
            case rel => exact ⟨k + 1, 1, _, by omega, by omega, by go_num, by go_num, HG4.out, HB6⟩
            case measure => simp [intOf]; omega
        · obtain rfl : t = 1 := by omega
          rw [once_mask1, once_who1]
          rw [once_tell1] at G4
          have HG4 := Lib.hid G4
          clear G4 ht0
          go_wp2
          go_roundw
          case rel => exact ⟨k + 1, 1, _, by omega, by omega, by go_num, by go_num, HG4.out, HB6⟩
          case measure => simp [intOf]; omega
      · go_wp2_with fail
        refine (unwatch_c hG).mono ?_
        rintro e w5 ⟨rfl, G3, F3⟩
        have HB5 := below_gate HB F3 (Nat.le_refl _) hge
        clear F3 hG HB G3
        by_cases ht0 : t = 0
        · subst ht0
          have hwn : ((onceG wt 0 r).want != 0) = true := bne_iff_ne.mpr (show ¬ wt = 0 by omega)
          rw [hwn]
          clear hwn
          go_wp2
          go_ret
          exact ⟨rfl, HB5.out⟩
        · obtain rfl : t = 1 := by omega
          have hwn : ((onceG wt 1 r).want != 0) = false := rfl
          rw [hwn]
          clear hwn ht0
          go_wp2
          go_ret
          exact ⟨rfl, HB5.out⟩
end Go.Proofs.Ytamnibfaoikdbaa
