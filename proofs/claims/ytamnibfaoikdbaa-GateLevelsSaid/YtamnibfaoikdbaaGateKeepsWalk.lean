/- GateKeeps: what is kept and flushed is as what comes at once; a gate that is not open keeps nothing; opened again it has nothing; for every input. No condition. -/
import Derived.Test.YtamnibfaoikdbaaGateEdgesWalk
import Derived.Test.YtamnibfaoikdbaaEq
namespace Go.Proofs.Ytamnibfaoikdbaa
open Go.RowKit
set_option linter.unusedVariables false
set_option linter.unusedSimpArgs false

def keepA (wt md l : Int) : G := ⟨true, 0, l, 3, wt, md, 0⟩
def keepB (wt md r : Int) : G := ⟨true, r, 0, 3, wt, md, bits .and .i64 r wt⟩

theorem eqLook (w : World) (o o' : Bool) (a1 a2 a3 a4 a5 a6 b1 b2 b3 b4 b5 b6 : Int) :
    (Op.equalIn 10000 34 (.agg #[.bool o, .int .i64 a1, .int .i64 a2, .int .u64 a3, .int .i64 a4, .int .i64 a5, .int .i64 a6]) (.agg #[.bool o', .int .i64 b1, .int .i64 b2, .int .u64 b3, .int .i64 b4, .int .i64 b5, .int .i64 b6])).run Try.prog w
      = .ok (o == o' && (a1 == b1 && (a2 == b2 && (a3 == b3 && (a4 == b4 && (a5 == b5 && (a6 == b6 && true))))))) w := by
  refine eqs_of (d := 9999) Try.underlying34 (by kernel_rfl) ?_
  refine eqs_cons (by rfl) (by go_simp; rfl) (by go_simp; rfl) (by go_simp) ?_
  refine eqs_cons (by rfl) (by go_simp; rfl) (by go_simp; rfl) (by go_simp) ?_
  refine eqs_cons (by rfl) (by go_simp; rfl) (by go_simp; rfl) (by go_simp) ?_
  refine eqs_cons (by rfl) (by go_simp; rfl) (by go_simp; rfl) (by go_simp) ?_
  refine eqs_cons (by rfl) (by go_simp; rfl) (by go_simp; rfl) (by go_simp) ?_
  refine eqs_cons (by rfl) (by go_simp; rfl) (by go_simp; rfl) (by go_simp) ?_
  refine eqs_cons (by rfl) (by go_simp; rfl) (by go_simp; rfl) (by go_simp) ?_
  exact eqs_nil
theorem fieldLook1 (w : World) (o : Bool) (a1 a2 a3 a4 a5 a6 : Int) :
    (Instr.field 34 (.agg #[.bool o, .int .i64 a1, .int .i64 a2, .int .u64 a3, .int .i64 a4, .int .i64 a5, .int .i64 a6]) 1).run Try.prog w = .ok (.int .i64 a1) w := by kernel_rfl
theorem fieldLook0 (w : World) (o : Bool) (a1 a2 a3 a4 a5 a6 : Int) :
    (Instr.field 34 (.agg #[.bool o, .int .i64 a1, .int .i64 a2, .int .u64 a3, .int .i64 a4, .int .i64 a5, .int .i64 a6]) 0).run Try.prog w = .ok (.bool o) w := by kernel_rfl

theorem keep_keep (wt md l m : Int) : keepG (keepA wt md l) m = keepA wt md (bits .or .i64 l (bits .and .i64 m 7)) := rfl
theorem keep_meet {wt : Int} (h : 1 ≤ wt ∧ wt ≤ 4) (md r m : Int) : meetG (keepB wt md r) m = keepB wt md (bits .or .i64 r (bits .and .i64 m 7)) := by
  have e : meetG (keepB wt md r) m = ⟨true, bits .or .i64 r (bits .and .i64 m 7), 0, 3, wt, md, bits .or .i64 (bits .and .i64 r wt) (bits .and .i64 m wt)⟩ := rfl
  have e2 : bits .or .i64 (bits .and .i64 r wt) (bits .and .i64 m wt) = bits .and .i64 (bits .or .i64 r (bits .and .i64 m 7)) wt := by
    have h7 := seven h
    rw [or_bv, and_bv (bits .or .i64 r (bits .and .i64 m 7)), bv_and, bv_and, bv_or, bv_and, ← h7]
    congr 1
    ext i hi
    simp
    cases (bv r)[i] <;> cases (bv m)[i] <;> cases (bv 7)[i] <;> cases (bv wt)[i] <;> rfl
  rw [e, e2]
  rfl
theorem keep_noG (m : Int) : keepG noG m = noG := rfl
theorem meet_noG (m : Int) : meetG noG m = noG := rfl
theorem or7 {r : Int} (hr : bits .and .i64 r 7 = r) (m : Int) : bits .and .i64 (bits .or .i64 r (bits .and .i64 m 7)) 7 = bits .or .i64 r (bits .and .i64 m 7) := by
  have h1 : bv r &&& bv 7 = bv r := by rw [← bv_and, hr]
  rw [and_bv, bv_or, bv_and, or_bv, bv_and]
  congr 1
  rw [← h1]
  ext i hi
  simp
  cases (bv r)[i] <;> cases (bv m)[i] <;> cases (bv 7)[i] <;> simp
theorem keep_flush (wt md r : Int) (hr : bits .and .i64 r 7 = r) : flushG (keepA wt md r) = keepB wt md r := by
  have e : flushG (keepA wt md r) = ⟨true, bits .or .i64 0 (bits .and .i64 r 7), 0, 3, wt, md, bits .or .i64 0 (bits .and .i64 r wt)⟩ := rfl
  rw [e, or_zero_and, or_zero_and, hr]
  rfl
theorem keep_start {wt md : Int} (h : 1 ≤ wt ∧ wt ≤ 4) (hm : 0 ≤ md ∧ md ≤ 1) : watchG (openG noG) 3 wt md = keepA wt md 0 := by
  unfold watchG
  rw [if_pos (by unfold watchB openG noG; simp; omega)]
  unfold openG noG keepA
  simp [zero_and]
theorem keep_startB {wt md : Int} (h : 1 ≤ wt ∧ wt ≤ 4) (hm : 0 ≤ md ∧ md ≤ 1) : watchG (openG noG) 3 wt md = keepB wt md 0 := by
  rw [keep_start h hm]
  unfold keepA keepB
  rw [zero_and]
theorem tell_op (g : G) : (tellG g).op = g.op := by unfold tellG; (repeat' split) <;> rfl
theorem mode_bd (m : Int) : 0 ≤ bits .and .i64 m 1 ∧ bits .and .i64 m 1 ≤ 1 := by
  rw [and_mask 1 1 (by decide) (by decide)]
  have h3 := Int.emod_nonneg m (show ((2 ^ 1 : Nat) : Int) ≠ 0 by decide)
  have h4 := Int.emod_lt_of_pos m (show (0 : Int) < ((2 ^ 1 : Nat) : Int) by decide)
  omega

set_option maxRecDepth 100000 in
theorem keeps_walk (want mode : Int) (A : Option Addr) (c : Nat) (xs : List Int) (w : World) (hr : RowAt (fun x : Int => [.int .i64 x]) 1 w A xs) (hsz : xs.length * 8 ≤ 140737488351232) :
    Calls Try.prog 11 #[.int .i64 want, .int .i64 mode, .slice A xs.length c] w fun e w' => e = .returned (.bool true) ∧ Below w.heap.size w w' := by
  by_cases hbig : 30 < xs.length
  · have hb1 : decide ((30 : Int) < (xs.length : Int)) = true := by simp; omega
    go_enter Try.func11, Try.ntmps11
    go_wp2_with fail
    refine (alive_c w).mono ?_
    rintro e w1 ⟨rfl, hB1⟩
    have HB1 := Lib.hid hB1
    clear hB1
    go_wp2
    go_ret
    exact ⟨rfl, HB1.out⟩
  · have hb1 : decide ((30 : Int) < (xs.length : Int)) = false := by simp; omega
    have hw := wantOf_bd want
    have hmd := mode_bd mode
    have hq := eqLook
    have hf1 := fieldLook1
    go_enter Try.func11, Try.ntmps11
    go_wp2_with fail
    refine (alive_c w).mono ?_
    rintro e w1 ⟨rfl, hB1⟩
    have HB1 := Lib.hid hB1
    clear hB1
    go_wp2_with fail
    generalize wrap64 (1 + bits .and .i64 want 3) = wt at *
    generalize bits .and .i64 mode 1 = md at *
    have hge := HB1.out.size
    have Ga := ((GC.new w1 26).alloc (.cells #[.bool false, .int .i64 0, .int .i64 0, .int .u64 0, .int .i64 0, .int .i64 0, .int .i64 0] 26)).alloc (.cells #[.bool false, .int .i64 0, .int .i64 0, .int .u64 0, .int .i64 0, .int .i64 0, .int .i64 0] 26)
    have Gb := (GC.new (w1.alloc (.cells #[.bool false, .int .i64 0, .int .i64 0, .int .u64 0, .int .i64 0, .int .i64 0, .int .i64 0] 26)) 26).alloc (.cells #[.bool false, .int .i64 0, .int .i64 0, .int .u64 0, .int .i64 0, .int .i64 0, .int .i64 0] 26)
    have Gc := GC.new ((w1.alloc (.cells #[.bool false, .int .i64 0, .int .i64 0, .int .u64 0, .int .i64 0, .int .i64 0, .int .i64 0] 26)).alloc (.cells #[.bool false, .int .i64 0, .int .i64 0, .int .u64 0, .int .i64 0, .int .i64 0, .int .i64 0] 26)) 26
    have HB2 := Lib.hid (((HB1.out.alloc hge (.cells #[.bool false, .int .i64 0, .int .i64 0, .int .u64 0, .int .i64 0, .int .i64 0, .int .i64 0] 26)).alloc (by simp; omega) (.cells #[.bool false, .int .i64 0, .int .i64 0, .int .u64 0, .int .i64 0, .int .i64 0, .int .i64 0] 26)).alloc (by simp; omega) (.cells #[.bool false, .int .i64 0, .int .i64 0, .int .u64 0, .int .i64 0, .int .i64 0, .int .i64 0] 26))
    simp only [World.size_alloc] at Gb Gc
    clear HB1
    generalize ((w1.alloc (.cells #[.bool false, .int .i64 0, .int .i64 0, .int .u64 0, .int .i64 0, .int .i64 0, .int .i64 0] 26)).alloc (.cells #[.bool false, .int .i64 0, .int .i64 0, .int .u64 0, .int .i64 0, .int .i64 0, .int .i64 0] 26)).alloc (.cells #[.bool false, .int .i64 0, .int .i64 0, .int .u64 0, .int .i64 0, .int .i64 0, .int .i64 0] 26) = w2 at *
    generalize w1.heap.size = B at *
    refine (open_c Ga).mono ?_
    rintro e w3 ⟨rfl, Ha3, F3⟩
    have HB3 := below_gate HB2 F3 (Nat.le_refl _) (by omega)
    have Hb3 := Gb.fr F3 (fun o _ _ hs => by have := hs.1; omega)
    have Hc3 := Gc.fr F3 (fun o _ _ hs => by have := hs.1; omega)
    clear F3 Ga Gb Gc HB2
    go_wp2_with fail
    refine (open_c Hb3).mono ?_
    rintro e w4 ⟨rfl, Hb4, F4⟩
    have HB4 := below_gate HB3 F4 (Nat.le_refl _) (by omega)
    have Ha4 := Ha3.fr F4 (fun o _ _ hs => by have := hs.1; omega)
    have Hc4 := Hc3.fr F4 (fun o _ _ hs => by have := hs.1; omega)
    clear F4 Ha3 Hb3 Hc3 HB3
    go_wp2_with fail
    refine (watch_c Ha4 3 wt md).mono ?_
    rintro e w5 ⟨rfl, Ha5, F5⟩
    have HB5 := below_gate HB4 F5 (Nat.le_refl _) (by omega)
    have Hb5 := Hb4.fr F5 (fun o _ _ hs => by have := hs.1; omega)
    have Hc5 := Hc4.fr F5 (fun o _ _ hs => by have := hs.1; omega)
    clear F5 Ha4 Hb4 Hc4 HB4
    go_wp2_with fail
    refine (watch_c Hb5 3 wt md).mono ?_
    rintro e w6 ⟨rfl, Hb6, F6⟩
    have HB6 := below_gate HB5 F6 (Nat.le_refl _) (by omega)
    have Ha6 := Ha5.fr F6 (fun o _ _ hs => by have := hs.1; omega)
    have Hc6 := Hc5.fr F6 (fun o _ _ hs => by have := hs.1; omega)
    clear F6 Ha5 Hb5 Hc5 HB5
    rw [keep_start hw hmd] at Ha6
    rw [keep_startB hw hmd] at Hb6
    go_wp2_with fail
    go_loopw [36] (fun i wr => ∃ (k : Nat) (r : Int), k ≤ xs.length ∧ i = .int .i64 k ∧ Hid (bits .and .i64 r 7 = r) ∧ GC wr B 0 (keepA wt md r) ∧ GC wr (B + 1) 0 (keepB wt md r) ∧ GC wr (B + 1 + 1) 0 noG ∧ Hid (Below w.heap.size w wr)) (fun i _ => xs.length - (intOf i).toNat)
    case atStart => exact ⟨0, 0, Nat.zero_le _, rfl, zero_and 7, Ha6, Hb6, Hc6, HB6⟩
    case round =>
      obtain ⟨k, r, hk, rfl, hr7, ga, gb, gc, HB⟩ := hrel
      clear Ha6 Hb6 Hc6 HB6
      by_cases hlt : k < xs.length
      · obtain ⟨b, off, rfl, hbl, hc⟩ := hr k hlt
        have hcell := (HB.out.cell (p := ⟨b, off + k * 1 + 0, none⟩) hbl).trans (hc 0 _ rfl)
        rw [Nat.mul_one, Nat.add_zero] at hcell
        generalize xs[k] = cv at hcell
        clear hc hr
        go_wp2_with fail
        refine (keep_c ga cv).mono ?_
        rintro e w7 ⟨rfl, Ha7, F7⟩
        have HB7 := below_gate HB F7 (Nat.le_refl _) (by omega)
        have Hb7 := gb.fr F7 (fun o _ _ hs => by have := hs.1; omega)
        have Hc7 := gc.fr F7 (fun o _ _ hs => by have := hs.1; omega)
        clear F7 ga gb gc HB
        clear hcell
        rw [keep_keep] at Ha7
        go_wp2_with fail
        refine (meet_c Hb7 cv).mono ?_
        rintro e w8 ⟨rfl, Hb8, F8⟩
        have HB8 := below_gate HB7 F8 (Nat.le_refl _) (by omega)
        have Ha8 := Ha7.fr F8 (fun o _ _ hs => by have := hs.1; omega)
        have Hc8 := Hc7.fr F8 (fun o _ _ hs => by have := hs.1; omega)
        clear F8 Ha7 Hb7 Hc7 HB7
        rw [keep_meet hw] at Hb8
        go_wp2_with fail
        refine (keep_c Hc8 cv).mono ?_
        rintro e w9 ⟨rfl, Hc9, F9⟩
        have HB9 := below_gate HB8 F9 (Nat.le_refl _) (by omega)
        have Ha9 := Ha8.fr F9 (fun o _ _ hs => by have := hs.1; omega)
        have Hb9 := Hb8.fr F9 (fun o _ _ hs => by have := hs.1; omega)
        clear F9 Ha8 Hb8 Hc8 HB8
        rw [keep_noG] at Hc9
        go_wp2_with fail
        refine (meet_c Hc9 cv).mono ?_
        rintro e w10 ⟨rfl, Hc10, F10⟩
        have HB10 := below_gate HB9 F10 (Nat.le_refl _) (by omega)
        have Ha10 := Ha9.fr F10 (fun o _ _ hs => by have := hs.1; omega)
        have Hb10 := Hb9.fr F10 (fun o _ _ hs => by have := hs.1; omega)
        clear F10 Ha9 Hb9 Hc9 HB9
        rw [meet_noG] at Hc10
        have HA := Lib.hid Ha10; have HBb := Lib.hid Hb10; have HC := Lib.hid Hc10; clear Ha10 Hb10 Hc10
        go_wp2
        go_roundw
        case rel => exact ⟨k + 1, _, by omega, by go_num, or7 hr7.out cv, HA.out, HBb.out, HC.out, HB10⟩
        case measure => simp [intOf]; omega
      · have hk0 : k = xs.length := by omega
        by_cases hpos : 0 < xs.length
        · have hop : (tellG (keepB wt md r)).op = true := tell_op _
          have h0 : decide ((0 : Int) < (xs.length : Int)) = true := decide_eq_true (by omega)
          have h0' : decide (0 < xs.length) = true := decide_eq_true (by omega)
          clear hk0
          go_wp2_with fail
          refine (look_c ga).mono ?_
          rintro e w11 ⟨rfl, F11⟩
          have HB11 := Lib.hid (Fr.below_of HB.out F11 (Nat.le_trans (Nat.le_refl _) HB.out.size) (fun _ _ _ h => h))
          have Ha11 := ga.fr F11 (fun _ _ _ h => h)
          have Hb11 := gb.fr F11 (fun _ _ _ h => h)
          have Hc11 := gc.fr F11 (fun _ _ _ h => h)
          clear F11 ga gb gc HB
          unfold lookV
          go_wp2_with fail
          refine (flush_c Ha11).mono ?_
          rintro e w12 ⟨rfl, Ha12, F12⟩
          have HB12 := below_gate HB11 F12 (Nat.le_refl _) (by omega)
          have Hb12 := Hb11.fr F12 (fun o _ _ hs => by have := hs.1; omega)
          have Hc12 := Hc11.fr F12 (fun o _ _ hs => by have := hs.1; omega)
          clear F12 Ha11 Hb11 Hc11 HB11
          rw [keep_flush _ _ _ hr7.out] at Ha12
          go_wp2_with fail
          refine (look_c Ha12).mono ?_
          rintro e w13 ⟨rfl, F13⟩
          have HB13 := Lib.hid (Fr.below_of HB12.out F13 (Nat.le_trans (Nat.le_refl _) HB12.out.size) (fun _ _ _ h => h))
          have Ha13 := Ha12.fr F13 (fun _ _ _ h => h)
          have Hb13 := Hb12.fr F13 (fun _ _ _ h => h)
          have Hc13 := Hc12.fr F13 (fun _ _ _ h => h)
          clear F13 Ha12 Hb12 Hc12 HB12
          unfold lookV
          go_wp2_with fail
          refine (look_c Hb13).mono ?_
          rintro e w14 ⟨rfl, F14⟩
          have HB14 := Lib.hid (Fr.below_of HB13.out F14 (Nat.le_trans (Nat.le_refl _) HB13.out.size) (fun _ _ _ h => h))
          have Ha14 := Ha13.fr F14 (fun _ _ _ h => h)
          have Hb14 := Hb13.fr F14 (fun _ _ _ h => h)
          have Hc14 := Hc13.fr F14 (fun _ _ _ h => h)
          clear F14 Ha13 Hb13 Hc13 HB13
          unfold lookV
          go_wp2_with fail
          refine (look_c Hc14).mono ?_
          rintro e w15 ⟨rfl, F15⟩
          have HB15 := Lib.hid (Fr.below_of HB14.out F15 (Nat.le_trans (Nat.le_refl _) HB14.out.size) (fun _ _ _ h => h))
          have Ha15 := Ha14.fr F15 (fun _ _ _ h => h)
          have Hb15 := Hb14.fr F15 (fun _ _ _ h => h)
          have Hc15 := Hc14.fr F15 (fun _ _ _ h => h)
          clear F15 Ha14 Hb14 Hc14 HB14
          unfold lookV
          go_wp2_with fail
          refine (tell_c Ha15).mono ?_
          rintro e w16 ⟨rfl, Ha16, F16⟩
          have HB16 := below_gate HB15 F16 (Nat.le_refl _) (by omega)
          have Hb16 := Hb15.fr F16 (fun o _ _ hs => by have := hs.1; omega)
          have Hc16 := Hc15.fr F16 (fun o _ _ hs => by have := hs.1; omega)
          clear F16 Ha15 Hb15 Hc15 HB15
          go_wp2_with fail
          refine (tell_c Hb16).mono ?_
          rintro e w17 ⟨rfl, Hb17, F17⟩
          have HB17 := below_gate HB16 F17 (Nat.le_refl _) (by omega)
          have Ha17 := Ha16.fr F17 (fun o _ _ hs => by have := hs.1; omega)
          have Hc17 := Hc16.fr F17 (fun o _ _ hs => by have := hs.1; omega)
          clear F17 Ha16 Hb16 Hc16 HB16
          go_wp2_with fail
          refine (close_c Ha17).mono ?_
          rintro e w18 ⟨rfl, Ha18, F18⟩
          have HB18 := below_gate HB17 F18 (Nat.le_refl _) (by omega)
          have Hb18 := Hb17.fr F18 (fun o _ _ hs => by have := hs.1; omega)
          have Hc18 := Hc17.fr F18 (fun o _ _ hs => by have := hs.1; omega)
          clear F18 Ha17 Hb17 Hc17 HB17
          go_wp2_with fail
          refine (open_c Ha18).mono ?_
          rintro e w19 ⟨rfl, Ha19, F19⟩
          have HB19 := below_gate HB18 F19 (Nat.le_refl _) (by omega)
          have Hb19 := Hb18.fr F19 (fun o _ _ hs => by have := hs.1; omega)
          have Hc19 := Hc18.fr F19 (fun o _ _ hs => by have := hs.1; omega)
          clear F19 Ha18 Hb18 Hc18 HB18
          go_wp2_with fail
          refine (look_c Ha19).mono ?_
          rintro e w20 ⟨rfl, F20⟩
          have HB20 := Lib.hid (Fr.below_of HB19.out F20 (Nat.le_trans (Nat.le_refl _) HB19.out.size) (fun _ _ _ h => h))
          have Ha20 := Ha19.fr F20 (fun _ _ _ h => h)
          have Hb20 := Hb19.fr F20 (fun _ _ _ h => h)
          have Hc20 := Hc19.fr F20 (fun _ _ _ h => h)
          clear F20 Ha19 Hb19 Hc19 HB19
          unfold lookV
          go_wp2
          go_ret
          exact ⟨rfl, HB20.out⟩
        · have hop : (tellG (keepB wt md r)).op = true := tell_op _
          obtain rfl : xs = [] := by simpa using hpos
          simp only [List.length_nil] at hk0
          subst hk0
          go_wp2_with fail
          refine (flush_c ga).mono ?_
          rintro e w21 ⟨rfl, Ha21, F21⟩
          have HB21 := below_gate HB F21 (Nat.le_refl _) (by omega)
          have Hb21 := gb.fr F21 (fun o _ _ hs => by have := hs.1; omega)
          have Hc21 := gc.fr F21 (fun o _ _ hs => by have := hs.1; omega)
          clear F21 ga gb gc HB
          rw [keep_flush _ _ _ hr7.out] at Ha21
          go_wp2_with fail
          refine (look_c Ha21).mono ?_
          rintro e w22 ⟨rfl, F22⟩
          have HB22 := Lib.hid (Fr.below_of HB21.out F22 (Nat.le_trans (Nat.le_refl _) HB21.out.size) (fun _ _ _ h => h))
          have Ha22 := Ha21.fr F22 (fun _ _ _ h => h)
          have Hb22 := Hb21.fr F22 (fun _ _ _ h => h)
          have Hc22 := Hc21.fr F22 (fun _ _ _ h => h)
          clear F22 Ha21 Hb21 Hc21 HB21
          unfold lookV
          go_wp2_with fail
          refine (look_c Hb22).mono ?_
          rintro e w23 ⟨rfl, F23⟩
          have HB23 := Lib.hid (Fr.below_of HB22.out F23 (Nat.le_trans (Nat.le_refl _) HB22.out.size) (fun _ _ _ h => h))
          have Ha23 := Ha22.fr F23 (fun _ _ _ h => h)
          have Hb23 := Hb22.fr F23 (fun _ _ _ h => h)
          have Hc23 := Hc22.fr F23 (fun _ _ _ h => h)
          clear F23 Ha22 Hb22 Hc22 HB22
          unfold lookV
          go_wp2_with fail
          refine (look_c Hc23).mono ?_
          rintro e w24 ⟨rfl, F24⟩
          have HB24 := Lib.hid (Fr.below_of HB23.out F24 (Nat.le_trans (Nat.le_refl _) HB23.out.size) (fun _ _ _ h => h))
          have Ha24 := Ha23.fr F24 (fun _ _ _ h => h)
          have Hb24 := Hb23.fr F24 (fun _ _ _ h => h)
          have Hc24 := Hc23.fr F24 (fun _ _ _ h => h)
          clear F24 Ha23 Hb23 Hc23 HB23
          unfold lookV
          go_wp2_with fail
          refine (tell_c Ha24).mono ?_
          rintro e w25 ⟨rfl, Ha25, F25⟩
          have HB25 := below_gate HB24 F25 (Nat.le_refl _) (by omega)
          have Hb25 := Hb24.fr F25 (fun o _ _ hs => by have := hs.1; omega)
          have Hc25 := Hc24.fr F25 (fun o _ _ hs => by have := hs.1; omega)
          clear F25 Ha24 Hb24 Hc24 HB24
          go_wp2_with fail
          refine (tell_c Hb25).mono ?_
          rintro e w26 ⟨rfl, Hb26, F26⟩
          have HB26 := below_gate HB25 F26 (Nat.le_refl _) (by omega)
          have Ha26 := Ha25.fr F26 (fun o _ _ hs => by have := hs.1; omega)
          have Hc26 := Hc25.fr F26 (fun o _ _ hs => by have := hs.1; omega)
          clear F26 Ha25 Hb25 Hc25 HB25
          go_wp2_with fail
          refine (close_c Ha26).mono ?_
          rintro e w27 ⟨rfl, Ha27, F27⟩
          have HB27 := below_gate HB26 F27 (Nat.le_refl _) (by omega)
          have Hb27 := Hb26.fr F27 (fun o _ _ hs => by have := hs.1; omega)
          have Hc27 := Hc26.fr F27 (fun o _ _ hs => by have := hs.1; omega)
          clear F27 Ha26 Hb26 Hc26 HB26
          go_wp2_with fail
          refine (open_c Ha27).mono ?_
          rintro e w28 ⟨rfl, Ha28, F28⟩
          have HB28 := below_gate HB27 F28 (Nat.le_refl _) (by omega)
          have Hb28 := Hb27.fr F28 (fun o _ _ hs => by have := hs.1; omega)
          have Hc28 := Hc27.fr F28 (fun o _ _ hs => by have := hs.1; omega)
          clear F28 Ha27 Hb27 Hc27 HB27
          go_wp2_with fail
          refine (look_c Ha28).mono ?_
          rintro e w29 ⟨rfl, F29⟩
          have HB29 := Lib.hid (Fr.below_of HB28.out F29 (Nat.le_trans (Nat.le_refl _) HB28.out.size) (fun _ _ _ h => h))
          have Ha29 := Ha28.fr F29 (fun _ _ _ h => h)
          have Hb29 := Hb28.fr F29 (fun _ _ _ h => h)
          have Hc29 := Hc28.fr F29 (fun _ _ _ h => h)
          clear F29 Ha28 Hb28 Hc28 HB28
          unfold lookV
          go_wp2
          go_ret
          exact ⟨rfl, HB29.out⟩
end Go.Proofs.Ytamnibfaoikdbaa
