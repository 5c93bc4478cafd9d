/- PlanLonger. No condition. -/
import Derived.Test.YtnlbcgonegeofaaPlB
import Derived.Deep.RegionHeld3
import Derived.Deep.DeepCutAuto
namespace Go.Proofs.Ytnlbcgonegeofaa
open Go.RowKit
set_option linter.unusedVariables false
set_option linter.unusedSimpArgs false
set_option maxRecDepth 100000

theorem andi8 (x : Int) : Go.bits .and .i64 x 255 = x % 256 := and_mask 8 255 (by decide) (by decide) x
theorem andi4 (x : Int) : Go.bits .and .i64 x 15 = x % 16 := and_mask 4 15 (by decide) (by decide) x
def slE : Enc Sl where
  t := 46
  sz := 2
  f := Sl.cells
  z := .agg #[.int .i64 0, .int .i64 0]
  bytes := 16
  len := fun x => rfl
  one := fun x v h => by simp [Sl.cells] at h; rcases h with rfl | rfl <;> rfl
  info := by kernel_rfl
  zs := rfl
  pos := by decide
  small := by decide

set_option maxHeartbeats 8000000 in
theorem longer9_walk (A : Option Addr) (c : Nat) (xs : List Sl) (tn oi ni : Int) (W : World) (r : RowAt Sl.cells 2 W A xs) (z : xs.length * 16 ≤ 140737488351232) :
    Calls Try.prog 8 #[.slice A xs.length c, .int .i64 tn, .int .i64 oi, .int .i64 ni] W fun e w' => e = .returned (.bool true) ∧ Below W.heap.size W w' := by
  have key1 : Hid (∀ X, Below W.heap.size W X → SlA X A xs) := Lib.hid fun X hX => r.below hX
  have HB := Lib.hid (Below.refl W.heap.size W)
  have hl : Hid (xs.length ≤ 4611686018427387904) := Lib.hid (by omega)
  obtain ⟨n, hn⟩ : ∃ n, n = xs.length := ⟨_, rfl⟩
  rw [← hn]
  clear r
  by_cases hg1 : 8 < n
  · obtain ⟨d1, d1n⟩ : decide ((8 : Int) < (n : Int)) = true ∧ decide (8 < n) = true := ⟨decide_eq_true (by omega), decide_eq_true hg1⟩
    clear hg1 hn z
    go_enter Try.func8, Try.ntmps8
    go_wp2_with (first | (go_at_call 9; with_reducible refine (alive09_c _).mono ?_; rintro e w4 ⟨rfl, F⟩; have HB2 := Lib.hid (belT HB.out F); replace HB := HB2; clear HB2; clear F) | fail)
    go_ret
    exact ⟨rfl, HB.out⟩
  obtain ⟨d1, d1n⟩ : decide ((8 : Int) < (n : Int)) = false ∧ decide (8 < n) = false := ⟨decide_eq_false (by omega), decide_eq_false (by omega)⟩
  have hn8 : Hid (n ≤ 8) := Lib.hid (by omega)
  replace hn := Lib.hid hn
  by_cases hok : Ok xs tn
  rotate_left
  · have K := Lib.hid hok
    have hR := Lib.hid (okR_no hok)
    clear hok hg1 z
    go_enter Try.func8, Try.ntmps8
    go_wp2_with (first | (go_at_call 9; with_reducible refine (alive09_c _).mono ?_; rintro e w4 ⟨rfl, F⟩; have HB2 := Lib.hid (belT HB.out F); replace HB := HB2; clear HB2; clear F) | (go_at_call 11; with_reducible refine (right_C (key1.out _ HB.out) hl.out hn.out hR.out).mono ?_; rintro e w4 ⟨rfl, rfl⟩) | fail)
    go_ret
    exact ⟨rfl, HB.out⟩
  have K := Lib.hid hok
  have G := Lib.hid hok.gd
  have hR := Lib.hid (okR_yes hok)
  obtain ⟨N, rfl⟩ := Int.eq_ofNat_of_zero_le (show 0 ≤ tn by have := hok.t1; omega)
  have hN8 : 1 ≤ N ∧ N ≤ 8 := by have := hok.t1; have := hok.t2; omega
  obtain ⟨C, hC⟩ : ∃ C, C = cyc xs := ⟨_, rfl⟩
  have hCb : C ≤ 70000 := by rw [hC]; exact cyc_bd hok.gd
  obtain ⟨q, hq⟩ : ∃ q : Nat, oi % 256 = (q : Int) := ⟨(oi % 256).toNat, by omega⟩
  have hm1 := Lib.hid ((andi8 oi).trans hq)
  obtain ⟨o, hoo, r1, r2, r3, r4, r5, r6, r7⟩ := rem_facts (a := q) (show 0 < N by omega)
  obtain ⟨p, hp⟩ : ∃ p : Nat, ni % 16 = (p : Int) := ⟨(ni % 16).toNat, by omega⟩
  have hm2 := Lib.hid ((andi4 ni).trans hp)
  obtain ⟨k, hk⟩ : ∃ k, k = p + 1 := ⟨_, rfl⟩
  have He1 := Lib.hid (isuc' (a := p) (d := k) hk.symm (by omega))
  have e2 : IntKind.i64.wrap (o : Int) = (o : Int) := by rw [IntKind.wrap_i64]; omega
  have hs1 : (0 : Int) ≤ (⟨(o : Int), (k : Int)⟩ : Sl).owner ∧ (⟨(o : Int), (k : Int)⟩ : Sl).owner < (N : Int) := ⟨by simp, by simp; omega⟩
  have hs2 : (1 : Int) ≤ (⟨(o : Int), (k : Int)⟩ : Sl).len ∧ (⟨(o : Int), (k : Int)⟩ : Sl).len ≤ 1000 := ⟨by simp; omega, by simp; omega⟩
  have hok2 := ok_app hok (by have := hn.out; have := hn8.out; omega) hs1 hs2
  obtain ⟨ys, hys⟩ : ∃ ys, ys = xs ++ [(⟨(o : Int), (k : Int)⟩ : Sl)] := ⟨_, rfl⟩
  rw [← hys] at hok2
  have K2 := Lib.hid hok2
  have G2 := Lib.hid hok2.gd
  obtain ⟨n2, hn2⟩ : ∃ n2, n2 = ys.length := ⟨_, rfl⟩
  obtain ⟨C2, hC2⟩ : ∃ C2, C2 = cyc ys := ⟨_, rfl⟩
  have hCC : C2 = C + k := by rw [hC2, hC, hys, cyc_app]; rfl
  have hkn : (⟨(o : Int), (k : Int)⟩ : Sl).n = k := by simp [Sl.n]
  have hat : Hid (∀ t, t ≤ C → atO ys t = atO xs t ∧ atE ys t = atE xs t) := Lib.hid (fun t ht => by rw [hys]; exact at_app hok.gd (by rw [← hys]; exact hok2.gd) (by rw [← hC]; exact ht))
  have hat2 : Hid (∀ y, y < k → atO ys (C + y + 1) = (o : Int) ∧ atE ys (C + y + 1) = decide (y + 1 = k)) := Lib.hid (fun y hy => by
    have := at_app_last (xs := xs) (s := ⟨(o : Int), (k : Int)⟩) (by rw [← hys]; exact hok2.gd) (y := y) (by rw [hkn]; exact hy)
    rw [hkn, ← hys, ← hC] at this
    exact this)
  have hnb := Lib.hid (show xs.length ≤ 8 by have := hn.out; have := hn8.out; omega)
  have e3 : IntKind.u64.wrap (k : Int) = (k : Int) := wrapU (by omega)
  have e4 := Lib.hid (wadd (a := C) (b := k) (d := C2) hCC.symm (by unfold U64; omega))
  obtain ⟨C1, hC1⟩ : ∃ C1, C1 = C + 1 := ⟨_, rfl⟩
  have e5 := Lib.hid (wsuc (a := C) (d := C1) hC1.symm (by unfold U64; omega))
  have hbig := Lib.hid (And.intro hCb (And.intro hC1 (And.intro hk hCC)))
  have hp16 : Hid (p < 16) := Lib.hid (by omega)
  replace hys := Lib.hid hys; replace hn2 := Lib.hid hn2; replace hC := Lib.hid hC; replace hC2 := Lib.hid hC2
  clear hok hg1 z hoo hq hp hN8 hs1 hs2 hok2 hkn hCb hC1 hk hCC
  replace hm1 := hm1.out; replace hm2 := hm2.out
  obtain ⟨e1, e1n⟩ := He1.out
  replace e4 := e4.out
  replace e5 := e5.out
  go_enter Try.func8, Try.ntmps8
  go_upto_region 7 with (first | (go_at_call 9; with_reducible refine (alive09_c _).mono ?_; rintro e w4 ⟨rfl, F⟩; have HB2 := Lib.hid (belT HB.out F); replace HB := HB2; clear HB2; clear F) | (go_at_call 11; with_reducible refine (right_C (key1.out _ HB.out) hl.out hn.out hR.out).mono ?_; rintro e w4 ⟨rfl, rfl⟩) | (go_at_call 10; with_reducible refine (of_ok (key1.out _ HB.out) hn.out K.out hC.out).mono ?_; rintro e w4 ⟨A1, c1, rfl, P1, F1⟩; replace P1 := Lib.hid P1; replace F1 := Lib.hid F1) | fail)
  have PV := Lib.hid (PVar.new (n := n) (c := c1) (C := C) P1.out)
  have HB2 := Lib.hid (belA (belT HB.out F1.out) (.cells #[.slice A1 n c1, .int .u64 C] 27))
  replace HB := HB2
  clear F1 P1 HB2
  generalize w4.alloc (.cells #[.slice A1 n c1, .int .u64 C] 27) = W0 at *
  generalize w4.heap.size = B at *
  have E0 := Lib.hid (show OwnE slE (W0.alloc (.cells #[] 46)) W0.heap.size (.slice (some ⟨W0.heap.size, 0, none⟩) 0 0) [] from OwnE.lit (E := slE) W0 W0.heap.size (Nat.le_refl _) [] #[] rfl (by simp))
  have HR := Lib.hid (show RowAt slE.f slE.sz (W0.alloc (.cells #[] 46)) A xs from key1.out _ (belA HB.out _))
  have HB2 := Lib.hid (belA (Below.refl W0.heap.size W0) (.cells #[] 46))
  go_wp2_with (first | (at_builtin; refine append_rowE (E := slE) (ys := xs) (xs := []) rfl rfl Try.underlying22 rfl E0.out rfl HR.out hn.out (by simp) (by have := hnb.out; omega) (by simp) ?_))
  intro v' w1 G1 G2 G3 G4
  replace G1 : OwnE slE w1 W0.heap.size v' xs := G1
  have HB3 := Lib.hid (HB2.out.trans G2)
  obtain ⟨A3, c3, rfl, _⟩ := G1.slice
  have P := Lib.hid (G1.alloc (.cells #[.int .i64 o, .int .i64 k] 46))
  have Q := Lib.hid (rowAt_new1 (E := slE) (B := w1.heap.size) w1 #[.int .i64 o, .int .i64 k] 46 ⟨(o : Int), (k : Int)⟩ rfl rfl)
  have HB4 := Lib.hid (belA HB3.out (.cells #[.int .i64 o, .int .i64 k] 46))
  clear G1 G2 G3 G4 HB2 HB3 E0 HR
  go_wp2_with (first | (at_builtin; refine append_rowE (E := slE) (ys := [⟨(o : Int), (k : Int)⟩]) (xs := xs) rfl rfl Try.underlying22 rfl P.out rfl Q.out rfl (by have := hnb.out; omega) (by simp) HB4.out.size ?_))
  intro v2 w2 G1 G2' G3 G4
  rw [← hys.out] at G1
  have HB5 := Lib.hid (HB4.out.trans G2')
  obtain ⟨A4, c4, rfl, _⟩ := G1.slice
  rw [← hn2.out] at G1
  rw [← hn2.out]
  have HR2 := Lib.hid (show SlA w2 A4 ys from G1.row.1)
  have PV2 := Lib.hid (PV.out.bel HB5.out)
  have HB6 := Lib.hid (belT HB.out HB5.out)
  clear G1 G2' G3 G4 P Q HB4 HB5 PV HB
  clear hm1 hm2 e1 e1n r1 r2 r3 r4 r5 r6
  go_upto_region 8 with (first | (go_at_call 10; with_reducible refine (of_ok HR2.out hn2.out K2.out hC2.out).mono ?_; rintro e w4 ⟨A2, c2, rfl, P1, F1⟩; replace P1 := Lib.hid P1; replace F1 := Lib.hid F1) | fail)
  have PVq0 := Lib.hid (PVar.new (n := n2) (c := c2) (C := C2) P1.out)
  have HB7 := Lib.hid (belT HB6.out (belA F1.out (.cells #[.slice A2 n2 c2, .int .u64 C2] 27)))
  have PV3 := Lib.hid (PV2.out.bel (belA F1.out (.cells #[.slice A2 n2 c2, .int .u64 C2] 27)))
  clear F1 P1 HB6 PV2 HR2
  generalize w4.alloc (.cells #[.slice A2 n2 c2, .int .u64 C2] 27) = V0 at *
  generalize w4.heap.size = Bq at *
  have keyS : Hid (∀ X, Below V0.heap.size V0 X → PVar X B A1 n c1 C xs ∧ PVar X Bq A2 n2 c2 C2 ys ∧ Below W.heap.size W X) := Lib.hid fun X hX => ⟨PV3.out.bel hX, PVq0.out.bel hX, belT HB7.out hX⟩
  have S := Lib.hid (Below.refl V0.heap.size V0)
  clear PVq0 PV3 HB7
  have z0 := (keyS.out _ S.out).1.c0; have z1 := (keyS.out _ S.out).1.c1; have z2 := (keyS.out _ S.out).2.1.c0; have z3 := (keyS.out _ S.out).2.1.c1
  by_cases h200 : 200 < C
  · obtain ⟨x1, x1n⟩ : decide ((200 : Int) < (C : Int)) = true ∧ decide (200 < C) = true := ⟨decide_eq_true (by omega), decide_eq_true h200⟩
    clear h200
    go_wp2_with (first | (go_at_call 12; with_reducible refine (cyc_C _).mono ?_; rintro e w4 ⟨rfl, F⟩; have S2 := Lib.hid (belT S.out F); replace S := S2; clear S2 F; have z0 := (keyS.out _ S.out).1.c0; have z1 := (keyS.out _ S.out).1.c1; have z2 := (keyS.out _ S.out).2.1.c0; have z3 := (keyS.out _ S.out).2.1.c1) | fail)
    go_ret
    exact ⟨rfl, (keyS.out _ S.out).2.2⟩
  obtain ⟨x1, x1n⟩ : decide ((200 : Int) < (C : Int)) = false ∧ decide (200 < C) = false := ⟨decide_eq_false (by omega), decide_eq_false (by omega)⟩
  have hC200 := Lib.hid (show C ≤ 200 by omega)
  clear h200
  go_upto_region 11 with (first | (go_at_call 12; with_reducible refine (cyc_C _).mono ?_; rintro e w4 ⟨rfl, F⟩; have S2 := Lib.hid (belT S.out F); replace S := S2; clear S2 F; have z0 := (keyS.out _ S.out).1.c0; have z1 := (keyS.out _ S.out).1.c1; have z2 := (keyS.out _ S.out).2.1.c0; have z3 := (keyS.out _ S.out).2.1.c1) | fail)
  clear x1 x1n z0 z1 z2 z3
  go_loopw [70] (fun iv wr => ∃ i : Nat, iv = .int .u64 i ∧ Hid (i ≤ C1) ∧ Hid (Below V0.heap.size V0 wr)) (fun iv _ => C1 - (intOf iv).toNat)
  case atStart => exact ⟨0, rfl, Lib.hid (Nat.zero_le _), S⟩
  case round =>
    clear S
    obtain ⟨i, rfl, hi, S⟩ := hrel
    by_cases hlt : i < C1
    · obtain ⟨g1, g1n⟩ := dlt_t hlt
      have z0 := (keyS.out _ S.out).1.c0; have z1 := (keyS.out _ S.out).1.c1; have z2 := (keyS.out _ S.out).2.1.c0; have z3 := (keyS.out _ S.out).2.1.c1
      obtain ⟨oa, hoa⟩ : ∃ oa, atO xs i = oa := ⟨_, rfl⟩
      obtain ⟨be, hbe⟩ : ∃ be, atE xs i = be := ⟨_, rfl⟩
      have h9 := hat.out i (by have := hbig.out; omega)
      rw [hoa, hbe] at h9
      obtain ⟨h91, h92⟩ := h9
      have hiU : Hid (i < U64) := Lib.hid (by have := hbig.out; have := hC200.out; unfold U64; omega)
      have f3 := wsuc (a := i) (d := i + 1) rfl (by have := hbig.out; have := hC200.out; unfold U64; omega)
      have x2 : (be != be) = false := by simp
      replace hoa := Lib.hid hoa; replace hbe := Lib.hid hbe; replace h91 := Lib.hid h91; replace h92 := Lib.hid h92
      have hlt2 := Lib.hid hlt
      clear hlt
      go_wp2_with (first | (go_at_call 13; with_reducible refine (at_C G.out hn.out hC.out (keyS.out _ S.out).1.pl rfl hiU.out hoa.out hbe.out).mono ?_; rintro e w4 ⟨rfl, F⟩; have S2 := Lib.hid (belT S.out F); replace S := S2; clear S2 F; have z0 := (keyS.out _ S.out).1.c0; have z1 := (keyS.out _ S.out).1.c1; have z2 := (keyS.out _ S.out).2.1.c0; have z3 := (keyS.out _ S.out).2.1.c1) | (go_at_call 13; with_reducible refine (at_C G2.out hn2.out hC2.out (keyS.out _ S.out).2.1.pl rfl hiU.out h91.out h92.out).mono ?_; rintro e w4 ⟨rfl, F⟩; have S2 := Lib.hid (belT S.out F); replace S := S2; clear S2 F; have z0 := (keyS.out _ S.out).1.c0; have z1 := (keyS.out _ S.out).1.c1; have z2 := (keyS.out _ S.out).2.1.c0; have z3 := (keyS.out _ S.out).2.1.c1) | fail)
      go_roundw
      case rel => exact ⟨i + 1, (by first | rfl | go_num), Lib.hid hlt2.out, S⟩
      case measure => have := hlt2.out; simp [intOf]; omega
    · obtain rfl : i = C1 := by have := hi.out; omega
      obtain ⟨g1, g1n⟩ := dlt_f (Nat.le_refl i)
      clear hlt hi
      have HK := Lib.hid hbig.out.2.2
      go_upto_region 19 with fail
      clear g1 g1n
      go_loopw [96] (fun yv wr => ∃ y : Nat, yv = .int .u64 y ∧ Hid (y ≤ k) ∧ Hid (Below V0.heap.size V0 wr)) (fun yv _ => k - (intOf yv).toNat)
      case atStart => exact ⟨0, rfl, Lib.hid (Nat.zero_le _), S⟩
      case round =>
        clear S
        obtain ⟨y, rfl, hy, S⟩ := hrel
        have z0 := (keyS.out _ S.out).1.c0; have z1 := (keyS.out _ S.out).1.c1; have z2 := (keyS.out _ S.out).2.1.c0; have z3 := (keyS.out _ S.out).2.1.c1
        by_cases hlt : y < k
        · obtain ⟨g1, g1n⟩ := dlt_t hlt
          obtain ⟨ta, hta⟩ : ∃ ta, ta = C + y := ⟨_, rfl⟩
          obtain ⟨tb, htb⟩ : ∃ tb, tb = ta + 1 := ⟨_, rfl⟩
          obtain ⟨km, hkm⟩ : ∃ km, k = km + 1 := ⟨k - 1, by omega⟩
          have b0 := hC200.out; have b1 := HK.out; have b2 := hp16.out
          have f1 := wadd (a := C) (b := y) (d := ta) hta.symm (by unfold U64; omega)
          have f2 := wsuc (a := ta) (d := tb) htb.symm (by unfold U64; omega)
          have f3 := wsuc (a := y) (d := y + 1) rfl (by unfold U64; omega)
          have f4 : IntKind.u64.wrap ((k : Int) - 1) = (km : Int) := by rw [wrapU (by omega)]; omega
          have f5 : ((y : Int) == (km : Int)) = decide (y + 1 = k) := by by_cases h : y + 1 = k <;> simp [h] <;> omega
          have f6 : (y == km) = decide (y + 1 = k) := by by_cases h : y + 1 = k <;> simp [h] <;> omega
          have h9 := hat2.out y hlt
          rw [← hta, ← htb] at h9
          obtain ⟨h91, h92⟩ := h9
          obtain ⟨be, hbe⟩ : ∃ be, be = decide (y + 1 = k) := ⟨_, rfl⟩
          rw [← hbe] at f5 f6 h92
          have x2 : (be != be) = false := by simp
          have htU : Hid (tb < U64) := Lib.hid (by unfold U64; omega)
          replace h91 := Lib.hid h91; replace h92 := Lib.hid h92; replace hbe := Lib.hid hbe; replace hta := Lib.hid hta; replace htb := Lib.hid htb; replace hkm := Lib.hid hkm
          have SD := Lib.hid (belD S.out)
          have hlt2 := Lib.hid hlt
          clear b0 b1 b2 hlt
          go_upto_region 21 with fail
          go_cut [19, 20] (fun a b wx => a = .int .i64 (o : Int) ∧ b = .bool be ∧ Hid (Below V0.heap.size V0 wx))
          case first =>
            go_region_held3 (fun w' => w'.cell? ⟨B, 0, none⟩ = some (.slice A1 n c1) ∧ w'.cell? ⟨B, 1, none⟩ = some (.int .u64 C) ∧ w'.cell? ⟨Bq, 0, none⟩ = some (.slice A2 n2 c2) ∧ w'.cell? ⟨Bq, 1, none⟩ = some (.int .u64 C2)) (first | exact ⟨(keyS.out _ SD.out).1.c0, (keyS.out _ SD.out).1.c1, (keyS.out _ SD.out).2.1.c0, (keyS.out _ SD.out).2.1.c1⟩ | exact ⟨(keyS.out _ S6.out).1.c0, (keyS.out _ S6.out).1.c1, (keyS.out _ S6.out).2.1.c0, (keyS.out _ S6.out).2.1.c1⟩ | exact ⟨(keyS.out _ S7.out).1.c0, (keyS.out _ S7.out).1.c1, (keyS.out _ S7.out).2.1.c0, (keyS.out _ S7.out).2.1.c1⟩) (first
              | (go_at_call 12; refine (cyc_C _).mono ?_; rintro e w6 ⟨rfl, F⟩; have S6 := Lib.hid (belT SD.out F); clear F)
              | (go_at_call 13; refine (at_C G2.out hn2.out hC2.out (keyS.out _ S6.out).2.1.pl rfl htU.out h91.out h92.out).mono ?_; rintro e w7 ⟨rfl, F⟩; have S7 := Lib.hid (belT S6.out F); clear F)
              | fail)
            all_goals (go_wp2_with fail; go_meet)
            all_goals exact ⟨rfl, rfl, S7⟩
          case rest =>
            obtain ⟨rfl, rfl, S7⟩ := hcut
            clear S SD z0 z1 z2 z3
            go_wp2_with fail
            go_roundw
            case rel => exact ⟨y + 1, (by first | rfl | go_num), Lib.hid hlt2.out, S7⟩
            case measure => have := hlt2.out; simp [intOf]; omega
        · obtain rfl : y = k := by have := hy.out; omega
          obtain ⟨g1, g1n⟩ := dlt_f (Nat.le_refl y)
          have SD := Lib.hid (belD S.out)
          clear hlt hy
          go_upto_region 25 with fail
          go_cut [8] (fun a wx => a = .bool true ∧ Hid (Below V0.heap.size V0 wx))
          case first =>
            go_region_held3 (fun w' => w'.cell? ⟨B, 0, none⟩ = some (.slice A1 n c1) ∧ w'.cell? ⟨B, 1, none⟩ = some (.int .u64 C) ∧ w'.cell? ⟨Bq, 0, none⟩ = some (.slice A2 n2 c2) ∧ w'.cell? ⟨Bq, 1, none⟩ = some (.int .u64 C2)) (first | exact ⟨(keyS.out _ SD.out).1.c0, (keyS.out _ SD.out).1.c1, (keyS.out _ SD.out).2.1.c0, (keyS.out _ SD.out).2.1.c1⟩ | exact ⟨(keyS.out _ S6.out).1.c0, (keyS.out _ S6.out).1.c1, (keyS.out _ S6.out).2.1.c0, (keyS.out _ S6.out).2.1.c1⟩ | exact ⟨(keyS.out _ S7.out).1.c0, (keyS.out _ S7.out).1.c1, (keyS.out _ S7.out).2.1.c0, (keyS.out _ S7.out).2.1.c1⟩ | exact ⟨(keyS.out _ S8.out).1.c0, (keyS.out _ S8.out).1.c1, (keyS.out _ S8.out).2.1.c0, (keyS.out _ S8.out).2.1.c1⟩) (first
              | (go_at_call 12; refine (cyc_C _).mono ?_; rintro e w6 ⟨rfl, F⟩; first | (have S7 := Lib.hid (belT S6.out F); clear F) | (have S6 := Lib.hid (belT SD.out F); clear F))
              | fail)
            all_goals (go_wp2_with fail; go_meet)
            all_goals exact ⟨rfl, S7⟩
          case rest =>
            obtain ⟨rfl, S7⟩ := hcut
            go_wp2_with fail
            go_ret
            exact ⟨rfl, (keyS.out _ S7.out).2.2⟩
end Go.Proofs.Ytnlbcgonegeofaa
