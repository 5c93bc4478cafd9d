/- PlanKths. No condition. -/
import Derived.Test.YtnlbcgonegeofaaPlB
namespace Go.Proofs.Ytnlbcgonegeofaa
open Go.RowKit
set_option linter.unusedVariables false
set_option linter.unusedSimpArgs false
set_option maxRecDepth 100000

set_option maxHeartbeats 8000000 in
theorem kths9_walk (A : Option Addr) (c : Nat) (xs : List Sl) (tn who ti ki tui : Int) (W : World) (r : RowAt Sl.cells 2 W A xs) (z : xs.length * 16 ≤ 140737488351232) (wt : (Lit.int .u64 ti).wf = true) :
    Calls Try.prog 6 #[.slice A xs.length c, .int .i64 tn, .int .i64 who, .int .u64 ti, .int .i64 ki, .int .i64 tui] W fun e w' => e = .returned (.bool true) ∧ Below W.heap.size W w' := by
  obtain ⟨t, rfl, ht⟩ := wf_u64 wt
  have key1 : Hid (∀ X, Below W.heap.size W X → SlA X A xs) := Lib.hid fun X hX => r.below hX
  have HB := Lib.hid (Below.refl W.heap.size W)
  have hl : Hid (xs.length ≤ 4611686018427387904) := Lib.hid (by omega)
  obtain ⟨n, hn⟩ : ∃ n, n = xs.length := ⟨_, rfl⟩
  rw [← hn]
  clear r
  by_cases hg1 : 8 < n
  · obtain ⟨d1, d1n⟩ : decide ((8 : Int) < (n : Int)) = true ∧ decide (8 < n) = true := ⟨decide_eq_true (by omega), decide_eq_true hg1⟩
    clear hg1 hn z wt ht
    go_enter Try.func6, Try.ntmps6
    go_wp2_with (first | (go_at_call 9; with_reducible refine (alive09_c _).mono ?_; rintro e w4 ⟨rfl, F⟩; have HB2 := Lib.hid (belT HB.out F); replace HB := HB2; clear HB2; clear F) | fail)
    go_ret
    exact ⟨rfl, HB.out⟩
  obtain ⟨d1, d1n⟩ : decide ((8 : Int) < (n : Int)) = false ∧ decide (8 < n) = false := ⟨decide_eq_false (by omega), decide_eq_false (by omega)⟩
  have hn8 : Hid (n ≤ 8) := Lib.hid (by omega)
  replace hn := Lib.hid hn
  replace ht := Lib.hid ht
  by_cases hok : Ok xs tn
  rotate_left
  · have K := Lib.hid hok
    have hR := Lib.hid (okR_no hok)
    clear hok hg1 z wt
    go_enter Try.func6, Try.ntmps6
    go_wp2_with (first | (go_at_call 9; with_reducible refine (alive09_c _).mono ?_; rintro e w4 ⟨rfl, F⟩; have HB2 := Lib.hid (belT HB.out F); replace HB := HB2; clear HB2; clear F) | (go_at_call 11; with_reducible refine (right_C (key1.out _ HB.out) hl.out hn.out hR.out).mono ?_; rintro e w4 ⟨rfl, rfl⟩) | fail)
    go_ret
    exact ⟨rfl, HB.out⟩
  have K := Lib.hid hok
  have G := Lib.hid hok.gd
  have hR := Lib.hid (okR_yes hok)
  by_cases hw : who < 0 ∨ tn ≤ who
  · have two : (decide (who < 0) = true) ∨ (decide (who < 0) = false ∧ decide (tn ≤ who) = true) := by
      by_cases h0 : who < 0
      · exact .inl (decide_eq_true h0)
      · exact .inr ⟨decide_eq_false h0, decide_eq_true (by omega)⟩
    clear hok hg1 z wt hw
    rcases two with y1 | ⟨y1, y2⟩
    all_goals
      go_enter Try.func6, Try.ntmps6
      go_wp2_with (first | (go_at_call 9; with_reducible refine (alive09_c _).mono ?_; rintro e w4 ⟨rfl, F⟩; have HB2 := Lib.hid (belT HB.out F); replace HB := HB2; clear HB2; clear F) | (go_at_call 11; with_reducible refine (right_C (key1.out _ HB.out) hl.out hn.out hR.out).mono ?_; rintro e w4 ⟨rfl, rfl⟩) | fail)
      go_ret
      exact ⟨rfl, HB.out⟩
  have y1 : decide (who < 0) = false := decide_eq_false (by omega)
  have y2 : decide (tn ≤ who) = false := decide_eq_false (by omega)
  have ho := hok.has who (by omega) (by omega)
  obtain ⟨C, hC⟩ : ∃ C, C = cyc xs := ⟨_, rfl⟩
  have hCb : C ≤ 70000 := by rw [hC]; exact cyc_bd hok.gd
  obtain ⟨T, hT⟩ : ∃ T : Nat, T = t % 1125899906842624 := ⟨_, rfl⟩
  have hm : Go.bits .and .u64 (t : Int) 1125899906842623 = (T : Int) := by
    rw [and50 (by have := ht.out; unfold U64 at this; omega)]; omega
  replace hm := Lib.hid hm
  have hTb : T < 1125899906842624 := by omega
  obtain ⟨q, hq⟩ : ∃ q : Nat, ki % 1073741824 = (q : Int) := ⟨(ki % 1073741824).toNat, by omega⟩
  have hm2 := Lib.hid ((andi30 ki).trans hq)
  obtain ⟨U, hU⟩ : ∃ U : Nat, tui % 1024 = (U : Int) := ⟨(tui % 1024).toNat, by omega⟩
  have hm3 := Lib.hid ((andi10 tui).trans hU)
  have hUb : U < 1024 := by omega
  obtain ⟨k, hk⟩ : ∃ k, k = q + 1 := ⟨_, rfl⟩
  have hkb : 1 ≤ k ∧ k ≤ 1073741824 := by omega
  have He1 := Lib.hid (isuc' (a := q) (d := k) hk.symm (by omega))
  obtain ⟨k1, hk1⟩ : ∃ k1, k1 = k + 1 := ⟨_, rfl⟩
  have He2 := Lib.hid (isuc (a := k) (d := k1) hk1.symm (by omega))
  obtain ⟨m, hmm⟩ : ∃ m, m = mineN xs who := ⟨_, rfl⟩
  have hmb : m ≤ 70 := by rw [hmm]; have := mineN_le xs who; have := hok.gd.small; omega
  have hUmb : U * m ≤ 1024 * 70 := Nat.mul_le_mul (by omega) hmb
  have hUCb : U * C ≤ 1024 * 70000 := Nat.mul_le_mul (by omega) hCb
  obtain ⟨um, hum⟩ : ∃ um, um = U * m := ⟨_, rfl⟩
  have He3 := Lib.hid (imul (a := U) (b := m) (d := um) hum.symm (by omega))
  obtain ⟨k2, hk2⟩ : ∃ k2, k2 = k + um := ⟨_, rfl⟩
  have He4 := Lib.hid (isum (a := k) (b := um) (d := k2) hk2.symm (by omega))
  obtain ⟨T1, hT1⟩ : ∃ T1, T1 = T + 1 := ⟨_, rfl⟩
  have e5 := Lib.hid (wsuc (a := T) (d := T1) hT1.symm (by unfold U64; omega))
  obtain ⟨va, vb, vc, vd, s, e, v1, v2, v3, v4, v5, v6, o1, o2, o3, o4, o5, o6, o7⟩ := kths_vals hok.gd ho hTb hkb hUb
  obtain ⟨s1, hs1⟩ : ∃ s1, s1 = s + 1 := ⟨_, rfl⟩
  have e6 := Lib.hid (wsuc (a := s) (d := s1) hs1.symm (by unfold U64; omega))
  rw [← hk1] at v2; rw [← hT1] at v3; rw [← hmm, ← hum, ← hk2] at v4; rw [← hs1] at v6
  rw [← hC] at o4
  obtain ⟨uc, huc⟩ : ∃ uc, uc = U * C := ⟨_, rfl⟩
  have e7 := Lib.hid (umul (a := U) (b := C) (d := uc) huc.symm (by unfold U64; omega))
  rw [← huc] at o4
  have e8 := Lib.hid (wadd (a := va) (b := uc) (d := vd) o4.symm (by unfold U64; omega))
  have e9 : IntKind.u64.wrap (U : Int) = (U : Int) := wrapU (by omega)
  have Hl1 := Lib.hid (dlt_t o1)
  have Hl2 := Lib.hid (dle_t o2)
  have Hl3 := Lib.hid (dle_t o3)
  have kb1 : Hid (-9223372036854775808 ≤ (k : Int) ∧ (k : Int) < 9223372036854775808) := Lib.hid (by omega)
  have kb2 : Hid (-9223372036854775808 ≤ (k1 : Int) ∧ (k1 : Int) < 9223372036854775808) := Lib.hid (by omega)
  have kb3 : Hid (-9223372036854775808 ≤ (k2 : Int) ∧ (k2 : Int) < 9223372036854775808) := Lib.hid (by omega)
  have tb1 : Hid (T < U64) := Lib.hid (by unfold U64; omega)
  have tb2 : Hid (T1 < U64) := Lib.hid (by unfold U64; omega)
  have tb3 : Hid (s1 < U64) := Lib.hid (by unfold U64; omega)
  replace v1 := Lib.hid v1; replace v2 := Lib.hid v2; replace v3 := Lib.hid v3; replace v4 := Lib.hid v4; replace v5 := Lib.hid v5; replace v6 := Lib.hid v6
  replace hC := Lib.hid hC; replace hmm := Lib.hid hmm; replace hmb := Lib.hid hmb
  have key9 : Hid (∀ j, mineN (xs.take j) who ≤ 70) := Lib.hid (fun j => by have h1 := mineN_le (xs.take j) who; have := hok.gd.small; rw [List.length_take] at h1; omega)
  clear hok hg1 z wt hw ho hCb hT hTb hq hU hUb hk hkb hk1 hUmb hUCb hum hk2 hT1 o1 o2 o3 o4 o5 o6 o7 hs1 huc
  replace hm := hm.out; replace hm2 := hm2.out; replace hm3 := hm3.out
  obtain ⟨e1, e1n⟩ := He1.out
  obtain ⟨e2, e2n⟩ := He2.out
  obtain ⟨e3, e3n⟩ := He3.out
  obtain ⟨e4, e4n⟩ := He4.out
  obtain ⟨l1, l1n⟩ := Hl1.out
  obtain ⟨l2, l2n⟩ := Hl2.out
  obtain ⟨l3, l3n⟩ := Hl3.out
  replace e5 := e5.out
  replace e6 := e6.out
  replace e7 := e7.out
  replace e8 := e8.out
  go_enter Try.func6, Try.ntmps6
  go_upto_region 6 with (first | (go_at_call 9; with_reducible refine (alive09_c _).mono ?_; rintro e w4 ⟨rfl, F⟩; have HB2 := Lib.hid (belT HB.out F); replace HB := HB2; clear HB2; clear F) | (go_at_call 11; with_reducible refine (right_C (key1.out _ HB.out) hl.out hn.out hR.out).mono ?_; rintro e w4 ⟨rfl, rfl⟩) | (go_at_call 10; with_reducible refine (of_ok (key1.out _ HB.out) hn.out K.out hC.out).mono ?_; rintro e w4 ⟨A1, c1, rfl, P1, F1⟩; replace P1 := Lib.hid P1; replace F1 := Lib.hid F1) | fail)
  have PV := Lib.hid (PVar.new (n := n) (c := c1) (C := C) P1.out)
  have HB2 := Lib.hid (belA (belT HB.out F1.out) (.cells #[.slice A1 n c1, .int .u64 C] 27))
  replace HB := HB2
  clear F1 P1 HB2
  generalize w4.alloc (.cells #[.slice A1 n c1, .int .u64 C] 27) = W0 at *
  generalize w4.heap.size = B at *
  go_upto_region 10 with fail
  clear hm hm2 hm3
  go_loopw [15, 66] (fun mv jv wr => ∃ j : Nat, jv = .int .i64 j ∧ mv = .int .i64 (mineN (xs.take j) who : Nat) ∧ Hid (j ≤ n) ∧ Hid (PVar wr B A1 n c1 C xs) ∧ Hid (Below W.heap.size W wr)) (fun _ jv _ => n - (intOf jv).toNat)
  case atStart => exact ⟨0, rfl, by simp [mineN], Lib.hid (Nat.zero_le _), PV, HB⟩
  case round =>
    clear PV HB
    obtain ⟨j, rfl, rfl, hj, PV, HB⟩ := hrel
    by_cases hlt : j < n
    · have hlt' : j < xs.length := by rw [← hn.out]; exact hlt
      obtain ⟨b, off, hA, hbs, c0, c1⟩ := (key1.out _ HB.out).at hlt'
      subst hA
      obtain ⟨O, hO⟩ : ∃ O, O = xs[j].owner := ⟨_, rfl⟩
      obtain ⟨L, hL⟩ : ∃ L, L = xs[j].len := ⟨_, rfl⟩
      rw [← hO] at c0
      rw [← hL] at c1
      have hmt := mineN_take who hlt'
      rw [← hO] at hmt
      have hB2 := Lib.hid (belA HB.out (.cells #[.int .i64 O, .int .i64 L] 46))
      have PV2 := Lib.hid (PV.out.bel (belA (Below.refl wr.heap.size wr) (.cells #[.int .i64 O, .int .i64 L] 46)))
      obtain ⟨mj, hmj⟩ : ∃ mj, mj = mineN (xs.take j) who := ⟨_, rfl⟩
      have hmj70 := key9.out j
      rw [← hmj] at hmt hmj70 ⊢
      by_cases how : O = who
      · rw [if_pos how] at hmt
        have x1 : (O == who) = true := beq_iff_eq.mpr how
        obtain ⟨x2, x3⟩ := isuc (a := mj) (d := mj + 1) rfl (by omega)
        replace hmt := Lib.hid hmt
        have hlt2 := Lib.hid hlt
        have hj9 : j ≤ 8 := by have := hn8.out; omega
        clear how hO hL hmj e1 e2 e3 e4 e5 e6 e7 e8 e9 l1 l2 l3 y1 y2 e1n e2n e3n e4n l1n l2n l3n PV HB
        go_wp2
        go_roundw
        case rel => exact ⟨j + 1, by go_num, by rw [hmt.out]; (first | rfl | go_num), Lib.hid hlt2.out, PV2, hB2⟩
        case measure => simp [intOf]; omega
      · rw [if_neg how, Nat.add_zero] at hmt
        have x1 : (O == who) = false := beq_eq_false_iff_ne.mpr how
        replace hmt := Lib.hid hmt
        have hlt2 := Lib.hid hlt
        have hj9 : j ≤ 8 := by have := hn8.out; omega
        clear how hO hL hmj e1 e2 e3 e4 e5 e6 e7 e8 e9 l1 l2 l3 y1 y2 e1n e2n e3n e4n l1n l2n l3n PV HB
        go_wp2
        go_roundw
        case rel => exact ⟨j + 1, by go_num, by rw [hmt.out]; (first | rfl | go_num), Lib.hid hlt2.out, PV2, hB2⟩
        case measure => simp [intOf]; omega
    · obtain rfl : j = n := by have := hj.out; omega
      have hmj : m = mineN (xs.take j) who := by rw [hmm.out, hn.out, List.take_length]
      rw [← hmj]
      replace hmj := Lib.hid hmj
      have z0 := PV.out.c0
      have z1 := PV.out.c1
      clear hlt
      go_wp2_with (first | (go_at_call 18; with_reducible refine (kth_C G.out hn.out hC.out PV.out.pl who rfl tb1.out kb1.out v1.out).mono ?_; rintro e w4 ⟨rfl, F⟩; have HB2 := Lib.hid (belT HB.out F); replace HB := HB2; clear HB2; have PV2 := Lib.hid (PV.out.bel F); replace PV := PV2; clear PV2; have z0 := PV.out.c0; have z1 := PV.out.c1; clear F) | (go_at_call 18; with_reducible refine (kth_C G.out hn.out hC.out PV.out.pl who rfl tb1.out kb2.out v2.out).mono ?_; rintro e w4 ⟨rfl, F⟩; have HB2 := Lib.hid (belT HB.out F); replace HB := HB2; clear HB2; have PV2 := Lib.hid (PV.out.bel F); replace PV := PV2; clear PV2; have z0 := PV.out.c0; have z1 := PV.out.c1; clear F) | (go_at_call 18; with_reducible refine (kth_C G.out hn.out hC.out PV.out.pl who rfl tb2.out kb1.out v3.out).mono ?_; rintro e w4 ⟨rfl, F⟩; have HB2 := Lib.hid (belT HB.out F); replace HB := HB2; clear HB2; have PV2 := Lib.hid (PV.out.bel F); replace PV := PV2; clear PV2; have z0 := PV.out.c0; have z1 := PV.out.c1; clear F) | (go_at_call 18; with_reducible refine (kth_C G.out hn.out hC.out PV.out.pl who rfl tb1.out kb3.out v4.out).mono ?_; rintro e w4 ⟨rfl, F⟩; have HB2 := Lib.hid (belT HB.out F); replace HB := HB2; clear HB2; have PV2 := Lib.hid (PV.out.bel F); replace PV := PV2; clear PV2; have z0 := PV.out.c0; have z1 := PV.out.c1; clear F) | (go_at_call 16; with_reducible refine (next_C G.out hn.out hC.out PV.out.pl who rfl tb1.out v5.out).mono ?_; rintro e w4 ⟨rfl, F⟩; have HB2 := Lib.hid (belT HB.out F); replace HB := HB2; clear HB2; have PV2 := Lib.hid (PV.out.bel F); replace PV := PV2; clear PV2; have z0 := PV.out.c0; have z1 := PV.out.c1; clear F) | (go_at_call 18; with_reducible refine (kth_C G.out hn.out hC.out PV.out.pl who rfl tb3.out kb1.out v6.out).mono ?_; rintro e w4 ⟨rfl, F⟩; have HB2 := Lib.hid (belT HB.out F); replace HB := HB2; clear HB2; have PV2 := Lib.hid (PV.out.bel F); replace PV := PV2; clear PV2; have z0 := PV.out.c0; have z1 := PV.out.c1; clear F) | (go_at_call 12; with_reducible refine (cyc_C _).mono ?_; rintro e w4 ⟨rfl, F⟩; have HB2 := Lib.hid (belT HB.out F); replace HB := HB2; clear HB2; have PV2 := Lib.hid (PV.out.bel F); replace PV := PV2; clear PV2; have z0 := PV.out.c0; have z1 := PV.out.c1; clear F) | fail)
      go_ret
      exact ⟨rfl, HB.out⟩
end Go.Proofs.Ytnlbcgonegeofaa
