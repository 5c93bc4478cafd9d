/- PlanCounts. No condition. -/
import Derived.Test.YtnlbcgonegeofaaPlB
namespace Go.Proofs.Ytnlbcgonegeofaa
open Go.RowKit
set_option linter.unusedVariables false
set_option linter.unusedSimpArgs false
set_option maxRecDepth 100000

set_option maxHeartbeats 8000000 in
theorem counts9_walk (A : Option Addr) (c : Nat) (xs : List Sl) (tn who ti : Int) (W : World) (r : RowAt Sl.cells 2 W A xs) (z : xs.length * 16 ≤ 140737488351232) (wt : (Lit.int .u64 ti).wf = true) :
    Calls Try.prog 7 #[.slice A xs.length c, .int .i64 tn, .int .i64 who, .int .u64 ti] W fun e w' => e = .returned (.bool true) ∧ Below W.heap.size W w' := by
  obtain ⟨t, rfl, ht⟩ := wf_u64 wt
  have key1 : Hid (∀ X, Below W.heap.size W X → SlA X A xs) := Lib.hid fun X hX => r.below hX
  have HB := Lib.hid (Below.refl W.heap.size W)
  have hl : Hid (xs.length ≤ 4611686018427387904) := Lib.hid (by omega)
  obtain ⟨n, hn⟩ : ∃ n, n = xs.length := ⟨_, rfl⟩
  rw [← hn]
  clear r
  by_cases hg1 : 8 < n
  · obtain ⟨d1, d1n⟩ : decide ((8 : Int) < (n : Int)) = true ∧ decide (8 < n) = true := ⟨decide_eq_true (by omega), decide_eq_true hg1⟩
    clear hg1 hn z wt ht
    go_enter Try.func7, Try.ntmps7
    go_wp2_with (first | (go_at_call 9; with_reducible refine (alive09_c _).mono ?_; rintro e w4 ⟨rfl, F⟩; have HB2 := Lib.hid (belT HB.out F); replace HB := HB2; clear HB2; clear F) | fail)
    go_ret
    exact ⟨rfl, HB.out⟩
  obtain ⟨d1, d1n⟩ : decide ((8 : Int) < (n : Int)) = false ∧ decide (8 < n) = false := ⟨decide_eq_false (by omega), decide_eq_false (by omega)⟩
  have hn8 : Hid (n ≤ 8) := Lib.hid (by omega)
  replace hn := Lib.hid hn
  replace ht := Lib.hid ht
  by_cases hok : Ok xs tn
  rotate_left
  · have K := Lib.hid hok
    have hR := Lib.hid (okR_no hok)
    clear hok hg1 z wt
    go_enter Try.func7, Try.ntmps7
    go_wp2_with (first | (go_at_call 9; with_reducible refine (alive09_c _).mono ?_; rintro e w4 ⟨rfl, F⟩; have HB2 := Lib.hid (belT HB.out F); replace HB := HB2; clear HB2; clear F) | (go_at_call 11; with_reducible refine (right_C (key1.out _ HB.out) hl.out hn.out hR.out).mono ?_; rintro e w4 ⟨rfl, rfl⟩) | fail)
    go_ret
    exact ⟨rfl, HB.out⟩
  have K := Lib.hid hok
  have G := Lib.hid hok.gd
  have hR := Lib.hid (okR_yes hok)
  by_cases hw : who < 0 ∨ tn ≤ who
  · have two : (decide (who < 0) = true) ∨ (decide (who < 0) = false ∧ decide (tn ≤ who) = true) := by
      by_cases h0 : who < 0
      · exact .inl (decide_eq_true h0)
      · exact .inr ⟨decide_eq_false h0, decide_eq_true (by omega)⟩
    clear hok hg1 z wt hw
    rcases two with y1 | ⟨y1, y2⟩
    all_goals
      go_enter Try.func7, Try.ntmps7
      go_wp2_with (first | (go_at_call 9; with_reducible refine (alive09_c _).mono ?_; rintro e w4 ⟨rfl, F⟩; have HB2 := Lib.hid (belT HB.out F); replace HB := HB2; clear HB2; clear F) | (go_at_call 11; with_reducible refine (right_C (key1.out _ HB.out) hl.out hn.out hR.out).mono ?_; rintro e w4 ⟨rfl, rfl⟩) | fail)
      go_ret
      exact ⟨rfl, HB.out⟩
  have y1 : decide (who < 0) = false := decide_eq_false (by omega)
  have y2 : decide (tn ≤ who) = false := decide_eq_false (by omega)
  have ho := hok.has who (by omega) (by omega)
  have HO := Lib.hid ho
  obtain ⟨C, hC⟩ : ∃ C, C = cyc xs := ⟨_, rfl⟩
  have hCb : C ≤ 8000 := by rw [hC]; have := pre_bd hok.gd (Nat.le_refl _); have := hn8.out; have := hn.out; unfold cyc; omega
  obtain ⟨T, hT⟩ : ∃ T : Nat, T = t % 1152921504606846976 := ⟨_, rfl⟩
  have hm : Go.bits .and .u64 (t : Int) 1152921504606846975 = (T : Int) := by
    rw [and60 (by have := ht.out; unfold U64 at this; omega)]; omega
  replace hm := Lib.hid hm
  have hTb : T < 1152921504606846976 := by omega
  obtain ⟨m, hmm⟩ : ∃ m, m = mineN xs who := ⟨_, rfl⟩
  have hmb : m ≤ 70 := by rw [hmm]; have := mineN_le xs who; have := hok.gd.small; omega
  obtain ⟨s0, hs0⟩ : ∃ s0, s0 = startOf xs who (cnt xs who T) := ⟨_, rfl⟩
  obtain ⟨e0, he0⟩ : ∃ e0, e0 = en xs s0 := ⟨_, rfl⟩
  have q1 : s0 < T + C := by rw [hs0, hC]; exact start_near hok.gd ho T (j := 0) (mine_pos ho)
  have v0 : nxV xs who T = (s0, e0, true) := by rw [hs0] at he0; rw [he0, hs0]; exact nx_yes hok.gd ho rfl (by rw [← hs0]; unfold U64; omega)
  obtain ⟨TC, hTC⟩ : ∃ TC, TC = T + C := ⟨_, rfl⟩
  have e1 := wadd (a := T) (b := C) (d := TC) hTC.symm (by unfold U64; omega)
  obtain ⟨sC, hsC⟩ : ∃ sC, sC = s0 + C := ⟨_, rfl⟩
  have e2 := wadd (a := s0) (b := C) (d := sC) hsC.symm (by unfold U64; omega)
  obtain ⟨L9, hL9⟩ : ∃ L9, L9 = lens xs who := ⟨_, rfl⟩
  have hL9b : Hid (L9 ≤ 8000) := Lib.hid (by rw [hL9]; have := lens_le hok.gd who; omega)
  have tb1 : Hid (T < U64) := Lib.hid (by unfold U64; omega)
  have hLj : Hid (∀ j, j ≤ n → lens (xs.take j) who ≤ 8000) := Lib.hid (fun j hj => by
    have h1 := lens_pre hok.gd who (show j ≤ xs.length by have := hn.out; omega)
    have h2 := pre_mono hok.gd (show j ≤ xs.length by have := hn.out; omega) (Nat.le_refl _)
    have h3 : pre xs xs.length = C := hC.symm
    omega)
  have hbig := Lib.hid (And.intro hTb (And.intro hCb (And.intro hTC q1)))
  replace v0 := Lib.hid v0; replace hs0 := Lib.hid hs0; replace he0 := Lib.hid he0; replace hsC := Lib.hid hsC
  replace hC := Lib.hid hC; replace hmm := Lib.hid hmm; replace hmb := Lib.hid hmb; replace hL9 := Lib.hid hL9
  have key9 : Hid (∀ j, mineN (xs.take j) who ≤ 70) := Lib.hid (fun j => by have h1 := mineN_le (xs.take j) who; have := hok.gd.small; rw [List.length_take] at h1; omega)
  clear hok hg1 z wt hw ho hCb hT hTb q1 hTC
  replace hm := hm.out
  go_enter Try.func7, Try.ntmps7
  go_upto_region 6 with (first | (go_at_call 9; with_reducible refine (alive09_c _).mono ?_; rintro e w4 ⟨rfl, F⟩; have HB2 := Lib.hid (belT HB.out F); replace HB := HB2; clear HB2; clear F) | (go_at_call 11; with_reducible refine (right_C (key1.out _ HB.out) hl.out hn.out hR.out).mono ?_; rintro e w4 ⟨rfl, rfl⟩) | (go_at_call 10; with_reducible refine (of_ok (key1.out _ HB.out) hn.out K.out hC.out).mono ?_; rintro e w4 ⟨A1, c1, rfl, P1, F1⟩; replace P1 := Lib.hid P1; replace F1 := Lib.hid F1) | fail)
  have PV := Lib.hid (PVar.new (n := n) (c := c1) (C := C) P1.out)
  have HB2 := Lib.hid (belA (belT HB.out F1.out) (.cells #[.slice A1 n c1, .int .u64 C] 27))
  replace HB := HB2
  clear F1 P1 HB2
  generalize w4.alloc (.cells #[.slice A1 n c1, .int .u64 C] 27) = W0 at *
  generalize w4.heap.size = B at *
  go_upto_region 9 with fail
  clear hm
  go_loopw [11, 12, 59] (fun mv lv jv wr => ∃ j : Nat, jv = .int .i64 j ∧ mv = .int .i64 (mineN (xs.take j) who : Nat) ∧ lv = .int .u64 (lens (xs.take j) who : Nat) ∧ Hid (j ≤ n) ∧ Hid (PVar wr B A1 n c1 C xs) ∧ Hid (Below W.heap.size W wr)) (fun _ _ jv _ => n - (intOf jv).toNat)
  case atStart => exact ⟨0, rfl, by simp [mineN], by simp [lens], Lib.hid (Nat.zero_le _), PV, HB⟩
  case round =>
    clear PV HB
    obtain ⟨j, rfl, rfl, rfl, hj, PV, HB⟩ := hrel
    by_cases hlt : j < n
    · have hlt' : j < xs.length := by rw [← hn.out]; exact hlt
      obtain ⟨b, off, hA, hbs, c0, c1⟩ := (key1.out _ HB.out).at hlt'
      subst hA
      obtain ⟨O, hO⟩ : ∃ O, O = xs[j].owner := ⟨_, rfl⟩
      obtain ⟨L, hL⟩ : ∃ L, L = xs[j].len := ⟨_, rfl⟩
      have hnL := G.out.n hlt'
      rw [← hL] at hnL
      rw [← hO] at c0
      rw [← hL] at c1
      obtain ⟨l, hl2⟩ : ∃ l, l = xs[j].n := ⟨_, rfl⟩
      rw [← hl2] at hnL
      obtain rfl : L = (l : Int) := hnL.2.2.symm
      have hmt := mineN_take who hlt'
      have hlt3 := lens_take who hlt'
      rw [← hO] at hmt hlt3
      rw [← hl2] at hlt3
      have hB2 := Lib.hid (belA HB.out (.cells #[.int .i64 O, .int .i64 (l : Int)] 46))
      have PV2 := Lib.hid (PV.out.bel (belA (Below.refl wr.heap.size wr) (.cells #[.int .i64 O, .int .i64 (l : Int)] 46)))
      obtain ⟨mj, hmj⟩ : ∃ mj, mj = mineN (xs.take j) who := ⟨_, rfl⟩
      obtain ⟨lj, hlj⟩ : ∃ lj, lj = lens (xs.take j) who := ⟨_, rfl⟩
      have hmj70 := key9.out j
      have hlj8 := hLj.out j (by omega)
      rw [← hmj] at hmt hmj70 ⊢
      rw [← hlj] at hlt3 hlj8 ⊢
      have x4 : IntKind.u64.wrap (l : Int) = (l : Int) := wrapU (by omega)
      by_cases how : O = who
      · rw [if_pos how] at hmt hlt3
        have x1 : (O == who) = true := beq_iff_eq.mpr how
        obtain ⟨x2, x3⟩ := isuc (a := mj) (d := mj + 1) rfl (by omega)
        have x5 := wadd (a := lj) (b := l) (d := lj + l) rfl (by unfold U64; omega)
        replace hmt := Lib.hid hmt
        replace hlt3 := Lib.hid hlt3
        have hlt2 := Lib.hid hlt
        have hj9 : j ≤ 8 := by have := hn8.out; omega
        clear how hO hL hmj e1 e2 y1 y2 PV HB hnL hl2 hlj
        go_wp2
        go_roundw
        case rel => exact ⟨j + 1, by go_num, by rw [hmt.out]; (first | rfl | go_num), by rw [hlt3.out]; (first | rfl | go_num), Lib.hid hlt2.out, PV2, hB2⟩
        case measure => simp [intOf]; omega
      · rw [if_neg how, Nat.add_zero] at hmt hlt3
        have x1 : (O == who) = false := beq_eq_false_iff_ne.mpr how
        replace hmt := Lib.hid hmt
        replace hlt3 := Lib.hid hlt3
        have hlt2 := Lib.hid hlt
        have hj9 : j ≤ 8 := by have := hn8.out; omega
        clear how hO hL hmj e1 e2 y1 y2 PV HB hnL hl2 hlj
        go_wp2
        go_roundw
        case rel => exact ⟨j + 1, by go_num, by rw [hmt.out]; (first | rfl | go_num), by rw [hlt3.out]; (first | rfl | go_num), Lib.hid hlt2.out, PV2, hB2⟩
        case measure => simp [intOf]; omega
    · obtain rfl : j = n := by have := hj.out; omega
      have hmj : m = mineN (xs.take j) who := by rw [hmm.out, hn.out, List.take_length]
      have hlj : L9 = lens (xs.take j) who := by rw [hL9.out, hn.out, List.take_length]
      rw [← hmj, ← hlj]
      replace hmj := Lib.hid hmj; replace hlj := Lib.hid hlj
      have z0 := PV.out.c0
      have z1 := PV.out.c1
      clear hlt
      go_upto_region 18 with (first | (go_at_call 16; with_reducible refine (next_C G.out hn.out hC.out PV.out.pl who rfl tb1.out v0.out).mono ?_; rintro e w4 ⟨rfl, F⟩; have HB2 := Lib.hid (belT HB.out F); replace HB := HB2; clear HB2; have PV2 := Lib.hid (PV.out.bel F); replace PV := PV2; clear PV2; have z0 := PV.out.c0; have z1 := PV.out.c1; clear F) | fail)
      clear z0 z1
      go_loopw [18, 19, 85] (fun av gv kv wr => ∃ k a g : Nat, kv = .int .i64 k ∧ av = .int .u64 a ∧ gv = .int .u64 g ∧ Hid (k ≤ m) ∧ Hid (cnt xs who a = cnt xs who T + k) ∧ Hid (T ≤ a ∧ a ≤ TC) ∧ Hid (gotT xs who T + g = gotT xs who a) ∧ Hid (PVar wr B A1 j c1 C xs) ∧ Hid (Below W.heap.size W wr)) (fun _ _ kv _ => m - (intOf kv).toNat)
      case atStart => exact ⟨0, T, 0, rfl, rfl, rfl, Lib.hid (Nat.zero_le _), Lib.hid rfl, Lib.hid (by have := hbig.out; omega), Lib.hid rfl, PV, HB⟩
      case round =>
        clear PV HB
        obtain ⟨k, a, g, rfl, rfl, rfl, hk, hca, hab, hg, PV, HB⟩ := hrel
        have hb9 := hbig.out
        have hab2 := hab.out
        have hg2 := gotT_mono (xs := xs) (who := who) hab2.2
        have hg3 := gotT_turn G.out who T
        rw [← hC.out, ← hL9.out, ← hb9.2.2.1] at hg3
        have hg4 := hg.out
        have hL9c := hL9b.out
        have hgb : g ≤ 8000 := by omega
        have z0 := PV.out.c0
        have z1 := PV.out.c1
        by_cases hlt : k < m
        · obtain ⟨s, hs⟩ : ∃ s, s = startOf xs who (cnt xs who T + k) := ⟨_, rfl⟩
          obtain ⟨e, he⟩ : ∃ e, e = en xs s := ⟨_, rfl⟩
          have r1 : s < TC := by rw [hs, hb9.2.2.1, hC.out]; exact start_near G.out HO.out T (by rw [← hmm.out]; exact hlt)
          have r2 : a ≤ s := by have := start_ge G.out HO.out a 0; rw [Nat.add_zero, hca.out] at this; rw [hs]; exact this
          have r3 := start_spec G.out HO.out (cnt xs who T + k)
          rw [← hs] at r3
          have r4 := en_bd G.out r3.1
          rw [← he] at r4
          have v1 : Hid (nxV xs who a = (s, e, true)) := Lib.hid (by rw [hs] at he; rw [he, hs]; exact nx_yes G.out HO.out hca.out (by rw [← hs]; unfold U64; omega))
          have v2 : Hid (kthV xs who T ((k + 1 : Nat) : Int) = (e, true)) := Lib.hid (by rw [hs] at he; rw [he]; exact kth_yes G.out HO.out (m := cnt xs who T + k) (by omega) (by omega) (by rw [← hs]; unfold U64; omega))
          have hg5 := gotT_next G.out HO.out hca.out
          rw [← hs, ← he] at hg5
          have hg6 := gotT_mono (xs := xs) (who := who) (show s + 1 ≤ TC from r1)
          obtain ⟨k1, hk1⟩ : ∃ k1, k1 = k + 1 := ⟨_, rfl⟩
          rw [← hk1] at v2
          have hmb2 := hmb.out
          have Hx1 := Lib.hid (isuc (a := k) (d := k1) hk1.symm (by omega))
          have kb : Hid (-9223372036854775808 ≤ (k1 : Int) ∧ (k1 : Int) < 9223372036854775808) := Lib.hid (by omega)
          have ab : Hid (a < U64) := Lib.hid (by unfold U64; omega)
          have Hx2 := Lib.hid (dlt_f r2)
          have Hx3 := Lib.hid (dle_f r1)
          obtain ⟨es, hes⟩ : ∃ es, es = e - s := ⟨_, rfl⟩
          have x4 := Lib.hid (wsub (a := e) (b := s) (d := es) (by omega) (by unfold U64; omega))
          have x5 := Lib.hid (wadd (a := g) (b := es) (d := g + es) rfl (by unfold U64; omega))
          have x6 := Lib.hid (wsuc (a := s) (d := s + 1) rfl (by unfold U64; omega))
          have R1 : Hid (cnt xs who (s + 1) = cnt xs who T + k1) := Lib.hid (by rw [cnt_after r3.1, r3.2]; omega)
          have R0 : Hid (k1 ≤ m ∧ k1 = k + 1) := Lib.hid (by omega)
          have R2 : Hid (T ≤ s + 1 ∧ s + 1 ≤ TC) := Lib.hid (by omega)
          have R3 : Hid (gotT xs who T + (g + es) = gotT xs who (s + 1)) := Lib.hid (by omega)
          have hlt2 := Lib.hid hlt
          have hk1' := Lib.hid hk1
          clear hlt hs he r1 r2 r3 r4 hg5 hg6 hk1 hes hb9 hab2 hg2 hg3 hg4 hL9c hgb hmb2 e2 y1 y2
          obtain ⟨x1, x1n⟩ := Hx1.out
          obtain ⟨x2, x2n⟩ := Hx2.out
          obtain ⟨x3, x3n⟩ := Hx3.out
          replace x4 := x4.out
          replace x5 := x5.out
          replace x6 := x6.out
          go_wp2_with (first | (go_at_call 16; with_reducible refine (next_C G.out hn.out hC.out PV.out.pl who rfl ab.out v1.out).mono ?_; rintro e w4 ⟨rfl, F⟩; have HB2 := Lib.hid (belT HB.out F); replace HB := HB2; clear HB2; have PV2 := Lib.hid (PV.out.bel F); replace PV := PV2; clear PV2; have z0 := PV.out.c0; have z1 := PV.out.c1; clear F) | (go_at_call 18; with_reducible refine (kth_C G.out hn.out hC.out PV.out.pl who rfl tb1.out kb.out v2.out).mono ?_; rintro e w4 ⟨rfl, F⟩; have HB2 := Lib.hid (belT HB.out F); replace HB := HB2; clear HB2; have PV2 := Lib.hid (PV.out.bel F); replace PV := PV2; clear PV2; have z0 := PV.out.c0; have z1 := PV.out.c1; clear F) | (go_at_call 12; with_reducible refine (cyc_C _).mono ?_; rintro e w4 ⟨rfl, F⟩; have HB2 := Lib.hid (belT HB.out F); replace HB := HB2; clear HB2; have PV2 := Lib.hid (PV.out.bel F); replace PV := PV2; clear PV2; have z0 := PV.out.c0; have z1 := PV.out.c1; clear F) | fail)
          go_roundw
          case rel => exact ⟨k1, s + 1, g + es, (by first | rfl | go_num), (by first | rfl | go_num), (by first | rfl | go_num), Lib.hid R0.out.1, R1, R2, R3, PV, HB⟩
          case measure => have := R0.out; simp [intOf]; omega
        · obtain rfl : k = m := by have := hk.out; omega
          have hcT := cnt_cycles G.out who T 1
          rw [Nat.one_mul, Nat.one_mul, ← hC.out, ← hmm.out, ← hb9.2.2.1] at hcT
          have hgT := gotT_same hab2.2 (by rw [hcT, hca.out])
          obtain rfl : g = L9 := by omega
          have hst := start_turn G.out HO.out (cnt xs who T) 1
          rw [Nat.one_mul, Nat.one_mul, ← hC.out, ← hmm.out, ← hs0.out, ← hsC.out] at hst
          obtain ⟨e, he⟩ : ∃ e, e = en xs sC := ⟨_, rfl⟩
          have v1 : Hid (nxV xs who a = (sC, e, true)) := Lib.hid (by rw [he, ← hst]; exact nx_yes G.out HO.out hca.out (by rw [hst, hsC.out]; unfold U64; omega))
          have ab : Hid (a < U64) := Lib.hid (by unfold U64; omega)
          clear hlt hk hcT hgT hst he hb9 hab2 hg2 hg3 hg4 hL9c hgb
          go_wp2_with (first | (go_at_call 16; with_reducible refine (next_C G.out hn.out hC.out PV.out.pl who rfl ab.out v1.out).mono ?_; rintro e w4 ⟨rfl, F⟩; have HB2 := Lib.hid (belT HB.out F); replace HB := HB2; clear HB2; have PV2 := Lib.hid (PV.out.bel F); replace PV := PV2; clear PV2; have z0 := PV.out.c0; have z1 := PV.out.c1; clear F) | (go_at_call 12; with_reducible refine (cyc_C _).mono ?_; rintro e w4 ⟨rfl, F⟩; have HB2 := Lib.hid (belT HB.out F); replace HB := HB2; clear HB2; have PV2 := Lib.hid (PV.out.bel F); replace PV := PV2; clear PV2; have z0 := PV.out.c0; have z1 := PV.out.c1; clear F) | fail)
          go_ret
          exact ⟨rfl, HB.out⟩
end Go.Proofs.Ytnlbcgonegeofaa
