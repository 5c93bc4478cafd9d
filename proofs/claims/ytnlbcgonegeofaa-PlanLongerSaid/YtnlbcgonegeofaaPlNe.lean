/- PlanNexts. No condition. -/
import Derived.Test.YtnlbcgonegeofaaPlW
namespace Go.Proofs.Ytnlbcgonegeofaa
open Go.RowKit
set_option linter.unusedVariables false
set_option linter.unusedSimpArgs false
set_option maxRecDepth 100000

theorem dlt_t {a b : Nat} (h : a < b) : decide ((a : Int) < (b : Int)) = true ∧ decide (a < b) = true := ⟨decide_eq_true (by omega), decide_eq_true h⟩
theorem dlt_f {a b : Nat} (h : b ≤ a) : decide ((a : Int) < (b : Int)) = false ∧ decide (a < b) = false := ⟨decide_eq_false (by omega), decide_eq_false (by omega)⟩
theorem dle_t {a b : Nat} (h : a ≤ b) : decide ((a : Int) ≤ (b : Int)) = true ∧ decide (a ≤ b) = true := ⟨decide_eq_true (by omega), decide_eq_true h⟩
theorem dle_f {a b : Nat} (h : b < a) : decide ((a : Int) ≤ (b : Int)) = false ∧ decide (a ≤ b) = false := ⟨decide_eq_false (by omega), decide_eq_false (by omega)⟩
theorem wsub {a b d : Nat} (h : b + d = a) (ha : a < U64) : IntKind.u64.wrap ((a : Int) - (b : Int)) = (d : Int) := by unfold U64 at ha; rw [wrapU (by omega)]; omega
theorem wadd {a b d : Nat} (h : a + b = d) (hd : d < U64) : IntKind.u64.wrap ((a : Int) + (b : Int)) = (d : Int) := by unfold U64 at hd; rw [wrapU (by omega)]; omega
theorem wsuc {a d : Nat} (h : a + 1 = d) (hd : d < U64) : IntKind.u64.wrap ((a : Int) + 1) = (d : Int) := by unfold U64 at hd; rw [wrapU (by omega)]; omega

set_option maxHeartbeats 8000000 in
theorem nexts9_walk (A : Option Addr) (c : Nat) (xs : List Sl) (tn who ti : Int) (W : World) (r : RowAt Sl.cells 2 W A xs) (z : xs.length * 16 ≤ 140737488351232) (wt : (Lit.int .u64 ti).wf = true) :
    Calls Try.prog 5 #[.slice A xs.length c, .int .i64 tn, .int .i64 who, .int .u64 ti] W fun e w' => e = .returned (.bool true) ∧ Below W.heap.size W w' := by
  obtain ⟨t, rfl, ht⟩ := wf_u64 wt
  have key1 : Hid (∀ X, Below W.heap.size W X → SlA X A xs) := Lib.hid fun X hX => r.below hX
  have HB := Lib.hid (Below.refl W.heap.size W)
  have hl : Hid (xs.length ≤ 4611686018427387904) := Lib.hid (by omega)
  obtain ⟨n, hn⟩ : ∃ n, n = xs.length := ⟨_, rfl⟩
  rw [← hn]
  clear r
  by_cases hg1 : 8 < n
  · obtain ⟨d1, d1n⟩ : decide ((8 : Int) < (n : Int)) = true ∧ decide (8 < n) = true := ⟨decide_eq_true (by omega), decide_eq_true hg1⟩
    clear hg1 hn z wt ht
    go_enter Try.func5, Try.ntmps5
    go_wp2_with (first | (go_at_call 9; with_reducible refine (alive09_c _).mono ?_; rintro e w4 ⟨rfl, F⟩; have HB2 := Lib.hid (belT HB.out F); replace HB := HB2; clear HB2; clear F) | fail)
    go_ret
    exact ⟨rfl, HB.out⟩
  obtain ⟨d1, d1n⟩ : decide ((8 : Int) < (n : Int)) = false ∧ decide (8 < n) = false := ⟨decide_eq_false (by omega), decide_eq_false (by omega)⟩
  replace hn := Lib.hid hn
  replace ht := Lib.hid ht
  by_cases hok : Ok xs tn
  rotate_left
  · have K := Lib.hid hok
    have hR := Lib.hid (okR_no hok)
    clear hok hg1 z wt
    go_enter Try.func5, Try.ntmps5
    go_wp2_with (first | (go_at_call 9; with_reducible refine (alive09_c _).mono ?_; rintro e w4 ⟨rfl, F⟩; have HB2 := Lib.hid (belT HB.out F); replace HB := HB2; clear HB2; clear F) | (go_at_call 11; with_reducible refine (right_C (key1.out _ HB.out) hl.out hn.out hR.out).mono ?_; rintro e w4 ⟨rfl, rfl⟩) | fail)
    go_ret
    exact ⟨rfl, HB.out⟩
  have K := Lib.hid hok
  have G := Lib.hid hok.gd
  have hR := Lib.hid (okR_yes hok)
  obtain ⟨C, hC⟩ : ∃ C, C = cyc xs := ⟨_, rfl⟩
  have hCb : C ≤ 70000 := by rw [hC]; exact cyc_bd hok.gd
  replace hC := Lib.hid hC
  obtain ⟨T, hT⟩ : ∃ T : Nat, T = t % 1152921504606846976 := ⟨_, rfl⟩
  have hm : Go.bits .and .u64 (t : Int) 1152921504606846975 = (T : Int) := by
    rw [and60 (by have := ht.out; unfold U64 at this; omega)]; omega
  have hTb : T < 1152921504606846976 := by omega
  have hTU : Hid (T < U64) := Lib.hid (by unfold U64; omega)
  replace hT := Lib.hid hT
  by_cases hw : who < 0 ∨ tn ≤ who
  · have hx : Hid (nxV xs who T = (0, 0, false)) := Lib.hid (nxV_none (fun ⟨i, hi, ho⟩ => by have := hok.own i hi; omega) T)
    have two : (decide (who < 0) = true) ∨ (decide (who < 0) = false ∧ decide (tn ≤ who) = true) := by
      by_cases h0 : who < 0
      · exact .inl (decide_eq_true h0)
      · exact .inr ⟨decide_eq_false h0, decide_eq_true (by omega)⟩
    clear hok hg1 z wt hTb hCb hw
    rcases two with y1 | ⟨y1, y2⟩
    all_goals
      go_enter Try.func5, Try.ntmps5
      go_upto_region 6 with (first | (go_at_call 9; with_reducible refine (alive09_c _).mono ?_; rintro e w4 ⟨rfl, F⟩; have HB2 := Lib.hid (belT HB.out F); replace HB := HB2; clear HB2; clear F) | (go_at_call 11; with_reducible refine (right_C (key1.out _ HB.out) hl.out hn.out hR.out).mono ?_; rintro e w4 ⟨rfl, rfl⟩) | (go_at_call 10; with_reducible refine (of_ok (key1.out _ HB.out) hn.out K.out hC.out).mono ?_; rintro e w4 ⟨A1, c1, rfl, P1, F1⟩; replace P1 := Lib.hid P1; replace F1 := Lib.hid F1) | fail)
      have PV := Lib.hid (PVar.new (n := n) (c := c1) (C := C) P1.out)
      have HB2 := Lib.hid (belA (belT HB.out F1.out) (.cells #[.slice A1 n c1, .int .u64 C] 27))
      replace HB := HB2
      clear F1 P1 HB2
      generalize w4.alloc (.cells #[.slice A1 n c1, .int .u64 C] 27) = W0 at *
      generalize w4.heap.size = B at *
      have z0 := PV.out.c0
      have z1 := PV.out.c1
      go_wp2_with (first | (go_at_call 16; with_reducible refine (next_C G.out hn.out hC.out PV.out.pl who rfl hTU.out hx.out).mono ?_; rintro e w4 ⟨rfl, F⟩; have HB2 := Lib.hid (belT HB.out F); replace HB := HB2; clear HB2; have PV2 := Lib.hid (PV.out.bel F); replace PV := PV2; clear PV2; have z0 := PV.out.c0; have z1 := PV.out.c1; clear F) | fail)
      go_ret
      exact ⟨rfl, HB.out⟩
  have y1 : decide (who < 0) = false := decide_eq_false (by omega)
  have y2 : decide (tn ≤ who) = false := decide_eq_false (by omega)
  have ho := Lib.hid (hok.has who (by omega) (by omega))
  obtain ⟨s, hs⟩ : ∃ s, s = startOf xs who (cnt xs who T) := ⟨_, rfl⟩
  obtain ⟨e, he⟩ : ∃ e, e = en xs s := ⟨_, rfl⟩
  have hN : Hid (IsNx xs who T s) := Lib.hid (by rw [hs]; exact isNx_start G.out ho.out T)
  have s1 : T ≤ s := hN.out.le
  have s2 : s < T + C := by rw [hs, hC.out]; exact start_near G.out ho.out T (j := 0) (mine_pos ho.out)
  have s3 := en_bd G.out hN.out.1
  rw [← he] at s3
  have hx : Hid (nxV xs who T = (s, e, true)) := Lib.hid (by rw [hs] at he; rw [he, hs]; exact nx_yes G.out ho.out rfl (by rw [← hs]; unfold U64; omega))
  have hx2 : Hid (nxV xs who s = (s, e, true)) := Lib.hid (by
    have hc2 : cnt xs who s = cnt xs who T := hN.out.2
    rw [hs] at he; rw [he]
    rw [hs] at hc2 ⊢
    exact nx_yes G.out ho.out hc2 (by rw [← hs]; unfold U64; omega))
  have hk1 : Hid (kthV xs who T 1 = (e, true)) := Lib.hid (by rw [hs] at he; rw [he]; exact kth_yes G.out ho.out (by decide) (by rfl) (by rw [← hs]; unfold U64; omega))
  obtain ⟨md, hmd⟩ : ∃ md, md = T + (s - T) / 2 := ⟨_, rfl⟩
  have hx3 : Hid (nxV xs who md = (s, e, true)) := Lib.hid (by
    have c1 : cnt xs who T ≤ cnt xs who md := cnt_mono (by omega)
    have c2 : cnt xs who md ≤ cnt xs who s := cnt_mono (by omega)
    have hc2 : cnt xs who s = cnt xs who T := hN.out.2
    rw [hs] at he; rw [he, hs]
    exact nx_yes G.out ho.out (by omega) (by rw [← hs]; unfold U64; omega))
  have hsU : s < U64 := by unfold U64; omega
  have heU : e < U64 := by unfold U64; omega
  have hmU : md < U64 := by unfold U64; omega
  obtain ⟨f1, f1n⟩ := dlt_f s1
  have f2 := wsub (a := s) (b := T) (d := s - T) (by omega) hsU
  obtain ⟨f3, f3n⟩ := dle_f (a := C) (b := s - T) (by omega)
  obtain ⟨f4, f4n⟩ := dle_f (a := e) (b := s) (by omega)
  have f5 := wsub (a := e) (b := s) (d := e - s) (by omega) heU
  have f6 : decide ((1000 : Int) < ((e - s : Nat) : Int)) = false := decide_eq_false (by omega)
  have f6n : decide (1000 < e - s) = false := decide_eq_false (by omega)
  have f7 := wsuc (a := s) (d := s + 1) rfl (by unfold U64 at *; omega)
  obtain ⟨sT, hsT⟩ : ∃ sT, sT = s - T := ⟨_, rfl⟩
  obtain ⟨es, hes⟩ : ∃ es, es = e - s := ⟨_, rfl⟩
  have f8 : Int.tdiv (sT : Int) 2 = ((sT / 2 : Nat) : Int) := by rw [Int.tdiv_eq_ediv_of_nonneg (by omega)]; omega
  have f9 := wadd (a := T) (b := sT / 2) (d := md) (by omega) hmU
  have f10 : IntKind.u64.wrap ((sT / 2 : Nat) : Int) = ((sT / 2 : Nat) : Int) := wrapU (by unfold U64 at hsU; omega)
  have f8n : (sT : Int) / 2 = ((sT / 2 : Nat) : Int) := by omega
  rw [← hsT] at f2 f3 f3n
  rw [← hes] at f5 f6 f6n
  obtain ⟨sh, hsh⟩ : ∃ sh, sh = sT / 2 := ⟨_, rfl⟩
  rw [← hsh] at f8 f8n f9 f10
  obtain ⟨s1', hs1'⟩ : ∃ s1', s1' = s + 1 := ⟨_, rfl⟩
  rw [← hs1'] at f7
  have hAt : Hid (∀ m, s < m → m ≤ e → atO xs m = who ∧ atE xs m = decide (m = e)) := Lib.hid (fun m h1 h2 => by rw [he] at h2 ⊢; exact at_slot G.out hN.out.1 h1 h2)
  have hEnd : Hid (0 < s → atE xs s = true) := Lib.hid (fun h => at_begin G.out hN.out.1 h)
  have hb1 := Lib.hid (And.intro s1 (And.intro s2 s3))
  replace hs := Lib.hid hs; replace he := Lib.hid he; replace hsU := Lib.hid hsU; replace heU := Lib.hid heU; replace hmU := Lib.hid hmU
  replace hmd := Lib.hid hmd; replace hsT := Lib.hid hsT; replace hes := Lib.hid hes; replace hsh := Lib.hid hsh; replace hs1' := Lib.hid hs1'
  have hBig := Lib.hid (And.intro hTb hCb)
  clear hok hg1 z wt hTb hCb hw s1 s2 s3
  go_enter Try.func5, Try.ntmps5
  go_upto_region 6 with (first | (go_at_call 9; with_reducible refine (alive09_c _).mono ?_; rintro e w4 ⟨rfl, F⟩; have HB2 := Lib.hid (belT HB.out F); replace HB := HB2; clear HB2; clear F) | (go_at_call 11; with_reducible refine (right_C (key1.out _ HB.out) hl.out hn.out hR.out).mono ?_; rintro e w4 ⟨rfl, rfl⟩) | (go_at_call 10; with_reducible refine (of_ok (key1.out _ HB.out) hn.out K.out hC.out).mono ?_; rintro e w4 ⟨A1, c1, rfl, P1, F1⟩; replace P1 := Lib.hid P1; replace F1 := Lib.hid F1) | fail)
  have PV := Lib.hid (PVar.new (n := n) (c := c1) (C := C) P1.out)
  have HB2 := Lib.hid (belA (belT HB.out F1.out) (.cells #[.slice A1 n c1, .int .u64 C] 27))
  replace HB := HB2
  clear F1 P1 HB2
  generalize w4.alloc (.cells #[.slice A1 n c1, .int .u64 C] 27) = W0 at *
  generalize w4.heap.size = B at *
  have z0 := PV.out.c0
  have z1 := PV.out.c1
  go_upto_region 15 with (first | (go_at_call 16; with_reducible refine (next_C G.out hn.out hC.out PV.out.pl who rfl hTU.out hx.out).mono ?_; rintro e w4 ⟨rfl, F⟩; have HB2 := Lib.hid (belT HB.out F); replace HB := HB2; clear HB2; have PV2 := Lib.hid (PV.out.bel F); replace PV := PV2; clear PV2; have z0 := PV.out.c0; have z1 := PV.out.c1; clear F) | (go_at_call 12; with_reducible refine (cyc_C _).mono ?_; rintro e w4 ⟨rfl, F⟩; have HB2 := Lib.hid (belT HB.out F); replace HB := HB2; clear HB2; have PV2 := Lib.hid (PV.out.bel F); replace PV := PV2; clear PV2; have z0 := PV.out.c0; have z1 := PV.out.c1; clear F) | fail)
  rename_i wa _
  clear z0 z1
  go_loopw [14] (fun mv wr => ∃ m : Nat, mv = .int .u64 m ∧ Hid (s < m ∧ m ≤ e + 1) ∧ Hid (PVar wr B A1 n c1 C xs) ∧ Hid (Below W.heap.size W wr)) (fun mv _ => e + 1 - (intOf mv).toNat)
  case atStart => exact ⟨s1', rfl, Lib.hid (by rw [hs1'.out]; have := hb1.out; omega), PV, HB⟩
  case round =>
    clear PV HB
    obtain ⟨m, rfl, hmb, PV, HB⟩ := hrel
    have z0 := PV.out.c0
    have z1 := PV.out.c1
    by_cases hlt : m ≤ e
    · obtain ⟨g1, g1n⟩ := dle_t hlt
      have hmU2 : Hid (m < U64) := Lib.hid (by have := heU.out; omega)
      obtain ⟨a1, a2⟩ := hAt.out m hmb.out.1 hlt
      obtain ⟨b, hb⟩ : ∃ b, b = decide (m = e) := ⟨_, rfl⟩
      rw [← hb] at a2
      have g2 : ((m : Int) == (e : Int)) = b := by rw [hb]; by_cases h : m = e <;> simp [h] <;> omega
      have g2n : (m == e) = b := by rw [hb]; by_cases h : m = e <;> simp [h]
      have g3 : (b != b) = false := by simp
      have g5 := wsuc (a := m) (d := m + 1) rfl (by have := heU.out; have := hBig.out; have := hb1.out; unfold U64; omega)
      replace a1 := Lib.hid a1; replace a2 := Lib.hid a2; replace hb := Lib.hid hb
      have hlt2 := Lib.hid hlt
      clear hlt
      go_wp2_with (first | (go_at_call 13; with_reducible refine (at_C G.out hn.out hC.out PV.out.pl rfl hmU2.out a1.out a2.out).mono ?_; rintro e w4 ⟨rfl, F⟩; have HB2 := Lib.hid (belT HB.out F); replace HB := HB2; clear HB2; have PV2 := Lib.hid (PV.out.bel F); replace PV := PV2; clear PV2; have z0 := PV.out.c0; have z1 := PV.out.c1; clear F) | fail)
      go_roundw
      case rel => exact ⟨m + 1, by go_num, Lib.hid (by have := hmb.out; have := hlt2.out; omega), PV, HB⟩
      case measure => have := hlt2.out; simp [intOf]; omega
    · obtain ⟨g1, g1n⟩ := dle_f (a := m) (b := e) (by omega)
      clear hlt
      obtain ⟨o, hoo⟩ : ∃ o, atO xs s = o := ⟨_, rfl⟩
      obtain ⟨b, hb⟩ : ∃ b, atE xs s = b := ⟨_, rfl⟩
      have u1 : (decide ((0 : Int) < (s : Int)) = false ∧ decide (0 < s) = false) ∨ (decide ((0 : Int) < (s : Int)) = true ∧ decide (0 < s) = true ∧ b = true) := by
        rcases Nat.eq_zero_or_pos s with h | h
        · left; exact ⟨decide_eq_false (by omega), decide_eq_false (by omega)⟩
        · right; exact ⟨decide_eq_true (by omega), decide_eq_true h, by rw [← hb]; exact hEnd.out h⟩
      have v1 : (decide ((T : Int) < (s : Int)) = true ∧ decide (T < s) = true) ∨ (decide ((T : Int) < (s : Int)) = false ∧ decide (T < s) = false) := by
        rcases Nat.lt_or_ge T s with h | h
        · exact .inl (dlt_t h)
        · exact .inr (dlt_f h)
      replace hoo := Lib.hid hoo; replace hb := Lib.hid hb
      rcases u1 with ⟨u1, u2⟩ | ⟨u1, u2, rfl⟩
      all_goals rcases v1 with ⟨v1, v2⟩ | ⟨v1, v2⟩
      all_goals
        go_wp2_with (first | (go_at_call 16; with_reducible refine (next_C G.out hn.out hC.out PV.out.pl who rfl hsU.out hx2.out).mono ?_; rintro e w4 ⟨rfl, F⟩; have HB2 := Lib.hid (belT HB.out F); replace HB := HB2; clear HB2; have PV2 := Lib.hid (PV.out.bel F); replace PV := PV2; clear PV2; have z0 := PV.out.c0; have z1 := PV.out.c1; clear F) | (go_at_call 16; with_reducible refine (next_C G.out hn.out hC.out PV.out.pl who rfl hmU.out hx3.out).mono ?_; rintro e w4 ⟨rfl, F⟩; have HB2 := Lib.hid (belT HB.out F); replace HB := HB2; clear HB2; have PV2 := Lib.hid (PV.out.bel F); replace PV := PV2; clear PV2; have z0 := PV.out.c0; have z1 := PV.out.c1; clear F) | (go_at_call 18; with_reducible refine (kth_C G.out hn.out hC.out PV.out.pl who rfl hTU.out (by decide) hk1.out).mono ?_; rintro e w4 ⟨rfl, F⟩; have HB2 := Lib.hid (belT HB.out F); replace HB := HB2; clear HB2; have PV2 := Lib.hid (PV.out.bel F); replace PV := PV2; clear PV2; have z0 := PV.out.c0; have z1 := PV.out.c1; clear F) | (go_at_call 13; with_reducible refine (at_C G.out hn.out hC.out PV.out.pl rfl hsU.out hoo.out hb.out).mono ?_; rintro e w4 ⟨rfl, F⟩; have HB2 := Lib.hid (belT HB.out F); replace HB := HB2; clear HB2; have PV2 := Lib.hid (PV.out.bel F); replace PV := PV2; clear PV2; have z0 := PV.out.c0; have z1 := PV.out.c1; clear F) | fail)
        go_ret
        exact ⟨rfl, HB.out⟩
end Go.Proofs.Ytnlbcgonegeofaa
