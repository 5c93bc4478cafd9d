/- SplitKeeps. -/
import Derived.Test.YtamnibfaoikdbaaWs
namespace Go.Proofs.Ytamnibfaoikdbaa
open Go.RowKit
set_option linter.unusedVariables false
set_option linter.unusedSimpArgs false
set_option maxRecDepth 100000

theorem sees_tick (who : Int) (e : En) (h : e.kind = 0) : seesB who e = true := by simp [seesB, h]
theorem sees_twice (who : Int) (xs : List En) : (xs.filter (seesB who)).filter (seesB who) = xs.filter (seesB who) := List.filter_eq_self.2 fun e he => (List.mem_filter.1 he).2
theorem blind_sees (who : Int) (xs : List En) : (xs.filter (seesB who)).filter (blindB who) = [] := by
  rw [List.filter_eq_nil_iff]
  intro e he
  have := (List.mem_filter.1 he).2
  simp [blindB, this]
theorem right_tk (n : Int) (h1 : 1 ≤ n) (h2 : n ≤ 100) : rightE (tk n) = true := by
  unfold rightE tk
  simp [h1, h2]
theorem okT_filter {xs : List En} (h : okT xs) (p : En → Bool) : okT (xs.filter p) := fun e he => h e (List.mem_filter.1 he).1

set_option maxHeartbeats 8000000 in
theorem keeps18_walk (A : Option Addr) (c : Nat) (xs : List En) (who other : Int) (w : World) (hr : RowAt En.cells 9 w A xs) (hz : xs.length * 72 ≤ 140737488351232) :
    Calls Try.prog 8 #[.slice A xs.length c, .int .i64 who, .int .i64 other] w fun r w' => r = .returned (.bool true) ∧ Below w.heap.size w w' := by
  have HR := Lib.hid hr
  have hl : Hid (xs.length ≤ 10000000000000) := Lib.hid (by omega)
  clear hr hz
  go_enter Try.func8, Try.ntmps8
  go_wp2_with fail
  refine (alive18_c w).mono ?_
  rintro r w1 ⟨rfl, B1⟩
  replace HR := Lib.hid (HR.out.below B1)
  replace B1 := Lib.hid B1
  go_wp2_with fail
  refine (right18_c HR.out hl.out).mono ?_
  rintro r w2 ⟨rfl, F2⟩
  replace HR := Lib.hid (HR.out.below F2)
  have B2 := Lib.hid (B1.out.trans (F2.mono B1.out.size))
  clear F2
  cases hR : (decide (xs.length ≤ 60) && xs.all rightE)
  · go_wp2
    go_ret
    exact ⟨rfl, B2.out⟩
  · have h60 : xs.length ≤ 60 := by simp at hR; exact hR.1
    have hall : ∀ e ∈ xs, rightE e = true := by simp at hR; exact hR.2
    have hok := right_okT hall
    have hsr : ∀ e ∈ sqGo 0 xs, rightE e = true := sq_right (fun e => rightE e = true) right_tk xs 0 hall
    have hsl : (sqGo 0 xs).length ≤ 10000 := by have := sq_len xs 0 hok; omega
    have hpl : (xs.filter (seesB who)).length ≤ 60 := Nat.le_trans (List.length_filter_le _ _) h60
    have hok2 := Lib.hid (okT_filter hok (seesB who))
    have hok3 := Lib.hid (right_okT hsr)
    have hts := ticks_sq xs 0 hok
    have htp := ticks_filter (seesB who) (sees_tick who) xs
    have h601 : xs.length ≤ 100000 := by omega
    have hpl1 : (xs.filter (seesB who)).length ≤ 10000 := by omega
    have hsl1 : (sqGo 0 xs).length ≤ 100000 := by omega
    rw [show ((0 : Nat) : Int) + ticksV xs = ticksV xs by simp] at hts
    replace hok := Lib.hid hok; replace hsr := Lib.hid hsr; replace hsl := Lib.hid hsl; replace hpl := Lib.hid hpl; replace hts := Lib.hid hts; replace htp := Lib.hid htp
    replace h60 := Lib.hid h60; replace hR := Lib.hid hR; replace h601 := Lib.hid h601; replace hpl1 := Lib.hid hpl1; replace hsl1 := Lib.hid hsl1
    clear hall
    obtain ⟨ps, hps⟩ : ∃ ps, ps = xs.filter (seesB who) := ⟨_, rfl⟩
    obtain ⟨ss, hss⟩ : ∃ ss, ss = sqGo 0 xs := ⟨_, rfl⟩
    obtain ⟨po, hpo0⟩ : ∃ po, po = ps.filter (seesB other) := ⟨_, rfl⟩
    obtain ⟨sf, hsf0⟩ : ∃ sf, sf = ss.filter (seesB who) := ⟨_, rfl⟩
    obtain ⟨sp, hsp0⟩ : ∃ sp, sp = sqGo 0 ps := ⟨_, rfl⟩
    have q1 : ps.filter (seesB who) = ps := by rw [hps]; exact sees_twice who xs
    have q2 : sqGo 0 ss = ss := by rw [hss]; exact sqGo_idem xs
    have q3 : ps.filter (blindB who) = [] := by rw [hps]; exact blind_sees who xs
    have q4 : po.filter (blindB other) = [] := by rw [hpo0]; exact blind_sees other ps
    have q5 : ticksV po = ticksV ps := by rw [hpo0]; exact ticks_filter (seesB other) (sees_tick other) ps
    have q6 : sqGo 0 sf = sp := by rw [hsf0, hsp0, hss, hps]; exact sqGo_filter (seesB who) (sees_tick who) xs 0 0
    have l1 : ps.length ≤ 60 := by rw [hps]; exact hpl.out
    have l2 : ss.length ≤ 10000 := by rw [hss]; exact hsl.out
    have l3 : po.length ≤ 100000 := by rw [hpo0]; exact Nat.le_trans (List.length_filter_le _ _) (by omega)
    have l4 : sf.length ≤ 10000 := by rw [hsf0]; exact Nat.le_trans (List.length_filter_le _ _) l2
    have k1 : okT ps := by rw [hps]; exact hok2.out
    have k2 : okT ss := by rw [hss]; exact hok3.out
    have k3 : okT sf := by rw [hsf0]; exact okT_filter k2 (seesB who)
    have l5 : sp.length ≤ 100000 := by rw [hsp0]; have := sq_len ps 0 k1; omega
    have t1 : ticksV ss = ticksV xs := by rw [hss]; exact hts.out
    have t2 : ticksV ps = ticksV xs := by rw [hps]; exact htp.out
    have r1 : ∀ e ∈ ss, rightE e = true := by rw [hss]; exact hsr.out
    have f1 : Full ss := by rw [hss]; exact full_sq xs 0
    have l6 : ps.length ≤ 100000 := by omega
    have l7 : ss.length ≤ 100000 := by omega
    have l8 : ps.length ≤ 10000 := by omega
    replace hps := Lib.hid hps; replace hss := Lib.hid hss; replace hpo0 := Lib.hid hpo0; replace hsf0 := Lib.hid hsf0; replace hsp0 := Lib.hid hsp0
    replace q1 := Lib.hid q1; replace q2 := Lib.hid q2; replace q3 := Lib.hid q3; replace q4 := Lib.hid q4; replace q5 := Lib.hid q5; replace q6 := Lib.hid q6
    replace l1 := Lib.hid l1; replace l2 := Lib.hid l2; replace l3 := Lib.hid l3; replace l4 := Lib.hid l4; replace l5 := Lib.hid l5; replace l6 := Lib.hid l6; replace l7 := Lib.hid l7; replace l8 := Lib.hid l8
    replace k1 := Lib.hid k1; replace k2 := Lib.hid k2; replace k3 := Lib.hid k3; replace t1 := Lib.hid t1; replace t2 := Lib.hid t2; replace r1 := Lib.hid r1; replace f1 := Lib.hid f1
    clear hok2 hok3 hts htp hsr hsl hpl hpl1 hsl1
    go_wp2_with fail
    refine (project_c HR.out h601.out who).mono ?_
    rintro r w3 ⟨v3, rfl, P3, F3⟩
    rw [← hps.out] at P3
    replace HR := Lib.hid (HR.out.below F3)
    have B3 := Lib.hid (B2.out.trans (F3.mono B2.out.size))
    obtain ⟨Ap, cp, rfl, _⟩ := P3.slice
    have RP := Lib.hid P3.row.1
    clear P3 F3
    go_wp2_with fail
    refine (squeeze_c HR.out (Nat.le_trans h60.out (by decide)) hok.out).mono ?_
    rintro r w4 ⟨v4, rfl, P4, F4⟩
    rw [← hss.out] at P4
    replace HR := Lib.hid (HR.out.below F4); replace RP := Lib.hid (RP.out.below F4)
    have B4 := Lib.hid (B3.out.trans (F4.mono B3.out.size))
    obtain ⟨As, cs, rfl, _⟩ := P4.slice
    have RS := Lib.hid P4.row.1
    clear P4 F4 B2 B3
    -- Same(Project(p, who), p)
    go_wp2_with fail
    refine (project_c RP.out l6.out who).mono ?_
    rintro r w5 ⟨v5, rfl, P5, F5⟩
    rw [q1.out] at P5
    replace HR := Lib.hid (HR.out.below F5); replace RP := Lib.hid (RP.out.below F5); replace RS := Lib.hid (RS.out.below F5)
    have B5 := Lib.hid (B4.out.trans (F5.mono B4.out.size))
    obtain ⟨A5, k5, rfl, _⟩ := P5.slice
    have R5 := Lib.hid P5.row.1
    clear P5 F5 B4
    go_wp2_with fail
    refine (same15_c R5.out RP.out l6.out l6.out).mono ?_
    rintro r w6 ⟨rfl, F6⟩
    rw [decide_eq_true (rfl : ps = ps)]
    replace HR := Lib.hid (HR.out.below F6); replace RP := Lib.hid (RP.out.below F6); replace RS := Lib.hid (RS.out.below F6)
    have B6 := Lib.hid (B5.out.trans (F6.mono B5.out.size))
    clear R5 F6 B5
    -- Same(Squeeze(s), s)
    go_wp2_with fail
    refine (squeeze_c RS.out l2.out k2.out).mono ?_
    rintro r w7 ⟨v7, rfl, P7, F7⟩
    rw [q2.out] at P7
    replace HR := Lib.hid (HR.out.below F7); replace RP := Lib.hid (RP.out.below F7); replace RS := Lib.hid (RS.out.below F7)
    have B7 := Lib.hid (B6.out.trans (F7.mono B6.out.size))
    obtain ⟨A7, k7, rfl, _⟩ := P7.slice
    have R7 := Lib.hid P7.row.1
    clear P7 F7 B6
    go_wp2_with fail
    refine (same15_c R7.out RS.out l7.out l7.out).mono ?_
    rintro r w8 ⟨rfl, F8⟩
    rw [decide_eq_true (rfl : ss = ss)]
    replace HR := Lib.hid (HR.out.below F8); replace RP := Lib.hid (RP.out.below F8); replace RS := Lib.hid (RS.out.below F8)
    have B8 := Lib.hid (B7.out.trans (F8.mono B7.out.size))
    clear R7 F8 B7
    -- the four counts
    go_wp2_with fail
    refine (ticks_c RS.out l7.out).mono ?_
    rintro r w9 ⟨rfl, F9⟩
    rw [t1.out]
    replace HR := Lib.hid (HR.out.below F9); replace RP := Lib.hid (RP.out.below F9); replace RS := Lib.hid (RS.out.below F9)
    have B9 := Lib.hid (B8.out.trans (F9.mono B8.out.size))
    clear F9 B8
    go_wp2_with fail
    refine (ticks_c HR.out h601.out).mono ?_
    rintro r w10 ⟨rfl, F10⟩
    replace HR := Lib.hid (HR.out.below F10); replace RP := Lib.hid (RP.out.below F10); replace RS := Lib.hid (RS.out.below F10)
    have B10 := Lib.hid (B9.out.trans (F10.mono B9.out.size))
    clear F10 B9
    go_wp2_with fail
    refine (ticks_c RP.out l6.out).mono ?_
    rintro r w11 ⟨rfl, F11⟩
    rw [t2.out]
    replace HR := Lib.hid (HR.out.below F11); replace RP := Lib.hid (RP.out.below F11); replace RS := Lib.hid (RS.out.below F11)
    have B11 := Lib.hid (B10.out.trans (F11.mono B10.out.size))
    clear F11 B10
    go_wp2_with fail
    refine (ticks_c HR.out h601.out).mono ?_
    rintro r w12 ⟨rfl, F12⟩
    replace HR := Lib.hid (HR.out.below F12); replace RP := Lib.hid (RP.out.below F12); replace RS := Lib.hid (RS.out.below F12)
    have B12 := Lib.hid (B11.out.trans (F12.mono B11.out.size))
    clear F12 B11
    go_wp2_with fail
    go_loopw [50] (fun ii wr => ∃ m : Nat, ii = .int .i64 m ∧ Hid (m ≤ ss.length) ∧ Hid (Below w12.heap.size w12 wr)) (fun ii _ => ss.length - (intOf ii).toNat)
    case atStart => exact ⟨0, rfl, Lib.hid (Nat.zero_le _), Lib.hid (Below.refl _ _)⟩
    case round =>
      obtain ⟨m, rfl, hm, hB⟩ := hrel
      by_cases hlt : m < ss.length
      · have hm5 : m < 20000 := by have := l2.out; omega
        have RS' := RS
        obtain ⟨b, off, e0, hbl, c0, c1, c2, c3, c4, c5, c6, c7, c8⟩ := RowAt.en RS.out hlt
        subst e0
        rw [← hB.out.cell (p := ⟨b, _, none⟩) hbl] at c0 c1 c2 c3 c4 c5 c6 c7 c8
        have hre := r1.out _ (List.getElem_mem hlt)
        have hfu := full_at f1.out
        obtain ⟨e, he⟩ : ∃ e, e = ss[m] := ⟨_, rfl⟩
        rw [← he] at c0 c1 c2 c3 c4 c5 c6 c7 c8 hre
        replace he := Lib.hid he; replace hre := Lib.hid hre; replace hfu := Lib.hid hfu
        go_wp2_with fail
        generalize hW : wr.alloc _ = W at *
        have y0 : RowAt En.cells 9 W (some ⟨wr.heap.size, 0, none⟩) [e] := by rw [← hW]; exact rowAt_new1 (E := enE) wr _ _ e rfl rfl
        have hBW : Below w12.heap.size w12 W := by rw [← hW]; exact Below.alloc hB.out hB.out.size _
        clear hW
        refine (right15_c W e).mono ?_
        rintro r w13 ⟨rfl, F13⟩
        rw [hre.out]
        obtain ⟨g0, g1, g2, g3, g4, g5, g6, g7, g8⟩ := (y0.below F13).en0
        have hB13 := Lib.hid (hBW.trans (F13.mono hBW.size))
        clear y0 hBW F13 hB c0 c1 c2 c3 c4 c5 c6 c7 c8
        cases m with
        | zero =>
          go_wp2
          exact ⟨⟨1, by go_num, Lib.hid (by omega), hB13⟩, by simp [intOf]; omega⟩
        | succ m' =>
          have hm' : m' < ss.length := by omega
          obtain ⟨b', off', e0', hbl', d0, d1, d2, d3, d4, d5, d6, d7, d8⟩ := RowAt.en RS.out hm'
          injection e0' with e0'
          injection e0' with e1' e2'
          subst e1'; subst e2'
          rw [← hB13.out.cell (p := ⟨b, _, none⟩) hbl'] at d0 d2
          have hw : wrap64 (((m' + 1 : Nat) : Int) - 1) = (m' : Int) := by unfold wrap64; omega
          have hw3 : IntKind.i64.wrap (m' : Int) = (m' : Int) := by rw [IntKind.wrap_i64]; omega
          have hi1 : (m' : Int) < (ss.length : Int) := by omega
          have hi0 : (0 : Int) < (m' : Int) + 1 := by omega
          have hfull := hfu.out m' hlt
          rw [← he.out] at hfull
          obtain ⟨q, hq⟩ : ∃ q, q = ss[m'] := ⟨_, rfl⟩
          rw [← hq] at d0 d2 hfull
          replace hq := Lib.hid hq; replace hfull := Lib.hid hfull
          clear d1 d3 d4 d5 d6 d7 d8 hbl'
          by_cases z1 : e.kind = 0
          · have z1' : (e.kind == 0) = true := beq_iff_eq.mpr z1
            by_cases z2 : q.kind = 0
            · have z2' : (q.kind == 0) = true := beq_iff_eq.mpr z2
              have z3 := hfull.out z2 z1
              have z3' : (q.n != 100) = false := by rw [z3]; rfl
              replace z1 := Lib.hid z1; replace z2 := Lib.hid z2; replace z3 := Lib.hid z3
              go_wp2
              exact ⟨⟨m' + 2, by go_num, Lib.hid (by omega), hB13⟩, by simp [intOf]; omega⟩
            · have z2' : (q.kind == 0) = false := beq_eq_false_iff_ne.mpr z2
              replace z1 := Lib.hid z1; replace z2 := Lib.hid z2
              go_wp2
              exact ⟨⟨m' + 2, by go_num, Lib.hid (by omega), hB13⟩, by simp [intOf]; omega⟩
          · have z1' : (e.kind == 0) = false := beq_eq_false_iff_ne.mpr z1
            replace z1 := Lib.hid z1
            go_wp2
            exact ⟨⟨m' + 2, by go_num, Lib.hid (by omega), hB13⟩, by simp [intOf]; omega⟩
      · have B13 := Lib.hid (B12.out.trans (hB.out.mono B12.out.size))
        replace HR := Lib.hid (HR.out.below hB.out); replace RP := Lib.hid (RP.out.below hB.out); replace RS := Lib.hid (RS.out.below hB.out)
        clear hB B12
        go_wp2_with fail
        refine (others_c RP.out l6.out who).mono ?_
        rintro r w14 ⟨v14, rfl, P14, F14⟩
        rw [q3.out] at P14
        replace HR := Lib.hid (HR.out.below F14); replace RP := Lib.hid (RP.out.below F14); replace RS := Lib.hid (RS.out.below F14)
        have B14 := Lib.hid (B13.out.trans (F14.mono B13.out.size))
        obtain ⟨A14, k14, rfl, _⟩ := P14.slice
        clear P14 F14 B13
        by_cases hwo : who = other
        · have e1 : (who == other) = true := beq_iff_eq.mpr hwo
          replace hwo := Lib.hid hwo
          go_wp2_with fail
          refine (project_c RS.out l7.out who).mono ?_
          rintro r w20 ⟨v20, rfl, P20, F20⟩
          rw [← hsf0.out] at P20
          replace RP := Lib.hid (RP.out.below F20)
          have B20 := Lib.hid (B14.out.trans (F20.mono B14.out.size))
          obtain ⟨A20, k20, rfl, _⟩ := P20.slice
          have R20 := Lib.hid P20.row.1
          clear P20 F20 B14
          go_wp2_with fail
          refine (squeeze_c R20.out l4.out k3.out).mono ?_
          rintro r w21 ⟨v21, rfl, P21, F21⟩
          rw [q6.out] at P21
          replace RP := Lib.hid (RP.out.below F21)
          have B21 := Lib.hid (B20.out.trans (F21.mono B20.out.size))
          obtain ⟨A21, k21, rfl, _⟩ := P21.slice
          have R21 := Lib.hid P21.row.1
          clear P21 F21 B20 R20
          go_wp2_with fail
          refine (squeeze_c RP.out l8.out k1.out).mono ?_
          rintro r w22 ⟨v22, rfl, P22, F22⟩
          rw [← hsp0.out] at P22
          have R23 := Lib.hid (R21.out.below F22)
          have B22 := Lib.hid (B21.out.trans (F22.mono B21.out.size))
          obtain ⟨A22, k22, rfl, _⟩ := P22.slice
          have R22 := Lib.hid P22.row.1
          clear P22 F22 B21 R21
          go_wp2_with fail
          refine (same15_c R23.out R22.out l5.out l5.out).mono ?_
          rintro r w23 ⟨rfl, F23⟩
          rw [decide_eq_true (rfl : sp = sp)]
          have B23 := Lib.hid (B22.out.trans (F23.mono B22.out.size))
          clear F23
          go_wp2
          go_ret
          exact ⟨rfl, B23.out⟩
        · have e1 : (who == other) = false := beq_eq_false_iff_ne.mpr hwo
          replace hwo := Lib.hid hwo
          go_wp2_with fail
          refine (project_c RP.out l6.out other).mono ?_
          rintro r w15 ⟨v15, rfl, P15, F15⟩
          rw [← hpo0.out] at P15
          replace HR := Lib.hid (HR.out.below F15); replace RP := Lib.hid (RP.out.below F15); replace RS := Lib.hid (RS.out.below F15)
          have B15 := Lib.hid (B14.out.trans (F15.mono B14.out.size))
          obtain ⟨A15, k15, rfl, _⟩ := P15.slice
          have R15 := Lib.hid P15.row.1
          clear P15 F15 B14
          go_wp2_with fail
          refine (ticks_c R15.out l3.out).mono ?_
          rintro r w16 ⟨rfl, F16⟩
          rw [q5.out, t2.out]
          replace HR := Lib.hid (HR.out.below F16); replace RP := Lib.hid (RP.out.below F16); replace RS := Lib.hid (RS.out.below F16)
          have B16 := Lib.hid (B15.out.trans (F16.mono B15.out.size))
          clear R15 F16 B15
          go_wp2_with fail
          refine (ticks_c HR.out h601.out).mono ?_
          rintro r w17 ⟨rfl, F17⟩
          replace HR := Lib.hid (HR.out.below F17); replace RP := Lib.hid (RP.out.below F17); replace RS := Lib.hid (RS.out.below F17)
          have B17 := Lib.hid (B16.out.trans (F17.mono B16.out.size))
          clear F17 B16
          go_wp2_with fail
          refine (project_c RP.out l6.out other).mono ?_
          rintro r w18 ⟨v18, rfl, P18, F18⟩
          rw [← hpo0.out] at P18
          replace HR := Lib.hid (HR.out.below F18); replace RP := Lib.hid (RP.out.below F18); replace RS := Lib.hid (RS.out.below F18)
          have B18 := Lib.hid (B17.out.trans (F18.mono B17.out.size))
          obtain ⟨A18, k18, rfl, _⟩ := P18.slice
          have R18 := Lib.hid P18.row.1
          clear P18 F18 B17
          go_wp2_with fail
          refine (others_c R18.out l3.out other).mono ?_
          rintro r w19 ⟨v19, rfl, P19, F19⟩
          rw [q4.out] at P19
          replace HR := Lib.hid (HR.out.below F19); replace RP := Lib.hid (RP.out.below F19); replace RS := Lib.hid (RS.out.below F19)
          have B14 := Lib.hid (B18.out.trans (F19.mono B18.out.size))
          obtain ⟨A19, k19, rfl, _⟩ := P19.slice
          clear P19 F19 B18 R18
          go_wp2_with fail
          refine (project_c RS.out l7.out who).mono ?_
          rintro r w20 ⟨v20, rfl, P20, F20⟩
          rw [← hsf0.out] at P20
          replace RP := Lib.hid (RP.out.below F20)
          have B20 := Lib.hid (B14.out.trans (F20.mono B14.out.size))
          obtain ⟨A20, k20, rfl, _⟩ := P20.slice
          have R20 := Lib.hid P20.row.1
          clear P20 F20 B14
          go_wp2_with fail
          refine (squeeze_c R20.out l4.out k3.out).mono ?_
          rintro r w21 ⟨v21, rfl, P21, F21⟩
          rw [q6.out] at P21
          replace RP := Lib.hid (RP.out.below F21)
          have B21 := Lib.hid (B20.out.trans (F21.mono B20.out.size))
          obtain ⟨A21, k21, rfl, _⟩ := P21.slice
          have R21 := Lib.hid P21.row.1
          clear P21 F21 B20 R20
          go_wp2_with fail
          refine (squeeze_c RP.out l8.out k1.out).mono ?_
          rintro r w22 ⟨v22, rfl, P22, F22⟩
          rw [← hsp0.out] at P22
          have R23 := Lib.hid (R21.out.below F22)
          have B22 := Lib.hid (B21.out.trans (F22.mono B21.out.size))
          obtain ⟨A22, k22, rfl, _⟩ := P22.slice
          have R22 := Lib.hid P22.row.1
          clear P22 F22 B21 R21
          go_wp2_with fail
          refine (same15_c R23.out R22.out l5.out l5.out).mono ?_
          rintro r w23 ⟨rfl, F23⟩
          rw [decide_eq_true (rfl : sp = sp)]
          have B23 := Lib.hid (B22.out.trans (F23.mono B22.out.size))
          clear F23
          go_wp2
          go_ret
          exact ⟨rfl, B23.out⟩
end Go.Proofs.Ytamnibfaoikdbaa
