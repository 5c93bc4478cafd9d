/- PollApart: the law, walked: of every row of steps the answer is true. Condition: the row that comes in lies in memory as the row says. -/
import Derived.Test.YtblapbnplflghaaPlAl
import Derived.Test.YtblapbnplflghaaKb
import Derived.Test.YtblapbnplflghaaOp13
import Derived.Test.YtblapbnplflghaaBits
import Derived.Deep.DeepCutAuto
import Derived.Deep.CutBlock
namespace Go.Proofs.Ytblapbnplflghaa
open Go.RowKit
set_option linter.unusedVariables false
set_option linter.unusedSimpArgs false
set_option linter.unusedSectionVars false
set_option maxRecDepth 100000

theorem mask_na (j : Nat) (m : Int) (hm : (bv m).toNat = 2 ^ j - 1) (hj : j < 64) (a : Int) : ∃ K : Nat, bits .and .i64 a m = (K : Int) ∧ K < 2 ^ j := by
  have := and_mask j m hm hj a
  have hp : (0 : Int) < ((2 ^ j : Nat) : Int) := by exact_mod_cast Nat.two_pow_pos j
  refine ⟨(a % (2 ^ j : Nat)).toNat, by rw [this, Int.toNat_of_nonneg (Int.emod_nonneg _ (by omega))], ?_⟩
  have h1 := Int.emod_lt_of_pos a hp
  have h2 := Int.emod_nonneg a (show ((2 ^ j : Nat) : Int) ≠ 0 by omega)
  omega

set_option maxHeartbeats 16000000 in
theorem apart13_walk (A0 : Option Addr) (c0 : Nat) (xs : List Op13) (w : World) (hr0 : RowAt Op13.cells 5 w A0 xs) :
    Calls Try.prog 6 #[.slice A0 xs.length c0] w fun e w' => e = .returned (.bool true) ∧ Below w.heap.size w w' := by
  have al := Lib.hid (alive13_c w)
  have R1 := Lib.hid hr0
  obtain ⟨NA, hA⟩ : ∃ n, n = xs.length := ⟨_, rfl⟩
  rw [← hA]
  replace hA := Lib.hid hA
  clear hr0
  by_cases hbig : 40 < NA
  · have d1 : decide ((40 : Int) < (NA : Int)) = true := decide_eq_true (by omega)
    have d2 : decide (40 < NA) = true := decide_eq_true hbig
    go_enter Try.func6, Try.ntmps6
    go_wp2_with fail
    refine al.out.mono ?_
    rintro e w1 ⟨rfl, F⟩
    replace F := Lib.hid F
    go_wp2
    go_ret
    exact ⟨rfl, F.out⟩
  have d1 : decide ((40 : Int) < (NA : Int)) = false := decide_eq_false (by omega)
  have d2 : decide (40 < NA) = false := decide_eq_false hbig
  have hA40 : NA ≤ 40 := by omega
  clear hbig
  go_enter Try.func6, Try.ntmps6
  go_wp2_with fail
  refine al.out.mono ?_
  rintro e w1 ⟨rfl, F⟩
  have B1 := Lib.hid F
  clear F al
  go_wp2_with fail
  refine (newQ_c w1 0 2 2 0 2 2 rfl rfl rfl (by decide)).mono ?_
  rintro e w2 ⟨q, l, L, M, rfl, Q, l1, l2, l3, l4, B⟩
  replace Q := Lib.hid Q; replace B := Lib.hid B
  have lq := Lib.hid (And.intro l1 (And.intro l2 (And.intro l3 l4)))
  clear l1 l2 l3 l4
  go_wp2_with fail
  refine (newQ_c w2 0 2 2 0 2 2 rfl rfl rfl (by decide)).mono ?_
  rintro e w3 ⟨q', l', L', M', rfl, Q', l1, l2, l3, l4, B'⟩
  replace Q' := Lib.hid Q'; replace B' := Lib.hid B'
  have lq' := Lib.hid (And.intro l1 (And.intro l2 (And.intro l3 l4)))
  clear l1 l2 l3 l4
  go_wp2_with fail
  refine (new_p (Q.out.below B'.out) 2 64 (by decide) (cap := 64) (by decide)).mono ?_
  rintro e w4 ⟨p, g, Bx, c, rfl, N⟩
  replace N := Lib.hid N
  go_wp2_with fail
  refine (new_p (Q'.out.below N.out.F) 2 64 (by decide) (cap := 64) (by decide)).mono ?_
  rintro e w5 ⟨p', g', Bx', c', rfl, N'⟩
  have T0 := twoOwn lq.out Q.out B.out lq'.out Q'.out B'.out N.out N'
  obtain ⟨D, hD⟩ : ∃ D : PoD, D = ⟨p, g, Bx, c, q, l, L, M, 2, 64, 0, 2⟩ := ⟨_, rfl⟩
  obtain ⟨D', hD'⟩ : ∃ D' : PoD, D' = ⟨p', g', Bx', c', q', l', L', M', 2, 64, 0, 2⟩ := ⟨_, rfl⟩
  obtain ⟨rfl, rfl⟩ : p = D.p ∧ q = D.q := by rw [hD]; exact ⟨rfl, rfl⟩
  obtain ⟨rfl, rfl⟩ : p' = D'.p ∧ q' = D'.q := by rw [hD']; exact ⟨rfl, rfl⟩
  have tw := Lib.hid (show D.Two by rw [hD]; exact ⟨rfl, rfl, rfl, rfl⟩)
  have tw' := Lib.hid (show D'.Two by rw [hD']; exact ⟨rfl, rfl, rfl, rfl⟩)
  rw [← hD, ← hD'] at T0
  replace T0 := Lib.hid T0
  clear hD hD' Q B lq Q' B' lq' N N'
  go_wp2_with fail
  go_loopw [28] (fun ii wr => ∃ (i : Nat) (s s' : PS), ii = .int .i64 i ∧ Hid (i ≤ NA) ∧ Hid (TwS w1 wr D D' s s') ∧ Hid (ApS s s' i)) (fun ii _ => NA - (intOf ii).toNat)
  case atStart => exact ⟨0, _, _, rfl, Lib.hid (Nat.zero_le _), T0, Lib.hid Ap.start⟩
  case round =>
    clear T0
    obtain ⟨i, s, s', rfl, hi, S, I⟩ := hrel
    by_cases hlt : i < NA
    · have hlx : i < xs.length := by rw [← hA.out]; exact hlt
      obtain ⟨bb, off, rfl, hbl, c0, c1, c2, c3, c4⟩ := R1.out.op13 hlx
      generalize xs[i] = z at *
      obtain ⟨zk, zd, zm, zh, zo⟩ := z
      dsimp only at c0 c1 c2 c3 c4
      have Bw := B1.out.trans (S.out.S.B.mono B1.out.size)
      replace c0 := (Bw.cell (p := ⟨bb, off + i * 5, none⟩) hbl).trans c0
      replace c1 := (Bw.cell (p := ⟨bb, off + i * 5 + 1, none⟩) hbl).trans c1
      replace c2 := (Bw.cell (p := ⟨bb, off + i * 5 + 2, none⟩) hbl).trans c2
      replace c3 := (Bw.cell (p := ⟨bb, off + i * 5 + 3, none⟩) hbl).trans c3
      replace c4 := (Bw.cell (p := ⟨bb, off + i * 5 + 4, none⟩) hbl).trans c4
      have hlH := Lib.hid hlt
      have hi64 : i < 64 := by omega
      have hi41 : i < 41 := by omega
      obtain ⟨K, eK, hK⟩ := mask_na 1 1 (by decide) (by decide) zd
      replace hK : K < 2 := hK
      have y1 := (Cel.new wr #[.int .i64 zk, .int .i64 zd, .int .i64 zm, .int .u64 zh, .int .i64 zo] 32 1 _ rfl).1
      have O0 := Lib.hid (show OpA ((wr.alloc (.cells #[.int .i64 zk, .int .i64 K, .int .i64 zm, .int .u64 zh, .int .i64 zo] 32)).alloc (.cells #[.pointer (some ⟨D.p, 0, none⟩), .pointer (some ⟨D'.p, 0, none⟩)] 26)) D D' wr.heap.size (wr.heap.size + 1) zk K zm zh zo from by
        have hv : (wr.alloc (.cells #[.int .i64 zk, .int .i64 K, .int .i64 zm, .int .u64 zh, .int .i64 zo] 32)).heap.size = wr.heap.size + 1 := World.size_alloc _ _
        refine ⟨(Cel.new wr _ _ 0 _ rfl).alloc _, (Cel.new wr _ _ 1 _ rfl).alloc _, (Cel.new wr _ _ 2 _ rfl).alloc _, (Cel.new wr _ _ 3 _ rfl).alloc _, (Cel.new wr _ _ 4 _ rfl).alloc _, fun j hj => ?_, fun b hb => ?_⟩
        · have h := Cel.new (wr.alloc (.cells #[.int .i64 zk, .int .i64 K, .int .i64 zm, .int .u64 zh, .int .i64 zo] 32)) #[.pointer (some ⟨D.p, 0, none⟩), .pointer (some ⟨D'.p, 0, none⟩)] 26 j (.pointer (some ⟨if j = 0 then D.p else D'.p, 0, none⟩)) (by
            have : j = 0 ∨ j = 1 := by omega
            rcases this with rfl | rfl <;> rfl)
          rw [hv] at h; exact h
        · rcases hb with hb | hb
          · have := S.out.S.S.lt hb; omega
          · have := S.out.S'.S.lt hb; omega)
      have N0 := Lib.hid (InS.start (k := kOf zk) (K := K) (m := zm) (hd := zh) (o := zo) (S.out.below (blA (blA (Below.refl _ _) (.cells #[.int .i64 zk, .int .i64 K, .int .i64 zm, .int .u64 zh, .int .i64 zo] 32)) (.cells #[.pointer (some ⟨D.p, 0, none⟩), .pointer (some ⟨D'.p, 0, none⟩)] 26))))
      have I2 := Lib.hid (ApS.turn (k := kOf zk) (m := zm) (hd := zh) (o := zo) I.out hi64 tw.out tw'.out hK)
      clear Bw hbl
      go_wp2_with fail
      generalize (wr.alloc (.cells #[.int .i64 zk, .int .i64 K, .int .i64 zm, .int .u64 zh, .int .i64 zo] 32)).alloc (.cells #[.pointer (some ⟨D.p, 0, none⟩), .pointer (some ⟨D'.p, 0, none⟩)] 26) = wz at *
      generalize hV : wr.heap.size + 1 = V at *
      generalize wr.heap.size = Z at *
      replace hV := Lib.hid hV
      clear y1 c0 c1 c2 c3 c4 S I
      go_loopw [40] (fun jj wx => ∃ j : Nat, jj = .int .i64 j ∧ Hid (InS w1 wx D D' (kOf zk) K zm zh zo s s' j) ∧ Hid (OpA wx D D' Z V zk K zm zh zo)) (fun jj _ => 2 - (intOf jj).toNat)
      case atStart => exact ⟨0, rfl, N0, O0⟩
      case round =>
        clear N0 O0
        obtain ⟨j, rfl, N, O⟩ := hrel
        by_cases hj : j < 2
        · have hj2 := Lib.hid hj
          have v1 := (O.out.v j hj).1
          generalize hP : (if j = 0 then D.p else D'.p) = Px at v1
          replace hP := Lib.hid hP
          have t0 := O.out.c0.1; have t1 := O.out.c1.1; have t2 := O.out.c2.1; have t3 := O.out.c3.1; have t4 := O.out.c4.1
          obtain ⟨sk, hsk⟩ : ∃ sk : Bool, sk = decide (¬ (j = 1 → K = 0 ∨ kOf zk = 6)) := ⟨_, rfl⟩
          replace hsk := Lib.hid hsk
          go_upto_region 14 with fail
          go_cut [56] (fun v wx => v = .bool sk ∧ wx = wr)
          case first =>
            by_cases e1 : j = 1
            · have q1 : ((j : Int) == 1) = true := by simp [e1]
              by_cases e2 : K = 1
              · have q2 : ((K : Int) == 1) = true := by simp [e2]
                by_cases e3 : zk = 6
                · have q3 : (zk != 6) = false := by simp [e3]
                  have hs := Lib.hid (show sk = false by rw [hsk.out]; exact decide_eq_false (fun h => h (fun _ => .inr ((kOf6 zk).2 e3))))
                  clear e1 e2 e3 hj
                  go_wp2_with fail
                  go_meet
                  exact ⟨by rw [hs.out], rfl⟩
                · have q3 : (zk != 6) = true := by simp [e3]
                  have hs := Lib.hid (show sk = true by
                    rw [hsk.out]; refine decide_eq_true (fun h => ?_)
                    rcases h e1 with h | h
                    · omega
                    · exact e3 ((kOf6 zk).1 h))
                  clear e1 e2 e3 hj
                  go_wp2_with fail
                  go_meet
                  exact ⟨by rw [hs.out], rfl⟩
              · have q2 : ((K : Int) == 1) = false := beq_eq_false_iff_ne.mpr (by omega)
                have hs := Lib.hid (show sk = false by rw [hsk.out]; exact decide_eq_false (fun h => h (fun _ => .inl (by omega))))
                clear e1 e2 hj
                go_wp2_with fail
                go_meet
                exact ⟨by rw [hs.out], rfl⟩
            · have q1 : ((j : Int) == 1) = false := beq_eq_false_iff_ne.mpr (by omega)
              have hs := Lib.hid (show sk = false by rw [hsk.out]; exact decide_eq_false (fun h => h (fun e => absurd e e1)))
              clear e1 hj
              go_wp2_with fail
              go_meet
              exact ⟨by rw [hs.out], rfl⟩
          obtain ⟨rfl, rfl⟩ := hcut
          cases sk with
          | true =>
            have hn : ¬ (j = 1 → K = 0 ∨ kOf zk = 6) := of_decide_eq_true hsk.out.symm
            obtain rfl : 1 = j := by
              apply Classical.byContradiction
              intro h
              exact hn (fun e => absurd e.symm h)
            have N6 := Lib.hid (N.out.skip (fun h => hn (fun _ => h)))
            clear hn
            go_wp2
            go_roundw
            case rel => exact ⟨2, by go_num, N6, O⟩
            case measure => simp [intOf]
          | false =>
            have hn : (j = 1 → K = 0 ∨ kOf zk = 6) := by
              apply Classical.byContradiction
              intro h
              have := hsk.out
              rw [decide_eq_true h] at this
              cases this
            obtain ⟨Dx, x, hx, hDx, nf, hgx, P, nx⟩ := N.out.at hj hn
            rw [hP.out] at hx
            subst hx
            replace P := Lib.hid P; replace nx := Lib.hid nx; replace nf := Lib.hid nf
            have hn2 : Dx.n = 2 := hDx.elim (fun e => by rw [e]; exact tw.out.n) (fun e => by rw [e]; exact tw'.out.n)
            have hKx : K < x.gs.length := by rw [hgx, hn2]; exact hK
            have hgd : x.gs.getD K noG = x.gs[K] := by simp [hKx]
            replace hgd := Lib.hid hgd
            clear hn hgx hn2 hj v1 hDx
            by_cases z0 : zk = 0
            · subst z0
              go_wp2_with fail
              refine (open_p P.out hKx).mono ?_
              rintro e w6 ⟨rfl, P6, F6⟩
              have N6 := Lib.hid (nx.out w6 (by first | (simp only [stp, kOf, hgd.out]; exact P6) | exact P6) F6)
              have O6 := Lib.hid (O.out.fr F6 nf.out)
              clear P6 F6 P nx nf O t0 t1 t2 t3 t4
              go_wp2
              go_roundw
              case rel => exact ⟨j + 1, by go_num, N6, O6⟩
              case measure => have := hj2.out; simp [intOf]; omega
            have b0 : (zk == 0) = false := beq_eq_false_iff_ne.mpr z0
            by_cases z1 : zk = 1
            · subst z1
              go_wp2_with fail
              refine (close_p P.out hKx).mono ?_
              rintro e w6 ⟨rfl, P6, F6⟩
              have N6 := Lib.hid (nx.out w6 (by first | (simp only [stp, kOf, hgd.out]; exact P6) | exact P6) F6)
              have O6 := Lib.hid (O.out.fr F6 nf.out)
              clear P6 F6 P nx nf O t0 t1 t2 t3 t4
              go_wp2
              go_roundw
              case rel => exact ⟨j + 1, by go_num, N6, O6⟩
              case measure => have := hj2.out; simp [intOf]; omega
            have b1 : (zk == 1) = false := beq_eq_false_iff_ne.mpr z1
            by_cases z2 : zk = 2
            · subst z2
              go_wp2_with fail
              refine (post_p P.out hKx zm).mono ?_
              rintro e w6 ⟨rfl, P6, F6⟩
              have N6 := Lib.hid (nx.out w6 (by first | (simp only [stp, kOf, hgd.out]; exact P6) | exact P6) F6)
              have O6 := Lib.hid (O.out.fr F6 nf.out)
              clear P6 F6 P nx nf O t0 t1 t2 t3 t4
              go_wp2
              go_roundw
              case rel => exact ⟨j + 1, by go_num, N6, O6⟩
              case measure => have := hj2.out; simp [intOf]; omega
            have b2 : (zk == 2) = false := beq_eq_false_iff_ne.mpr z2
            by_cases z3 : zk = 3
            · subst z3
              go_wp2_with fail
              refine (watch_p P.out hKx zh zm zo).mono ?_
              rintro e w6 ⟨rfl, P6, F6⟩
              have N6 := Lib.hid (nx.out w6 (by first | (simp only [stp, kOf, hgd.out]; exact P6) | exact P6) F6)
              have O6 := Lib.hid (O.out.fr F6 nf.out)
              clear P6 F6 P nx nf O t0 t1 t2 t3 t4
              go_wp2
              go_roundw
              case rel => exact ⟨j + 1, by go_num, N6, O6⟩
              case measure => have := hj2.out; simp [intOf]; omega
            have b3 : (zk == 3) = false := beq_eq_false_iff_ne.mpr z3
            by_cases z4 : zk = 4
            · subst z4
              go_wp2_with fail
              refine (unwatch_p P.out hKx).mono ?_
              rintro e w6 ⟨rfl, P6, F6⟩
              have N6 := Lib.hid (nx.out w6 (by first | (simp only [stp, kOf, hgd.out]; exact P6) | exact P6) F6)
              have O6 := Lib.hid (O.out.fr F6 nf.out)
              clear P6 F6 P nx nf O t0 t1 t2 t3 t4
              go_wp2
              go_roundw
              case rel => exact ⟨j + 1, by go_num, N6, O6⟩
              case measure => have := hj2.out; simp [intOf]; omega
            have b4 : (zk == 4) = false := beq_eq_false_iff_ne.mpr z4
            by_cases z5 : zk = 5
            · subst z5
              go_wp2_with fail
              refine (ack_p P.out hKx zm).mono ?_
              rintro e w6 ⟨rfl, P6, F6⟩
              have N6 := Lib.hid (nx.out w6 (by first | (simp only [stp, kOf, hgd.out]; exact P6) | exact P6) F6)
              have O6 := Lib.hid (O.out.fr F6 nf.out)
              clear P6 F6 P nx nf O t0 t1 t2 t3 t4
              go_wp2
              go_roundw
              case rel => exact ⟨j + 1, by go_num, N6, O6⟩
              case measure => have := hj2.out; simp [intOf]; omega
            have b5 : (zk == 5) = false := beq_eq_false_iff_ne.mpr z5
            by_cases z6 : zk = 6
            · subst z6
              go_wp2_with fail
              refine (settle_p P.out).mono ?_
              rintro e w6 ⟨rfl, P6, F6⟩
              have N6 := Lib.hid (nx.out w6 (by first | (simp only [stp, kOf, hgd.out]; exact P6) | exact P6) F6)
              have O6 := Lib.hid (O.out.fr F6 nf.out)
              clear P6 F6 P nx nf O t0 t1 t2 t3 t4
              go_wp2
              go_roundw
              case rel => exact ⟨j + 1, by go_num, N6, O6⟩
              case measure => have := hj2.out; simp [intOf]; omega
            have b6 : (zk == 6) = false := beq_eq_false_iff_ne.mpr z6
            have hk7 : kOf zk = 7 := by unfold kOf; rw [if_neg z0, if_neg z1, if_neg z2, if_neg z3, if_neg z4, if_neg z5, if_neg z6]
            have N6 := Lib.hid (nx.out _ (by rw [hk7]; exact P.out) (FrB.refl _ _))
            clear z0 z1 z2 z3 z4 z5 z6 hk7 P nx nf
            go_wp2
            go_roundw
            case rel => exact ⟨j + 1, by go_num, N6, O⟩
            case measure => have := hj2.out; simp [intOf]; omega
        · obtain rfl : 2 = j := by have := N.out.le; omega
          have T9 := Lib.hid N.out.end
          generalize stp D (kOf zk) K zm zh zo s = a at *
          generalize (if K = 0 ∨ kOf zk = 6 then stp D' (kOf zk) K zm zh zo s' else s') = a' at *
          clear N O hj
          have hg1 : 0 < a.gs.length := by have := (Ap.len I2.out).1; omega
          have hg2 : 0 < a'.gs.length := by have := (Ap.len I2.out).2; omega
          have hge : a.gs[0] = a'.gs[0] := by
            have := Ap.g0 I2.out
            simpa [hg1, hg2] using this
          have lk1 := look_p T9.out.S.S hg1
          have lk2 := Lib.hid (fun w2 (h : TwS w1 w2 D D' a a') => look_p h.S'.S hg2)
          have hq1 := Lib.hid (fun w2 (h : TwS w1 w2 D D' a a') => hasQ_c h.S.S.qu (2, 0))
          have hq2 := Lib.hid (fun w2 (h : TwS w1 w2 D D' a a') => hasQ_c h.S'.S.qu (2, 0))
          rw [hge] at lk1
          have hb := Lib.hid (show decide ((2, 0) ∈ a'.T) = decide ((2, 0) ∈ a.T) from decide_eq_decide.mpr (Ap.t0 I2.out).symm)
          rw [hb.out] at hq2
          generalize decide (((2, 0) : Th) ∈ a.T) = bb1 at *
          have bq : (bb1 != bb1) = false := by simp
          generalize a'.gs[0] = gg at *
          obtain ⟨op, ready, late, handle, want, mode, told⟩ := gg
          unfold lookV at lk1 lk2
          dsimp only at lk1 lk2
          have eqL := eqLook op ready late handle want mode told
          replace lk1 := Lib.hid lk1
          clear hge hb hg1 hg2
          go_wp2_with fail
          refine lk1.out.mono ?_
          rintro e w6 ⟨rfl, F6⟩
          have T10 := Lib.hid (T9.out.below F6)
          clear F6 lk1 T9
          have FA := blA (Below.refl w6.heap.size w6) (.cells #[.bool op, .int .i64 ready, .int .i64 late, .int .u64 handle, .int .i64 want, .int .i64 mode, .int .i64 told] 38)
          replace T10 := Lib.hid (T10.out.below FA)
          have cs := Lib.hid (show ∀ (j : Nat) (u : Value), (#[.bool op, .int .i64 ready, .int .i64 late, .int .u64 handle, .int .i64 want, .int .i64 mode, .int .i64 told] : Array Value)[j]? = some u → Cel (w6.alloc (.cells #[.bool op, .int .i64 ready, .int .i64 late, .int .u64 handle, .int .i64 want, .int .i64 mode, .int .i64 told] 38)) w6.heap.size j u from fun j u h => Cel.new w6 _ _ j u h)
          clear FA
          go_wp2_with fail
          generalize w6.alloc (.cells #[.bool op, .int .i64 ready, .int .i64 late, .int .u64 handle, .int .i64 want, .int .i64 mode, .int .i64 told] 38) = w7 at *
          generalize w6.heap.size = Z1 at *
          refine (lk2.out _ T10.out).mono ?_
          rintro e w8 ⟨rfl, F8⟩
          have T11 := Lib.hid ((T10.out.below F8).below (blA (Below.refl w8.heap.size w8) (.cells #[.bool op, .int .i64 ready, .int .i64 late, .int .u64 handle, .int .i64 want, .int .i64 mode, .int .i64 told] 38)))
          have cs2 := Lib.hid (show ∀ (j : Nat) (u : Value), (#[.bool op, .int .i64 ready, .int .i64 late, .int .u64 handle, .int .i64 want, .int .i64 mode, .int .i64 told] : Array Value)[j]? = some u → Cel (w8.alloc (.cells #[.bool op, .int .i64 ready, .int .i64 late, .int .u64 handle, .int .i64 want, .int .i64 mode, .int .i64 told] 38)) Z1 j u from fun j u h => ((cs.out j u h).frb (FrB.of_below (S := fun _ => False) F8 (Nat.le_refl _)) (fun h => h)).alloc _)
          have cs3 := Lib.hid (show ∀ (j : Nat) (u : Value), (#[.bool op, .int .i64 ready, .int .i64 late, .int .u64 handle, .int .i64 want, .int .i64 mode, .int .i64 told] : Array Value)[j]? = some u → Cel (w8.alloc (.cells #[.bool op, .int .i64 ready, .int .i64 late, .int .u64 handle, .int .i64 want, .int .i64 mode, .int .i64 told] 38)) w8.heap.size j u from fun j u h => Cel.new w8 _ _ j u h)
          have a0 := (cs2.out 0 _ rfl).1; have a1 := (cs2.out 1 _ rfl).1; have a2 := (cs2.out 2 _ rfl).1; have a3 := (cs2.out 3 _ rfl).1; have a4 := (cs2.out 4 _ rfl).1; have a5 := (cs2.out 5 _ rfl).1; have a6 := (cs2.out 6 _ rfl).1
          have e0 := (cs3.out 0 _ rfl).1; have e1 := (cs3.out 1 _ rfl).1; have e2 := (cs3.out 2 _ rfl).1; have e3 := (cs3.out 3 _ rfl).1; have e4 := (cs3.out 4 _ rfl).1; have e5 := (cs3.out 5 _ rfl).1; have e6 := (cs3.out 6 _ rfl).1
          clear F8 T10 cs cs2 cs3 lk2
          go_wp2_with fail
          refine (hq1.out _ T11.out).mono ?_
          rintro e w9 ⟨rfl, F9⟩
          have T12 := Lib.hid (T11.out.below F9)
          clear F9 T11 a0 a1 a2 a3 a4 a5 a6 e0 e1 e2 e3 e4 e5 e6 hq1
          go_wp2_with fail
          refine (hq2.out _ T12.out).mono ?_
          rintro e w10 ⟨rfl, F10⟩
          have T13 := Lib.hid (T12.out.below F10)
          clear F10 T12 hq2
          go_wp2
          go_roundw
          case rel => exact ⟨i + 1, a, a', by go_num, hlH, T13, I2⟩
          case measure => have := hlH.out; simp [intOf]; omega
    · go_wp2
      go_ret
      exact ⟨rfl, B1.out.trans (S.out.S.B.mono B1.out.size)⟩
end Go.Proofs.Ytblapbnplflghaa
