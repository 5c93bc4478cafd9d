/- ChainPlays. -/
import Derived.Test.YtdgcppglpmlgkaaSame4
import Derived.BigQuiet
import Derived.Deep.QuietTactic
import Derived.Deep.RegionHeld3
namespace Go.Proofs.Ytdgcppglpmlgkaa
open Go.RowKit
set_option linter.unusedVariables false
set_option linter.unusedSimpArgs false

theorem capI_nat (a : Int) : ∃ n : Nat, capI a = n ∧ n ≤ 4096 := by
  refine ⟨(capI a).toNat, ?_, ?_⟩ <;> (unfold capI; omega)

set_option maxHeartbeats 8000000 in
set_option maxRecDepth 100000 in
theorem plays_walk (na li : Int) (A0 : Option Addr) (cx : Nat) (xs : List Op) (ak al akk : Int) (w : World) (hr : RowAt Op.cells 3 w A0 xs) :
    Calls Try.prog 8 #[.int .i64 na, .int .i64 li, .slice A0 xs.length cx, .agg #[.int .i64 ak, .int .i64 al, .int .i64 akk]] w fun e w' => e = .returned (.bool true) ∧ Below w.heap.size w w' := by
  have Ba := Below.alloc (Below.refl w.heap.size w) (Nat.le_refl _) (.cells #[.int .i64 ak, .int .i64 al, .int .i64 akk] 56)
  have Y1 := Lib.hid (Cel.new w #[.int .i64 ak, .int .i64 al, .int .i64 akk] 56 1 (.int .i64 al) rfl)
  have Y2 := Lib.hid (Cel.new w #[.int .i64 ak, .int .i64 al, .int .i64 akk] 56 2 (.int .i64 akk) rfl)
  have hY := Lib.hid (show w.heap.size < (w.alloc (.cells #[.int .i64 ak, .int .i64 al, .int .i64 akk] 56)).heap.size by simp)
  replace Ba := Lib.hid Ba
  have HR := Lib.hid hr
  clear hr
  by_cases hbig : 50 < xs.length
  · have hb1 : decide ((50 : Int) < (xs.length : Int)) = true := by simp; omega
    go_enter Try.func8, Try.ntmps8
    go_wp2_with fail
    refine (alive_c _).mono ?_
    rintro e w1 ⟨rfl, hB1⟩
    have HB1 := Lib.hid (Ba.out.trans (hB1.mono Ba.out.size))
    clear hB1
    go_wp2
    go_ret
    exact ⟨rfl, HB1.out⟩
  have hb1 : decide ((50 : Int) < (xs.length : Int)) = false := by simp; omega
  replace hbig := Lib.hid hbig
  obtain ⟨n, hn, hn4⟩ := capI_nat na
  obtain ⟨m, hm, hm4⟩ := capI_nat li
  replace hn := Lib.hid hn; replace hm := Lib.hid hm
  go_enter Try.func8, Try.ntmps8
  go_wp2_with fail
  refine (alive_c _).mono ?_
  rintro e w1 ⟨rfl, hB1⟩
  have HB1 := Lib.hid (Ba.out.trans (hB1.mono Ba.out.size))
  have Y1a := Lib.hid (Y1.out.low hB1 hY.out)
  have Y2a := Lib.hid (Y2.out.low hB1 hY.out)
  have hYa := Lib.hid (Nat.lt_of_lt_of_le hY.out hB1.size)
  clear hB1 Y1 Y2 hY Ba
  obtain ⟨Y, hYe⟩ : ∃ Y, Y = w.heap.size := ⟨_, rfl⟩
  rw [← hYe] at Y1a Y2a hYa
  rw [← hYe]
  replace hYe := Lib.hid hYe
  go_wp2_with fail
  refine (new_i w1 na li n m hn.out hm.out).mono ?_
  rintro e w2 ⟨p, L, M, rfl, G, bp, bL, bM, B2⟩
  have HB2 := Lib.hid (HB1.out.trans (B2.mono HB1.out.size))
  have I := Lib.hid (show In3 w1.heap.size w2.heap.size p L M from ⟨bp, G.lt.1, bL, G.lt.2.1, bM, G.lt.2.2.1⟩)
  have Y1b := Lib.hid (Y1a.out.low B2 hYa.out); have Y2b := Lib.hid (Y2a.out.low B2 hYa.out)
  have Z1 := Lib.hid (show w.heap.size ≤ w1.heap.size from HB1.out.size)
  have hYb := Lib.hid (show Y < w1.heap.size from hYa.out)
  clear bp bL bM B2 HB1 Y1a Y2a hYa
  go_wp2_with fail
  refine (new4_c w2 na li n m hn.out hm.out).mono ?_
  rintro e w3 ⟨A, c, rfl, HA, B3⟩
  have HB3 := Lib.hid (HB2.out.trans (B3.mono HB2.out.size))
  have G3 := (G.below B3 (Nat.le_refl _))
  have Y1c := Lib.hid (Y1b.out.low B3 (Nat.lt_of_lt_of_le hYb.out (by have := I.out; unfold In3 at this; omega))); have Y2c := Lib.hid (Y2b.out.low B3 (Nat.lt_of_lt_of_le hYb.out (by have := I.out; unfold In3 at this; omega)))
  have Z2 := Lib.hid B3.size
  clear B3 HB2 G Y1b Y2b
  go_wp2_with fail
  have Bx := Below.alloc (Below.refl w3.heap.size w3) (Nat.le_refl _) (.cells #[.int .i64 n, .slice A m c] 61)
  have X0 := Cel.new w3 #[.int .i64 n, .slice A m c] 61 0 (.int .i64 n) rfl
  have X1 := Cel.new w3 #[.int .i64 n, .slice A m c] 61 1 (.slice A m c) rfl
  have hX := Lib.hid (show w3.heap.size < (w3.alloc (.cells #[.int .i64 n, .slice A m c] 61)).heap.size by simp)
  have K := G3.below Bx (Nat.le_refl _)
  have HA4 := (HA.more.imp (av' := fun b => b < w2.heap.size ∨ b = w3.heap.size) (fun b hb => by rcases hb with h | h; exact .inl h; exact .inr (by omega))).below Bx
  have HB4 := Lib.hid (HB3.out.trans (Bx.mono HB3.out.size))
  have Y1d := Lib.hid (Y1c.out.low Bx Y1c.out.lt); have Y2d := Lib.hid (Y2c.out.low Bx Y2c.out.lt)
  clear Bx HB3 Y1c Y2c HA G3
  generalize w3.alloc (.cells #[.int .i64 n, .slice A m c] 61) = w4 at *
  generalize w3.heap.size = X at *
  have x0 := X0.1; have x1 := X1.1
  replace HA4 := Lib.hid HA4; replace K := Lib.hid K; replace X0 := Lib.hid X0; replace X1 := Lib.hid X1
  have KN : ∀ q, ChI (w4.drewN q) p L M n m c0 := fun q => K.out.fr ((Fr.refl (fun _ _ => False) w4).drewN q) (fun _ h => h) (fun _ h => h) (fun _ h => h)
  replace KN := Lib.hid KN
  go_quiet (first | (go_at_call 34; refine Calls.quiet_of_same ((numbers_i (KN.out _)).mono fun _ _ h => ⟨h.1, h.2.symm⟩)) | (go_at_call 35; refine Calls.quiet_of_same ((lists_i (KN.out _)).mono fun _ _ h => ⟨h.1, h.2.symm⟩)))
  have K5 := Lib.hid (KN.out nq)
  have H5 := Lib.hid (HA4.out.below ((Below.refl w4.heap.size w4).drewN nq))
  have X05 := Lib.hid (X0.out.drewN nq); have X15 := Lib.hid (X1.out.drewN nq)
  have Y15 := Lib.hid (Y1d.out.drewN nq); have Y25 := Lib.hid (Y2d.out.drewN nq)
  have B5 := Lib.hid (HB4.out.drewN nq)
  have S5 := Lib.hid (show X < (w4.drewN nq).heap.size from hX.out)
  clear K HA4 X0 X1 Y1d Y2d HB4 KN x0 x1 hX
  generalize w4.drewN nq = w5 at *
  have S2 := Lib.hid Z2.out
  go_wp2_with fail
  go_loopw [43] (fun ii wr => ∃ (i : Nat) (R : Nat → List Nat) (A : Option Addr) (c : Nat), ii = .int .i64 i ∧ Hid (i ≤ xs.length) ∧ Hid (ChI wr p L M n m R) ∧ Hid (RowsAt (fun b => b < w2.heap.size ∨ b = X) wr A (rowsOf m R)) ∧ Hid (Cel wr X 0 (.int .i64 n)) ∧ Hid (Cel wr X 1 (.slice A m c)) ∧ Hid (Cel wr Y 1 (.int .i64 al)) ∧ Hid (Cel wr Y 2 (.int .i64 akk)) ∧ Hid (Below w.heap.size w wr) ∧ Hid (X < wr.heap.size)) (fun ii _ => xs.length - (intOf ii).toNat)
  case atStart => exact ⟨0, c0, A, c, rfl, Lib.hid (Nat.zero_le _), K5, H5, X05, X15, Y15, Y25, B5, S5⟩
  case round =>
    clear K5 H5 X05 X15 Y15 Y25 B5 S5
    obtain ⟨i, R, A, c, rfl, h1, K, H, X0, X1, Y1, Y2, HB, hX⟩ := hrel
    by_cases hlt : i < xs.length
    · have hi50 : i < 50 := by have := hbig.out; omega
      obtain ⟨b, off, rfl, hbl, hc⟩ := HR.out i hlt
      have hz0 := (HB.out.cell (p := ⟨b, off + i * 3 + 0, none⟩) hbl).trans (hc 0 _ rfl)
      have hz1 := (HB.out.cell (p := ⟨b, off + i * 3 + 1, none⟩) hbl).trans (hc 1 _ rfl)
      have hz2 := (HB.out.cell (p := ⟨b, off + i * 3 + 2, none⟩) hbl).trans (hc 2 _ rfl)
      rw [Nat.add_zero] at hz0
      generalize xs[i] = z at *
      clear hc hbl
      have hB0 := Below.alloc (Below.refl wr.heap.size wr) (Nat.le_refl _) (.cells #[.int .i64 z.kind, .int .i64 z.list, .int .i64 z.k] 56)
      have KK := Lib.hid (K.out.below hB0 (Nat.le_refl _))
      have HH := Lib.hid (H.out.below hB0)
      have XX0 := Lib.hid (X0.out.low hB0 X0.out.lt); have XX1 := Lib.hid (X1.out.low hB0 X1.out.lt)
      have YY1 := Lib.hid (Y1.out.low hB0 Y1.out.lt); have YY2 := Lib.hid (Y2.out.low hB0 Y2.out.lt)
      have BB := Lib.hid (HB.out.trans (hB0.mono HB.out.size))
      have SS := Lib.hid (Nat.lt_of_lt_of_le hX.out hB0.size)
      have zc0 := (Cel.new wr #[.int .i64 z.kind, .int .i64 z.list, .int .i64 z.k] 56 0 (.int .i64 z.kind) rfl)
      have zc1 := (Cel.new wr #[.int .i64 z.kind, .int .i64 z.list, .int .i64 z.k] 56 1 (.int .i64 z.list) rfl)
      have zc2 := (Cel.new wr #[.int .i64 z.kind, .int .i64 z.list, .int .i64 z.k] 56 2 (.int .i64 z.k) rfl)
      have hZX := Lib.hid hX.out
      replace zc0 := Lib.hid zc0; replace zc1 := Lib.hid zc1; replace zc2 := Lib.hid zc2
      clear K H X0 X1 Y1 Y2 HB hB0 hX
      by_cases q0 : z.kind = 0
      · have t0 : (z.kind == 0) = true := beq_iff_eq.mpr q0
        have t1 : (z.kind == 1) = false := beq_eq_false_iff_ne.mpr (by omega)
        clear q0
        have xx0 := XX0.out.1; have xx1 := XX1.out.1; have zz1 := zc1.out.1; have zz2 := zc2.out.1
        have yy1 := YY1.out.1; have yy2 := YY2.out.1
        go_wp2_with fail
        generalize wr.alloc (.cells #[.int .i64 z.kind, .int .i64 z.list, .int .i64 z.k] 56) = wz at *
        generalize wr.heap.size = Z at *
        have hav : ∀ b, wz.heap.size ≤ b → ¬ (b < w2.heap.size ∨ b = X) := by have h1 := SS.out; have h2 := Z2.out; intro b hb hh; rcases hh with h | h <;> omega
        refine (push4_c HH.out hav KK.out.ok z.list z.k).mono ?_
        rintro e w6 ⟨A', c', rfl, HA', F6⟩
        clear xx0 xx1 yy1 yy2 zz1 zz2
        have KK6 := KK.out.below F6 (Nat.le_refl _)
        have X6 := (XX0.out.low F6 XX0.out.lt); have X6b := (XX1.out.low F6 XX1.out.lt)
        have Y6 := Lib.hid (YY1.out.low F6 YY1.out.lt); have Y6b := Lib.hid (YY2.out.low F6 YY2.out.lt)
        have z60 := (zc0.out.low F6 zc0.out.lt); have z61 := (zc1.out.low F6 zc1.out.lt); have z62 := (zc2.out.low F6 zc2.out.lt)
        have B6 := Lib.hid (BB.out.trans (F6.mono BB.out.size))
        have S6 := Lib.hid (Nat.lt_of_lt_of_le SS.out F6.size)
        clear KK HH XX0 XX1 YY1 YY2 BB F6 SS zc0 zc1 zc2 hz0 hz1 hz2 hav
        have xx0 := X6.1; have xf0 := X6.2; have xx1 := X6b.1; have xf1 := X6b.2
        have zz1 := z61.1; have zz2 := z62.1
        replace KK6 := Lib.hid KK6
        have hlt6 := S6.out
        have hXZ : X < Z := hZX.out
        have hZ6 : Z < w6.heap.size := z61.lt
        go_wp2_with fail
        have Fs : Fr (cellsAt X 0 2) w6 (((w6.setCell ⟨X, 0, none⟩ (.int .i64 n)).setCell ⟨X, 1, none⟩ (.slice A' m c')).alloc (.cells #[.int .i64 n, .slice A' m c'] 61)) :=
          (((Fr.refl _ w6).setCell (fun _ => cellsAt_mk (by omega) (by omega)) _).setCell (fun _ => cellsAt_mk (by omega) (by omega)) _).alloc _
        have hXY : X ≠ Y := by have h1 := hYb.out; have h2 := I.out; have h3 := Z2.out; unfold In3 at h2; omega
        have K7 := KK6.out.fr Fs (fun o hs => by have h2 := I.out; have h3 := Z2.out; have := hs.1; unfold In3 at h2; omega) (fun o hs => by have h2 := I.out; have h3 := Z2.out; have := hs.1; unfold In3 at h2; omega) (fun o hs => by have h2 := I.out; have h3 := Z2.out; have := hs.1; unfold In3 at h2; omega)
        have H7 := HA'.fr Fs (fun k o hk hs => hk (.inr hs.1))
        have X70 := Lib.hid (((X6.same (.int .i64 n)).other (b' := X) (o' := 1) (.inr (by decide)) (.slice A' m c')).alloc (.cells #[.int .i64 n, .slice A' m c'] 61))
        have X71 := Lib.hid (((X6b.other (b' := X) (o' := 0) (.inr (by decide)) (.int .i64 n)).same (.slice A' m c')).alloc (.cells #[.int .i64 n, .slice A' m c'] 61))
        have Y70 := Lib.hid (Y6.out.fr Fs (fun hs => hXY hs.1.symm)); have Y71 := Lib.hid (Y6b.out.fr Fs (fun hs => hXY hs.1.symm))
        have Z71 := Lib.hid (z61.fr Fs (fun hs => by have := hs.1; omega)); have Z72 := Lib.hid (z62.fr Fs (fun hs => by have := hs.1; omega))
        have B7 := B6.out.trans (Fs.below B6.out.size (fun k o hk hs => by have := hs.1; have h3 := Z2.out; have h4 := I.out; have h5 := Z1.out; unfold In3 at h4; omega))
        have s7 := Lib.hid (Nat.lt_of_lt_of_le S6.out Fs.size)
        replace B7 := Lib.hid B7
        clear xx0 xf0 xx1 xf1 zz1 zz2 KK6 X6 X6b Y6 Y6b z60 z61 z62 B6 S6 HA' Fs hlt6 hZ6
        generalize ((w6.setCell ⟨X, 0, none⟩ (.int .i64 n)).setCell ⟨X, 1, none⟩ (.slice A' m c')).alloc (.cells #[.int .i64 n, .slice A' m c'] 61) = w7 at *
        refine (push_i K7 z.list z.k).mono ?_
        rintro e w8 ⟨rfl, K8, F8⟩
        have hi3 := I.out
        have hz2 := Z2.out
        unfold In3 at hi3
        have hy1 := hYb.out
        have KK := Lib.hid K8
        have HH := Lib.hid (H7.fr F8 (fun k o hk hs => hk (.inl (by rcases hs with h | h <;> omega))))
        have XX0 := Lib.hid (X70.out.fr F8 (fun hs => by rcases hs with h | h <;> omega)); have XX1 := Lib.hid (X71.out.fr F8 (fun hs => by rcases hs with h | h <;> omega))
        have YY1 := Lib.hid (Y70.out.fr F8 (fun hs => by rcases hs with h | h <;> omega)); have YY2 := Lib.hid (Y71.out.fr F8 (fun hs => by rcases hs with h | h <;> omega))
        have ZZ1 := Lib.hid (Z71.out.fr F8 (fun hs => by rcases hs with h | h <;> omega)); have ZZ2 := Lib.hid (Z72.out.fr F8 (fun hs => by rcases hs with h | h <;> omega))
        have BB := below_chain B7 F8 (Nat.le_refl _) (Nat.le_trans Z1.out hi3.2.2.1) (Nat.le_trans Z1.out hi3.2.2.2.2.1)
        have SS := Lib.hid (Nat.lt_of_lt_of_le s7.out F8.size)
        clear K7 K8 H7 F8 X70 X71 Y70 Y71 Z71 Z72 B7 s7 hi3 hz2 hy1
        have xx0 := XX0.out.1; have xx1 := XX1.out.1; have zz1 := ZZ1.out.1; have zz2 := ZZ2.out.1
        have yy1 := YY1.out.1; have yy2 := YY2.out.1
        go_wp2_with fail
        refine (same4_c KK.out HH.out z.list z.k).mono ?_
        rintro e w8 ⟨rfl, F8⟩
        have KK2 := KK.out.below F8 (Nat.le_refl _)
        have HH2 := HH.out.below F8
        have x0b := Lib.hid (XX0.out.low F8 XX0.out.lt); have x1b := Lib.hid (XX1.out.low F8 XX1.out.lt)
        have y1b := Lib.hid (YY1.out.low F8 YY1.out.lt); have y2b := Lib.hid (YY2.out.low F8 YY2.out.lt)
        have B8 := Lib.hid (BB.out.trans (F8.mono BB.out.size))
        have s8 := Lib.hid (Nat.lt_of_lt_of_le SS.out F8.size)
        clear KK HH XX0 XX1 YY1 YY2 BB F8 SS xx0 xx1 yy1 yy2 zz1 zz2 ZZ1 ZZ2
        have x0c := x0b.out.1; have x1c := x1b.out.1; have y1c := y1b.out.1; have y2c := y2b.out.1
        go_wp2_with fail
        refine (same4_c KK2 HH2 al akk).mono ?_
        rintro e w9 ⟨rfl, F9⟩
        have K9 := Lib.hid (KK2.below F9 (Nat.le_refl _))
        have H9 := Lib.hid (HH2.below F9)
        have x0d := Lib.hid (x0b.out.low F9 x0b.out.lt); have x1d := Lib.hid (x1b.out.low F9 x1b.out.lt)
        have y1d := Lib.hid (y1b.out.low F9 y1b.out.lt); have y2d := Lib.hid (y2b.out.low F9 y2b.out.lt)
        have B9 := Lib.hid (B8.out.trans (F9.mono B8.out.size))
        have s9 := Lib.hid (Nat.lt_of_lt_of_le s8.out F9.size)
        clear KK2 HH2 x0b x1b y1b y2b B8 F9 s8 x0c x1c y1c y2c
        go_wp2
        go_roundw
        case rel => exact ⟨i + 1, _, _, _, by go_num, Lib.hid (by omega), K9, H9, x0d, x1d, y1d, y2d, B9, s9⟩
        case measure => simp [intOf]; omega
      · have t0 : (z.kind == 0) = false := beq_eq_false_iff_ne.mpr q0
        by_cases q1 : z.kind = 1
        · have t1 : (z.kind == 1) = true := beq_iff_eq.mpr q1
          clear q0 q1
          have xx0 := XX0.out.1; have xx1 := XX1.out.1; have zz1 := zc1.out.1; have zz2 := zc2.out.1
          have yy1 := YY1.out.1; have yy2 := YY2.out.1
          go_wp2_with fail
          generalize wr.alloc (.cells #[.int .i64 z.kind, .int .i64 z.list, .int .i64 z.k] 56) = wz at *
          generalize wr.heap.size = Z at *
          have hav : ∀ b, wz.heap.size ≤ b → ¬ (b < w2.heap.size ∨ b = X) := by have h1 := SS.out; have h2 := Z2.out; intro b hb hh; rcases hh with h | h <;> omega
          refine (pull4_c HH.out hav KK.out.ok z.k).mono ?_
          rintro e w6 ⟨A', c', rfl, HA', F6⟩
          clear xx0 xx1 yy1 yy2 zz1 zz2
          have KK6 := KK.out.below F6 (Nat.le_refl _)
          have X6 := (XX0.out.low F6 XX0.out.lt); have X6b := (XX1.out.low F6 XX1.out.lt)
          have Y6 := Lib.hid (YY1.out.low F6 YY1.out.lt); have Y6b := Lib.hid (YY2.out.low F6 YY2.out.lt)
          have z60 := (zc0.out.low F6 zc0.out.lt); have z61 := (zc1.out.low F6 zc1.out.lt); have z62 := (zc2.out.low F6 zc2.out.lt)
          have B6 := Lib.hid (BB.out.trans (F6.mono BB.out.size))
          have S6 := Lib.hid (Nat.lt_of_lt_of_le SS.out F6.size)
          clear KK HH XX0 XX1 YY1 YY2 BB F6 SS zc0 zc1 zc2 hz0 hz1 hz2 hav
          have xx0 := X6.1; have xf0 := X6.2; have xx1 := X6b.1; have xf1 := X6b.2
          have zz1 := z61.1; have zz2 := z62.1
          replace KK6 := Lib.hid KK6
          have hlt6 := S6.out
          have hXZ : X < Z := hZX.out
          have hZ6 : Z < w6.heap.size := z61.lt
          go_wp2_with fail
          have Fs : Fr (cellsAt X 0 2) w6 (((w6.setCell ⟨X, 0, none⟩ (.int .i64 n)).setCell ⟨X, 1, none⟩ (.slice A' m c')).alloc (.cells #[.int .i64 n, .slice A' m c'] 61)) :=
            (((Fr.refl _ w6).setCell (fun _ => cellsAt_mk (by omega) (by omega)) _).setCell (fun _ => cellsAt_mk (by omega) (by omega)) _).alloc _
          have hXY : X ≠ Y := by have h1 := hYb.out; have h2 := I.out; have h3 := Z2.out; unfold In3 at h2; omega
          have K7 := KK6.out.fr Fs (fun o hs => by have h2 := I.out; have h3 := Z2.out; have := hs.1; unfold In3 at h2; omega) (fun o hs => by have h2 := I.out; have h3 := Z2.out; have := hs.1; unfold In3 at h2; omega) (fun o hs => by have h2 := I.out; have h3 := Z2.out; have := hs.1; unfold In3 at h2; omega)
          have H7 := HA'.fr Fs (fun k o hk hs => hk (.inr hs.1))
          have X70 := Lib.hid (((X6.same (.int .i64 n)).other (b' := X) (o' := 1) (.inr (by decide)) (.slice A' m c')).alloc (.cells #[.int .i64 n, .slice A' m c'] 61))
          have X71 := Lib.hid (((X6b.other (b' := X) (o' := 0) (.inr (by decide)) (.int .i64 n)).same (.slice A' m c')).alloc (.cells #[.int .i64 n, .slice A' m c'] 61))
          have Y70 := Lib.hid (Y6.out.fr Fs (fun hs => hXY hs.1.symm)); have Y71 := Lib.hid (Y6b.out.fr Fs (fun hs => hXY hs.1.symm))
          have Z71 := Lib.hid (z61.fr Fs (fun hs => by have := hs.1; omega)); have Z72 := Lib.hid (z62.fr Fs (fun hs => by have := hs.1; omega))
          have B7 := B6.out.trans (Fs.below B6.out.size (fun k o hk hs => by have := hs.1; have h3 := Z2.out; have h4 := I.out; have h5 := Z1.out; unfold In3 at h4; omega))
          have s7 := Lib.hid (Nat.lt_of_lt_of_le S6.out Fs.size)
          replace B7 := Lib.hid B7
          clear xx0 xf0 xx1 xf1 zz1 zz2 KK6 X6 X6b Y6 Y6b z60 z61 z62 B6 S6 HA' Fs hlt6 hZ6
          generalize ((w6.setCell ⟨X, 0, none⟩ (.int .i64 n)).setCell ⟨X, 1, none⟩ (.slice A' m c')).alloc (.cells #[.int .i64 n, .slice A' m c'] 61) = w7 at *
          refine (pull_i K7 z.k).mono ?_
          rintro e w8 ⟨rfl, K8, F8⟩
          have hi3 := I.out
          have hz2 := Z2.out
          unfold In3 at hi3
          have hy1 := hYb.out
          have KK := Lib.hid K8
          have HH := Lib.hid (H7.fr F8 (fun k o hk hs => hk (.inl (by rcases hs with h | h <;> omega))))
          have XX0 := Lib.hid (X70.out.fr F8 (fun hs => by rcases hs with h | h <;> omega)); have XX1 := Lib.hid (X71.out.fr F8 (fun hs => by rcases hs with h | h <;> omega))
          have YY1 := Lib.hid (Y70.out.fr F8 (fun hs => by rcases hs with h | h <;> omega)); have YY2 := Lib.hid (Y71.out.fr F8 (fun hs => by rcases hs with h | h <;> omega))
          have ZZ1 := Lib.hid (Z71.out.fr F8 (fun hs => by rcases hs with h | h <;> omega)); have ZZ2 := Lib.hid (Z72.out.fr F8 (fun hs => by rcases hs with h | h <;> omega))
          have BB := below_chain B7 F8 (Nat.le_refl _) (Nat.le_trans Z1.out hi3.2.2.1) (Nat.le_trans Z1.out hi3.2.2.2.2.1)
          have SS := Lib.hid (Nat.lt_of_lt_of_le s7.out F8.size)
          clear K7 K8 H7 F8 X70 X71 Y70 Y71 Z71 Z72 B7 s7 hi3 hz2 hy1
          have xx0 := XX0.out.1; have xx1 := XX1.out.1; have zz1 := ZZ1.out.1; have zz2 := ZZ2.out.1
          have yy1 := YY1.out.1; have yy2 := YY2.out.1
          go_wp2_with fail
          refine (same4_c KK.out HH.out z.list z.k).mono ?_
          rintro e w8 ⟨rfl, F8⟩
          have KK2 := KK.out.below F8 (Nat.le_refl _)
          have HH2 := HH.out.below F8
          have x0b := Lib.hid (XX0.out.low F8 XX0.out.lt); have x1b := Lib.hid (XX1.out.low F8 XX1.out.lt)
          have y1b := Lib.hid (YY1.out.low F8 YY1.out.lt); have y2b := Lib.hid (YY2.out.low F8 YY2.out.lt)
          have B8 := Lib.hid (BB.out.trans (F8.mono BB.out.size))
          have s8 := Lib.hid (Nat.lt_of_lt_of_le SS.out F8.size)
          clear KK HH XX0 XX1 YY1 YY2 BB F8 SS xx0 xx1 yy1 yy2 zz1 zz2 ZZ1 ZZ2
          have x0c := x0b.out.1; have x1c := x1b.out.1; have y1c := y1b.out.1; have y2c := y2b.out.1
          go_wp2_with fail
          refine (same4_c KK2 HH2 al akk).mono ?_
          rintro e w9 ⟨rfl, F9⟩
          have K9 := Lib.hid (KK2.below F9 (Nat.le_refl _))
          have H9 := Lib.hid (HH2.below F9)
          have x0d := Lib.hid (x0b.out.low F9 x0b.out.lt); have x1d := Lib.hid (x1b.out.low F9 x1b.out.lt)
          have y1d := Lib.hid (y1b.out.low F9 y1b.out.lt); have y2d := Lib.hid (y2b.out.low F9 y2b.out.lt)
          have B9 := Lib.hid (B8.out.trans (F9.mono B8.out.size))
          have s9 := Lib.hid (Nat.lt_of_lt_of_le s8.out F9.size)
          clear KK2 HH2 x0b x1b y1b y2b B8 F9 s8 x0c x1c y1c y2c
          go_wp2
          go_roundw
          case rel => exact ⟨i + 1, _, _, _, by go_num, Lib.hid (by omega), K9, H9, x0d, x1d, y1d, y2d, B9, s9⟩
          case measure => simp [intOf]; omega
        · have t1 : (z.kind == 1) = false := beq_eq_false_iff_ne.mpr q1
          clear q0 q1
          have xx0 := XX0.out.1; have xx1 := XX1.out.1; have zz1 := zc1.out.1; have zz2 := zc2.out.1
          have yy1 := YY1.out.1; have yy2 := YY2.out.1
          go_wp2_with fail
          generalize wr.alloc (.cells #[.int .i64 z.kind, .int .i64 z.list, .int .i64 z.k] 56) = wz at *
          generalize wr.heap.size = Z at *
          refine (same4_c KK.out HH.out z.list z.k).mono ?_
          rintro e w8 ⟨rfl, F8⟩
          have KK2 := KK.out.below F8 (Nat.le_refl _)
          have HH2 := HH.out.below F8
          have x0b := Lib.hid (XX0.out.low F8 XX0.out.lt); have x1b := Lib.hid (XX1.out.low F8 XX1.out.lt)
          have y1b := Lib.hid (YY1.out.low F8 YY1.out.lt); have y2b := Lib.hid (YY2.out.low F8 YY2.out.lt)
          have B8 := Lib.hid (BB.out.trans (F8.mono BB.out.size))
          have s8 := Lib.hid (Nat.lt_of_lt_of_le SS.out F8.size)
          clear KK HH XX0 XX1 YY1 YY2 BB F8 SS xx0 xx1 yy1 yy2 zz1 zz2 zc0 zc1 zc2 hz0 hz1 hz2
          have x0c := x0b.out.1; have x1c := x1b.out.1; have y1c := y1b.out.1; have y2c := y2b.out.1
          go_wp2_with fail
          refine (same4_c KK2 HH2 al akk).mono ?_
          rintro e w9 ⟨rfl, F9⟩
          have K9 := Lib.hid (KK2.below F9 (Nat.le_refl _))
          have H9 := Lib.hid (HH2.below F9)
          have x0d := Lib.hid (x0b.out.low F9 x0b.out.lt); have x1d := Lib.hid (x1b.out.low F9 x1b.out.lt)
          have y1d := Lib.hid (y1b.out.low F9 y1b.out.lt); have y2d := Lib.hid (y2b.out.low F9 y2b.out.lt)
          have B9 := Lib.hid (B8.out.trans (F9.mono B8.out.size))
          have s9 := Lib.hid (Nat.lt_of_lt_of_le s8.out F9.size)
          clear KK2 HH2 x0b x1b y1b y2b B8 F9 s8 x0c x1c y1c y2c
          go_wp2
          go_roundw
          case rel => exact ⟨i + 1, _, _, _, by go_num, Lib.hid (by omega), K9, H9, x0d, x1d, y1d, y2d, B9, s9⟩
          case measure => simp [intOf]; omega
    · clear h1
      go_wp2
      go_ret
      exact ⟨rfl, HB.out⟩
end Go.Proofs.Ytdgcppglpmlgkaa
