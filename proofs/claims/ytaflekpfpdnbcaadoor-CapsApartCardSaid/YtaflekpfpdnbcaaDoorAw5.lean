/- CapsApart: the law. -/
import Derived.Test.YtaflekpfpdnbcaaDoorAp5
namespace Go.Proofs.YtaflekpfpdnbcaaDoor
open Go.RowKit
set_option linter.unusedVariables false
set_option linter.unusedSimpArgs false
set_option linter.unusedSectionVars false
set_option maxRecDepth 100000

set_option maxHeartbeats 4000000 in
/-- A table, all of whose blocks are new. -/
theorem table2_c {w : World} (hT : Tab w) (room gens : Int) :
    Calls Tryd.prog 10 #[.int .i64 room, .int .i64 gens] w fun e w' => ∃ T : TD, e = .returned (.pointer (some ⟨T.t, 0, none⟩)) ∧ TabS w' T (List.replicate (capR room) Pc.new) (mostP gens) ∧ Below w.heap.size w w' ∧ w.heap.size ≤ T.t ∧ w.heap.size ≤ T.r ∧ w.heap.size ≤ T.b ∧ w.heap.size ≤ T.p ∧ w.heap.size ≤ T.g ∧ w.heap.size ≤ T.G := by
  have HT := Lib.hid hT
  clear hT
  go_enter Tryd.func10, Tryd.ntmps10
  go_wp2_with fail
  refine (new_R (cs := [3, room]) (cc := 2) (row_new w #[.int .i64 3, .int .i64 room] 3 [3, room] rfl) (by simp) (by simp)).mono ?_
  rintro e w2 ⟨s, b, ds, rfl, S, hds, F⟩
  have B0 := blA (Below.refl w.heap.size w) (.cells #[.int .i64 3, .int .i64 room] 3)
  have B2 := Lib.hid (B0.trans (F.mono B0.size))
  have B0s := Lib.hid B0.size
  replace hds : ds.map RD.n = [3, capR room] := hds
  obtain ⟨d0, d1, rfl, -, hd1⟩ := two_ds hds
  have SH := Lib.hid S
  clear F S hds B0
  go_wp2_with fail
  refine (region_R SH.out (k := 1) (by simp)).mono ?_
  rintro e w3 ⟨rfl, rfl⟩
  rw [show [d0, d1][1] = d1 from rfl]
  have R := SH.out.reg 1 d1 _ rfl rfl
  have ok := SH.out.ok d1 (by simp)
  have tp := SH.out.tp
  have sb := SH.out.sb
  replace R : RegS rwE w2 d1.r b d1.off d1.n d1.p d1.g (List.replicate d1.n Rw.zero) (List.replicate d1.n false) := R
  rw [hd1] at R
  have nt := newT_c R (capR_le room) tp.2.1 gens
  have lo := Lib.hid (show w.heap.size ≤ d1.r ∧ w.heap.size ≤ b ∧ w.heap.size ≤ d1.p ∧ w.heap.size ≤ d1.g by
    have k1 := ok.p; have k2 := ok.g; have k3 := ok.base; have k4 := ok.r; have := B0s.out; exact ⟨by omega, by omega, by omega, by omega⟩)
  replace nt := Lib.hid nt
  clear R ok tp sb SH hd1
  go_wp2_with fail
  refine nt.out.mono ?_
  rintro e w4 ⟨T, rfl, H, h1, h2, h3, h4, h5, h6, h7, h8, F⟩
  have FIN := Lib.hid (show TabS w4 T (List.replicate (capR room) Pc.new) (mostP gens) ∧ Below w.heap.size w w4 ∧ w.heap.size ≤ T.t ∧ w.heap.size ≤ T.r ∧ w.heap.size ≤ T.b ∧ w.heap.size ≤ T.p ∧ w.heap.size ≤ T.g ∧ w.heap.size ≤ T.G from by
    have := B2.out.size
    have l := lo.out
    rw [h1, h2, h5, h6]
    exact ⟨H, B2.out.trans (F.mono B2.out.size), by omega, l.1, l.2.1, l.2.2.1, l.2.2.2, by omega⟩)
  clear nt H h1 h2 h3 h4 h5 h6 h7 h8 F
  go_wp2
  go_ret
  exact ⟨T, rfl, FIN.out⟩
/-- Two tables in one slab, and one that is alone. -/
structure ApC (w wr : World) (X Y Z : TD) (most : Nat) : Prop where
  x : ∃ P, TabS wr X P most ∧ TabS wr Z P most
  y : ∃ Q, TabS wr Y Q most
  B : Below w.heap.size w wr
  T0 : Tab w
  ap : X.Ap Y ∧ X.Ap Z ∧ Y.Ap X ∧ Y.Ap Z ∧ Z.Ap X ∧ Z.Ap Y
  lo : (∀ k o, k < w.heap.size → ¬ X.F k o) ∧ (∀ k o, k < w.heap.size → ¬ Y.F k o) ∧ (∀ k o, k < w.heap.size → ¬ Z.F k o)
  ne : X.t ≠ Z.t
section
variable {w wr w' : World} {X Y Z : TD} {most : Nat}
theorem ApC.tab (h : ApC w wr X Y Z most) : Tab wr := h.T0.below h.B
theorem ApC.two (h : ApC w wr X Y Z most) {P' : List Pc} (a : TabS w' X P' most) (b : TabS w' Z P' most) (F : FrC (fun k o => X.F k o ∨ Z.F k o) wr w') : ApC w w' X Y Z most :=
  ⟨⟨P', a, b⟩, h.y.imp fun Q k => k.frcR F (fun k o m e => e.elim (h.ap.1 k o m) (h.ap.2.2.2.2.2 k o m)), h.B.trans (F.below h.B.size (fun k o hk e => e.elim (h.lo.1 k o hk) (h.lo.2.2 k o hk))), h.T0, h.ap, h.lo, h.ne⟩
theorem ApC.one (h : ApC w wr X Y Z most) (a : ∃ P', TabS w' Y P' most) (F : FrC Y.F wr w') : ApC w w' X Y Z most :=
  ⟨h.x.imp fun P k => ⟨k.1.away F h.ap.2.2.1, k.2.away F h.ap.2.2.2.1⟩, a, h.B.trans (F.below h.B.size h.lo.2.1), h.T0, h.ap, h.lo, h.ne⟩
theorem ApC.drew (h : ApC w wr X Y Z most) : ApC w wr.drew X Y Z most :=
  ⟨h.x.imp fun P k => ⟨k.1.drew, k.2.drew⟩, h.y.imp fun Q k => k.drew, ⟨h.B.os, h.B.tape, h.B.output, h.B.size, h.B.block⟩, h.T0, h.ap, h.lo, h.ne⟩
end
set_option maxHeartbeats 16000000 in
theorem apart5_walk (a0 a1 : Int) (A2 : Option Addr) (c2 : Nat) (xs : List Op5) (A3 : Option Addr) (c3 : Nat) (ys : List Op5) (A4 : Option Addr) (c4 : Nat) (ts : List Bool) (w : World) (hT : Tab w)
    (hr2 : RowAt Op5.cells 6 w A2 xs) (hr3 : RowAt Op5.cells 6 w A3 ys) (hr4 : RowAt (fun x : Bool => [.bool x]) 1 w A4 ts) (hg2 : ∀ x ∈ xs, x.good) (hg3 : ∀ x ∈ ys, x.good) :
    Calls Tryd.prog 7 #[.int .i64 a0, .int .i64 a1, .slice A2 xs.length c2, .slice A3 ys.length c3, .slice A4 ts.length c4] w fun e w' => e = .returned (.bool true) ∧ Below w.heap.size w w' := by
  have al := Lib.hid (alive05_c w hT)
  have HT := Lib.hid hT
  have R2 := Lib.hid hr2; have R3 := Lib.hid hr3; have R4 := Lib.hid hr4; have G2 := Lib.hid hg2; have G3 := Lib.hid hg3
  obtain ⟨NA, hA⟩ : ∃ n, n = xs.length := ⟨_, rfl⟩
  obtain ⟨NB, hB⟩ : ∃ n, n = ys.length := ⟨_, rfl⟩
  obtain ⟨NT, hN⟩ : ∃ n, n = ts.length := ⟨_, rfl⟩
  rw [← hA, ← hB, ← hN]
  replace hA := Lib.hid hA; replace hB := Lib.hid hB; replace hN := Lib.hid hN
  clear hT hr2 hr3 hr4 hg2 hg3
  by_cases hbig : 40 < NA ∨ 40 < NB ∨ 90 < NT
  · have three : (decide ((40 : Int) < (NA : Int)) = true ∧ decide (40 < NA) = true) ∨ ((decide ((40 : Int) < (NA : Int)) = false ∧ decide (40 < NA) = false) ∧ (decide ((40 : Int) < (NB : Int)) = true ∧ decide (40 < NB) = true)) ∨
        ((decide ((40 : Int) < (NA : Int)) = false ∧ decide (40 < NA) = false) ∧ (decide ((40 : Int) < (NB : Int)) = false ∧ decide (40 < NB) = false) ∧ decide ((90 : Int) < (NT : Int)) = true ∧ decide (90 < NT) = true) := by
      by_cases h1 : 40 < NA
      · exact .inl ⟨decide_eq_true (by omega), decide_eq_true h1⟩
      by_cases h2 : 40 < NB
      · exact .inr (.inl ⟨⟨decide_eq_false (by omega), decide_eq_false h1⟩, decide_eq_true (by omega), decide_eq_true h2⟩)
      · exact .inr (.inr ⟨⟨decide_eq_false (by omega), decide_eq_false h1⟩, ⟨decide_eq_false (by omega), decide_eq_false h2⟩, decide_eq_true (by omega), decide_eq_true (by omega)⟩)
    clear hbig
    go_enter Tryd.func7, Tryd.ntmps7
    rcases three with ⟨d1, d2⟩ | ⟨⟨d1, d2⟩, d3, d4⟩ | ⟨⟨d1, d2⟩, ⟨d3, d4⟩, d5, d6⟩
    all_goals
      go_wp2_with fail
      refine al.out.mono ?_
      rintro e w1 ⟨rfl, F⟩
      replace F := Lib.hid F
      go_wp2
      go_ret
      exact ⟨rfl, F.out⟩
  obtain ⟨d1, d2⟩ : decide ((40 : Int) < (NA : Int)) = false ∧ decide (40 < NA) = false := ⟨decide_eq_false (by omega), decide_eq_false (by omega)⟩
  obtain ⟨d3, d4⟩ : decide ((40 : Int) < (NB : Int)) = false ∧ decide (40 < NB) = false := ⟨decide_eq_false (by omega), decide_eq_false (by omega)⟩
  obtain ⟨d5, d6⟩ : decide ((90 : Int) < (NT : Int)) = false ∧ decide (90 < NT) = false := ⟨decide_eq_false (by omega), decide_eq_false (by omega)⟩
  have hA40 : NA ≤ 40 := by omega
  have hB40 : NB ≤ 40 := by omega
  have hT90 : NT ≤ 90 := by omega
  obtain ⟨Rm, e0, hR⟩ := mask_nat 4 15 (by decide) (by decide) a0
  replace hR : Rm < 16 := hR
  have hcR : capR (Rm : Int) = Rm := by unfold capR; omega
  clear hbig
  go_enter Tryd.func7, Tryd.ntmps7
  go_wp2_with fail
  refine al.out.mono ?_
  rintro e w1 ⟨rfl, F⟩
  have B1 := Lib.hid F
  clear F
  go_wp2_with fail
  refine (new_R (cs := [(Rm : Int), (Rm : Int)]) (cc := 2) (row_new w1 #[.int .i64 Rm, .int .i64 Rm] 3 [(Rm : Int), (Rm : Int)] rfl) (by simp) (by simp)).mono ?_
  rintro e w2 ⟨s, b, ds, rfl, S, hds, F⟩
  have B0 := blA (Below.refl w1.heap.size w1) (.cells #[.int .i64 Rm, .int .i64 Rm] 3)
  have hB0s := B0.size
  have B2 := B1.out.trans ((B0.trans (F.mono B0.size)).mono B1.out.size)
  replace hds : ds.map RD.n = [capR (Rm : Int), capR (Rm : Int)] := hds
  rw [hcR] at hds
  obtain ⟨d0, d1', rfl, hd0, hd1⟩ := two_ds hds
  have R0 := S.reg 0 d0 _ rfl rfl
  have R1 := S.reg 1 d1' _ rfl rfl
  replace R0 : RegS rwE w2 d0.r b d0.off d0.n d0.p d0.g (List.replicate d0.n Rw.zero) (List.replicate d0.n false) := R0
  replace R1 : RegS rwE w2 d1'.r b d1'.off d1'.n d1'.p d1'.g (List.replicate d1'.n Rw.zero) (List.replicate d1'.n false) := R1
  rw [hd0] at R0
  rw [hd1] at R1
  have ok0 := S.ok d0 (by simp)
  have ok1 := S.ok d1' (by simp)
  have ord : d0.hi ≤ d1'.lo ∧ d0.off + d0.n * rwE.sz ≤ d1'.off := by
    have := S.ord
    simp at this; exact this
  rw [show rwE.sz = 4 from rfl] at ord
  have tp := S.tp
  have tp0 := tp.2.2 d0 (by simp)
  have tp1 := tp.2.2 d1' (by simp)
  have SH := Lib.hid S
  have rg0 := Lib.hid (region_R S (k := 0) (by simp))
  have nt0 := Lib.hid (newT_c R0 (by omega) tp.2.1 a1)
  replace R1 := Lib.hid R1; replace B2 := Lib.hid B2
  replace ok0 := Lib.hid ok0; replace ok1 := Lib.hid ok1; replace ord := Lib.hid ord; replace tp := Lib.hid tp; replace tp0 := Lib.hid tp0; replace tp1 := Lib.hid tp1; replace hd0 := Lib.hid hd0; replace hd1 := Lib.hid hd1; replace hB0s := Lib.hid hB0s
  clear F S hds B0 R0
  go_wp2_with fail
  refine rg0.out.mono ?_
  rintro e w3 ⟨rfl, rfl⟩
  rw [show [d0, d1'][0] = d0 from rfl]
  go_wp2_with fail
  refine nt0.out.mono ?_
  rintro e w3 ⟨X, rfl, HX, x1, x2, x3, x4, x5, x6, x7, x8, FX⟩
  have rg1 := Lib.hid (region_R (SH.out.below FX) (k := 1) (by simp))
  have nt1 := Lib.hid (newT_c (R1.out.below FX) (by omega) (Nat.lt_of_lt_of_le tp.out.2.1 FX.size) a1)
  have xl := Lib.hid (And.intro HX.c0.lt HX.gb)
  replace HX := Lib.hid HX; replace FX := Lib.hid FX
  have xe := Lib.hid (show X.r = d0.r ∧ X.b = b ∧ X.off = d0.off ∧ X.n = Rm ∧ X.p = d0.p ∧ X.g = d0.g ∧ w2.heap.size ≤ X.t ∧ w2.heap.size ≤ X.G from ⟨x1, x2, x3, x4, x5, x6, x7, x8⟩)
  clear nt0 rg0 x1 x2 x3 x4 x5 x6 x7 x8
  go_wp2_with fail
  refine rg1.out.mono ?_
  rintro e w4 ⟨rfl, rfl⟩
  rw [show [d0, d1'][1] = d1' from rfl]
  go_wp2_with fail
  refine nt1.out.mono ?_
  rintro e w4 ⟨Y, rfl, HY, y1, y2, y3, y4, y5, y6, y7, y8, FY⟩
  have yl := Lib.hid (And.intro HY.c0.lt HY.gb)
  have ye := Lib.hid (show Y.r = d1'.r ∧ Y.b = b ∧ Y.off = d1'.off ∧ Y.n = Rm ∧ Y.p = d1'.p ∧ Y.g = d1'.g ∧ w3.heap.size ≤ Y.t ∧ w3.heap.size ≤ Y.G from ⟨y1, y2, y3, y4, y5, y6, y7, y8⟩)
  have B4 := Lib.hid (B2.out.trans ((FX.out.mono B2.out.size).trans (FY.mono (Nat.le_trans B2.out.size FX.out.size))))
  have tb := Lib.hid (table2_c (HT.out.below B4.out) (Rm : Int) a1)
  replace HY := Lib.hid HY; replace FY := Lib.hid FY
  clear nt1 rg1 y1 y2 y3 y4 y5 y6 y7 y8
  go_wp2_with fail
  refine tb.out.mono ?_
  rintro e w5 ⟨Z, rfl, HZ, FZ, l1, l2, l3, l4, l5, l6⟩
  have H0 := Lib.hid (show ApC w w5 X Y Z (mostP a1) from by
    have sX := FX.out.size; have sY := FY.out.size; have s1 := B1.out.size; have s2 := B2.out.size
    have q0 := ok0.out; have q1 := ok1.out; have qo := ord.out; have t := tp.out; have t0 := tp0.out; have t1 := tp1.out
    obtain ⟨x1, x2, x3, x4, x5, x6, x7, x8⟩ := xe.out
    obtain ⟨y1, y2, y3, y4, y5, y6, y7, y8⟩ := ye.out
    obtain ⟨xa, xb, xc⟩ := xl.out
    obtain ⟨ya, yb, yc⟩ := yl.out
    have o1 := q0.r; have o2 := q0.p; have o3 := q0.g; have o4 := q0.b; have o5 := q0.base
    have p1 := q1.r; have p2 := q1.p; have p3 := q1.g; have p4 := q1.b
    have hd := hd0.out; have hs := hB0s.out; have sb := SH.out.sb
    have hz := HZ.R.lt
    refine ⟨⟨_, (HX.out.below FY.out).below FZ, by rw [← hcR]; exact HZ⟩, ⟨_, HY.out.below FZ⟩, B4.out.trans (FZ.mono B4.out.size), HT.out, ⟨?_, ?_, ?_, ?_, ?_, ?_⟩, ⟨?_, ?_, ?_⟩, by omega⟩
    all_goals
      intro k o
      simp only [TD.mine, TD.F, regF, inReg, show rwE.sz = 4 from rfl]
      intro hm hf
      omega)
  have hlX := Lib.hid (show X.n = Rm from xe.out.2.2.2.1)
  clear tb HX HY HZ FX FY FZ xe ye xl yl l1 l2 l3 l4 l5 l6 ok0 ok1 ord tp tp0 tp1 hd0 hd1 hB0s SH R1 B4 B2 B1
  generalize mostP a1 = most at *
  go_wp2_with fail
  go_loopw [15, 16, 53] (fun ii jj nn wr => ∃ (i j n : Nat), ii = .int .i64 i ∧ jj = .int .i64 j ∧ nn = .int .i64 n ∧ Hid (i ≤ NA) ∧ Hid (j ≤ NB) ∧ Hid (n ≤ NT) ∧ Hid (ApC w wr X Y Z most)) (fun _ _ nn _ => NT - (intOf nn).toNat)
  case atStart => exact ⟨0, 0, 0, rfl, rfl, rfl, Lib.hid (Nat.zero_le _), Lib.hid (Nat.zero_le _), Lib.hid (Nat.zero_le _), H0⟩
  case round =>
    clear H0
    obtain ⟨i, j, n, rfl, rfl, rfl, hi, hj, hn, H⟩ := hrel
    by_cases hlt : n < NT
    · obtain ⟨bt, ot, rfl, hbl, hc⟩ := R4.out n (by rw [← hN.out]; exact hlt)
      have z0 := hc 0 _ rfl
      obtain ⟨fst, hfst⟩ : ∃ b, b = ts[n]'(by rw [← hN.out]; exact hlt) := ⟨_, rfl⟩
      rw [← hfst] at z0
      simp only [Nat.mul_one, Nat.add_zero] at z0
      replace z0 := (H.out.B.cell (p := ⟨bt, ot + n, none⟩) hbl).trans z0
      have hlH := Lib.hid hlt
      have hn90 : n < 90 := by omega
      clear hc hbl hfst
      cases fst with
      | true =>
        by_cases hiA : i < NA
        · have e1 : decide ((i : Int) < (NA : Int)) = true := decide_eq_true (by omega)
          have e2 : decide (i < NA) = true := decide_eq_true hiA
          obtain ⟨bb, off, rfl, hbl, c0, c1, c2', c3', c4', c5⟩ := R2.out.op5 (i := i) (by rw [← hA.out]; exact hiA)
          have hgz := G2.out _ (List.getElem_mem (show i < xs.length by rw [← hA.out]; exact hiA))
          generalize xs[i]'(by rw [← hA.out]; exact hiA) = z at *
          replace c0 := (H.out.B.cell (p := ⟨bb, off + i * 6, none⟩) hbl).trans c0
          replace c1 := (H.out.B.cell (p := ⟨bb, off + i * 6 + 1, none⟩) hbl).trans c1
          replace c2' := (H.out.B.cell (p := ⟨bb, off + i * 6 + 2, none⟩) hbl).trans c2'
          replace c3' := (H.out.B.cell (p := ⟨bb, off + i * 6 + 3, none⟩) hbl).trans c3'
          replace c4' := (H.out.B.cell (p := ⟨bb, off + i * 6 + 4, none⟩) hbl).trans c4'
          replace c5 := (H.out.B.cell (p := ⟨bb, off + i * 6 + 5, none⟩) hbl).trans c5
          have hiH := Lib.hid hiA
          have hi40 : i < 40 := by omega
          obtain ⟨P, hx, hz⟩ := H.out.x
          have a2 := Lib.hid (alike2_c hx hz H.out.ap.2.1 H.out.ap.2.2.2.2.1 H.out.tab (fun o => H.out.lo.1 _ o H.out.T0.lt) H.out.ne z hgz)
          clear hx hz hgz hbl
          go_wp2_with fail
          refine a2.out.mono ?_
          rintro e w6 ⟨rfl, ⟨P', ha, hb⟩, F⟩
          replace H := Lib.hid (H.out.two ha hb F)
          clear a2 ha hb F c0 c1 c2' c3' c4' c5 z0
          go_wp2
          go_roundw
          case rel => exact ⟨i + 1, j, n + 1, by go_num, rfl, by go_num, hiH, hj, hlH, H⟩
          case measure => have := hlH.out; simp [intOf]; omega
        · have e1 : decide ((i : Int) < (NA : Int)) = false := decide_eq_false (by omega)
          have e2 : decide (i < NA) = false := decide_eq_false hiA
          go_wp2
          go_roundw
          case rel => exact ⟨i, j, n + 1, rfl, rfl, by go_num, hi, hj, hlH, H⟩
          case measure => have := hlH.out; simp [intOf]; omega
      | false =>
        by_cases hjB : j < NB
        · have e1 : decide ((j : Int) < (NB : Int)) = true := decide_eq_true (by omega)
          have e2 : decide (j < NB) = true := decide_eq_true hjB
          obtain ⟨bb, off, rfl, hbl, c0, c1, c2', c3', c4', c5⟩ := R3.out.op5 (i := j) (by rw [← hB.out]; exact hjB)
          have hgz := G3.out _ (List.getElem_mem (show j < ys.length by rw [← hB.out]; exact hjB))
          generalize ys[j]'(by rw [← hB.out]; exact hjB) = z at *
          have key : ∀ (w' : World), Below w.heap.size w w' → w'.cell? ⟨bb, off + j * 6, none⟩ = some (.int .i64 z.kind) ∧ w'.cell? ⟨bb, off + j * 6 + 2, none⟩ = some (.int .i64 z.cap_Kind) ∧ w'.cell? ⟨bb, off + j * 6 + 3, none⟩ = some (.int .i64 z.cap_Index) ∧ w'.cell? ⟨bb, off + j * 6 + 4, none⟩ = some (.int .i64 z.cap_Rights) ∧ w'.cell? ⟨bb, off + j * 6 + 5, none⟩ = some (.int .u64 z.h) := fun w' F =>
            ⟨(F.cell (p := ⟨bb, off + j * 6, none⟩) hbl).trans c0, (F.cell (p := ⟨bb, off + j * 6 + 2, none⟩) hbl).trans c2', (F.cell (p := ⟨bb, off + j * 6 + 3, none⟩) hbl).trans c3', (F.cell (p := ⟨bb, off + j * 6 + 4, none⟩) hbl).trans c4', (F.cell (p := ⟨bb, off + j * 6 + 5, none⟩) hbl).trans c5⟩
          replace key := Lib.hid key
          have hjH := Lib.hid hjB
          have hj40 : j < 40 := by omega
          replace H := Lib.hid H.out.drew
          obtain ⟨Q, hy⟩ := H.out.y
          have a2 := Lib.hid (alike1_c hy H.out.tab ⟨z.kind, 0, z.cap_Kind, z.cap_Index, z.cap_Rights, z.h⟩ ⟨hgz.1, (show (Lit.int .i64 0).wf = true by decide), hgz.2.2.1, hgz.2.2.2.1, hgz.2.2.2.2.1, hgz.2.2.2.2.2⟩)
          clear hy hgz hbl c0 c1 c2' c3' c4' c5
          go_wp2_with fail
          refine seq_start [(0, true), (1, true), (2, true), (3, true), (4, true), (5, true), (6, true), (7, true), (8, true), (9, true), (10, true), (11, true), (12, true), (13, true), (14, true), (15, true), (16, true), (17, true), (18, false)] (fun w' => w'.cell? ⟨bb, off + j * 6, none⟩ = some (.int .i64 z.kind) ∧ w'.cell? ⟨bb, off + j * 6 + 2, none⟩ = some (.int .i64 z.cap_Kind) ∧ w'.cell? ⟨bb, off + j * 6 + 3, none⟩ = some (.int .i64 z.cap_Index) ∧ w'.cell? ⟨bb, off + j * 6 + 4, none⟩ = some (.int .i64 z.cap_Rights) ∧ w'.cell? ⟨bb, off + j * 6 + 5, none⟩ = some (.int .u64 z.h)) (by kernel_rfl) (by kernel_rfl) rfl (by kernel_rfl) (key.out _ H.out.B) ?_
          iterate 18 (refine seq_read rfl (by first | rfl | (go_simp; done)) (fun w' hw => by obtain ⟨s0, s1, s2, s3, s4⟩ := hw; go_simp; with_reducible rfl) ?_; try simp only [Act.put, List.setIfInBounds_toArray, List.set_cons_zero, List.set_cons_succ])
          refine seq_call rfl (fun K hK => ?_)
          go_simp
          refine a2.out.mono ?_
          rintro e w6 ⟨rfl, ha, F⟩
          replace H := Lib.hid (H.out.one ha F)
          refine hK.out _ _ (key.out _ H.out.B) ?_
          clear hK K a2 ha F z0 key
          try simp only [Act.put, List.setIfInBounds_toArray, List.set_cons_zero, List.set_cons_succ]
          refine seq_done ?_
          go_wp2
          go_roundw
          case rel => exact ⟨i, j + 1, n + 1, rfl, by go_num, by go_num, hi, hjH, hlH, H⟩
          case measure => have := hlH.out; simp [intOf]; omega
        · have e1 : decide ((j : Int) < (NB : Int)) = false := decide_eq_false (by omega)
          have e2 : decide (j < NB) = false := decide_eq_false hjB
          go_wp2
          go_roundw
          case rel => exact ⟨i, j, n + 1, rfl, rfl, by go_num, hi, hj, hlH, H⟩
          case measure => have := hlH.out; simp [intOf]; omega
    · obtain rfl : NT = n := by have := hn.out; omega
      obtain ⟨P, hx, hz⟩ := H.out.x
      have lX := Lib.hid (live_c hx H.out.tab)
      have hx0 := Lib.hid hx; have hz0 := Lib.hid hz
      have hll : Hid ((hsV (entA Rw.zero (vsP P) (xP most P))).length ≤ 1000) := Lib.hid (by
        have h1 := hsV_len (entA Rw.zero (vsP P) (xP most P))
        have h2 := entF_length_le Rw.zero (vsP P) (xP most P) 0
        rw [show entF Rw.zero (vsP P) (xP most P) 0 = entA Rw.zero (vsP P) (xP most P) from rfl, List.length_map, hx.len, hlX.out] at h2
        omega)
      clear hlt hn hx hz
      generalize hLe : hsV (entA Rw.zero (vsP P) (xP most P)) = L at *
      replace hLe := Lib.hid hLe
      go_wp2_with fail
      refine lX.out.mono ?_
      rintro e w6 ⟨v1, rfl, O1, F1⟩
      obtain ⟨A6, k6, rfl, -⟩ := O1.slice
      have H6 := Lib.hid (show Below w.heap.size w w6 from H.out.B.trans (F1.mono H.out.B.size))
      have x6 := Lib.hid (hx0.out.below F1); have z6 := Lib.hid (hz0.out.below F1)
      have lZ := live_c z6.out (HT.out.below H6.out)
      rw [hLe.out] at lZ
      replace lZ := Lib.hid lZ
      have P1 := Lib.hid O1.row.1
      clear lX O1 F1 hx0 hz0
      go_wp2_with fail
      refine lZ.out.mono ?_
      rintro e w7 ⟨v2, rfl, O2, F2⟩
      obtain ⟨A7, k7, rfl, -⟩ := O2.slice
      have sm := same5_c (ca := k6) (cb := k7) (n := L.length) (m := L.length) (P1.out.below F2) O2.row.1 (by have := hll.out; omega) rfl rfl
      have H7 := Lib.hid (H6.out.trans (F2.mono H6.out.size))
      have x7 := Lib.hid (x6.out.below F2); have z7 := Lib.hid (z6.out.below F2)
      replace sm := Lib.hid sm
      clear lZ O2 F2 P1 x6 z6 H6
      go_wp2_with fail
      refine sm.out.mono ?_
      rintro e w8 ⟨rfl, F3⟩
      have H8 := Lib.hid (H7.out.trans (F3.mono H7.out.size))
      have dX := Lib.hid (dead_c (x7.out.below F3)); have dZ := Lib.hid (dead_c (z7.out.below F3))
      clear sm x7 z7 H7 F3
      go_wp2_with fail
      refine dX.out.mono ?_
      rintro e w9 ⟨rfl, rfl⟩
      go_wp2_with fail
      refine dZ.out.mono ?_
      rintro e w9 ⟨rfl, rfl⟩
      clear dX dZ
      go_wp2
      go_ret
      exact ⟨rfl, H8.out⟩
end Go.Proofs.YtaflekpfpdnbcaaDoor
