/- BitsPlays. -/
import Derived.Test.YtkogkimncoaboaaDoorRef2
import Derived.Test.YtkogkimncoaboaaDoorAp2
import Derived.Deep.DeepCutAuto
import Derived.Deep.CutBlock
namespace Go.Proofs.YtkogkimncoaboaaDoor
open Go.RowKit
set_option linter.unusedVariables false
set_option linter.unusedSimpArgs false
set_option linter.unusedSectionVars false
set_option maxRecDepth 100000

structure Op2 where
  kind : Int
  k : Int
deriving DecidableEq, Inhabited
def Op2.cells (z : Op2) : List Value := [.int .i64 z.kind, .int .i64 z.k]
def Op2.good (z : Op2) : Prop := (Lit.int .i64 z.kind).wf = true ∧ (Lit.int .i64 z.k).wf = true
def Op2.val (z : Op2) : Value := .agg #[.int .i64 z.kind, .int .i64 z.k]
theorem el_Op2 {H : Type} {enc : TypeId × Value → H} {w : World} : ∀ n cs x, DataW.trod enc Tryd.prog w 0 (fun _ => true) true n 29 cs = some x → ∃ z : Op2, cs = z.cells ∧ z.good := by
  intro n cs x h
  have hl := (struct_cells Tryd.underlying29 h).1
  rw [show Tryd.prog.cellsOf 29 = 2 by kernel_rfl] at hl
  obtain ⟨v0, v1, rfl⟩ : ∃ v0 v1 : Value, cs = [v0, v1] := by
    match cs, hl with
    | [v0, v1], _ => exact ⟨v0, v1, rfl⟩
  obtain ⟨-, n, f⟩ := struct_cells Tryd.underlying29 h
  obtain ⟨y_0, h_0⟩ := f 0 _ rfl
  replace h_0 : DataW.trod enc Tryd.prog w 0 (fun _ => true) true n 3 [v0] = some y_0 := h_0
  obtain ⟨a0, e0, g0⟩ := (el_int Tryd.underlying3) _ _ _ h_0
  obtain rfl : v0 = .int .i64 a0 := by simpa using e0
  obtain ⟨y_1, h_1⟩ := f 1 _ rfl
  replace h_1 : DataW.trod enc Tryd.prog w 0 (fun _ => true) true n 3 [v1] = some y_1 := h_1
  obtain ⟨a1, e1, g1⟩ := (el_int Tryd.underlying3) _ _ _ h_1
  obtain rfl : v1 = .int .i64 a1 := by simpa using e1
  exact ⟨⟨a0, a1⟩, rfl, ⟨g0, g1⟩⟩
/-- A set and a row, apart. -/
structure StB (w wr : World) (p g : Nat) (vx : Value) (X Y : List Bool) : Prop where
  st : St2 w wr p g X
  row : OwnE bE wr 0 vx Y
  sep : ∀ b, vx.ownBlock = some b → b ≠ p ∧ b ≠ g
theorem StB.put {w wr w2 : World} {p g : Nat} {vx : Value} {X X' Y : List Bool} (h : StB w wr p g vx X Y) (K : SetB w2 p g X') (F : FrB (bitS p g) wr w2) : StB w w2 p g vx X' Y :=
  ⟨h.st.put K F, h.row.frb F (fun b hb hh => hh.elim (fun e => (h.sep b hb).1 e) (fun e => (h.sep b hb).2 e)), h.sep⟩
theorem StB.below {w wr w2 : World} {p g : Nat} {vx : Value} {X Y : List Bool} (h : StB w wr p g vx X Y) (F : Below wr.heap.size wr w2) : StB w w2 p g vx X Y := ⟨h.st.below F, h.row.below F, h.sep⟩
theorem StB.drewN {w wr : World} {p g : Nat} {vx : Value} {X Y : List Bool} (h : StB w wr p g vx X Y) (m : Nat) : StB w (wr.drewN m) p g vx X Y := ⟨h.st.drewN m, h.row.drewN m, h.sep⟩
theorem StB.rows {w wr w2 : World} {p g : Nat} {vx v2 : Value} {X Y Y' : List Bool} (h : StB w wr p g vx X Y) (R : OwnE bE w2 wr.heap.size v2 Y') (F : Below wr.heap.size wr w2) : StB w w2 p g v2 X Y' :=
  ⟨h.st.below F, R.mono (Nat.zero_le _), fun b hb => by have h1 := (R.lt b hb).1; have := h.st.s.lt; omega⟩
/-- The step in its variable. -/
structure OpB (wr : World) (p g : Nat) (Z : Nat) (k : Int) : Prop where
  c1 : Cel wr Z 1 (.int .i64 k)
  np : Z ≠ p
  ng : Z ≠ g
theorem OpB.put {wr w2 : World} {p g Z : Nat} {k : Int} (h : OpB wr p g Z k) (F : FrB (bitS p g) wr w2) : OpB w2 p g Z k := ⟨h.c1.frb F (fun hh => hh.elim (fun e => h.np e) (fun e => h.ng e)), h.np, h.ng⟩
theorem OpB.below {wr w2 : World} {p g Z : Nat} {k : Int} (h : OpB wr p g Z k) (F : Below wr.heap.size wr w2) : OpB w2 p g Z k := ⟨h.c1.frb (FrB.of_below (S := fun _ => False) F (Nat.le_refl _)) (fun h => h), h.np, h.ng⟩
theorem putL_full {X : List Bool} {k : Int} (h : putB X k = true) : ∃ K : Nat, k = K ∧ K < X.length ∧ hasB X k = false ∧ putL X k = X.set K true := by
  have h0 : 0 ≤ k := by
    by_cases h0 : 0 ≤ k
    · exact h0
    · rw [putB_neg (by omega)] at h; cases h
  obtain ⟨K, rfl⟩ := Int.eq_ofNat_of_zero_le h0
  have hk : K < X.length := by
    by_cases hk : K < X.length
    · exact hk
    · rw [putB_out (by omega)] at h; cases h
  have hh : hasB X (K : Int) = false := by rw [putB_has hk] at h; simpa using h
  exact ⟨K, rfl, hk, hh, putL_yes hk hh⟩
theorem dropL_full {X : List Bool} {k : Int} (h : hasB X k = true) : ∃ K : Nat, k = K ∧ K < X.length ∧ dropL X k = X.set K false := by
  have h0 : 0 ≤ k := by
    by_cases h0 : 0 ≤ k
    · exact h0
    · rw [hasB_neg (by omega)] at h; cases h
  obtain ⟨K, rfl⟩ := Int.eq_ofNat_of_zero_le h0
  have hk : K < X.length := by
    by_cases hk : K < X.length
    · exact hk
    · rw [hasB_out (by omega)] at h; cases h
  exact ⟨K, rfl, hk, dropL_yes h⟩

set_option maxHeartbeats 8000000 in
theorem plays2_walk (a : Int) (A0 : Option Addr) (c0 : Nat) (xs : List Op2) (ask : Int) (w : World) (hT : Tab w) (hr : RowAt Op2.cells 2 w A0 xs) :
    Calls Tryd.prog 3 #[.int .i64 a, .slice A0 xs.length c0, .int .i64 ask] w fun e w' => e = .returned (.bool true) ∧ Below w.heap.size w w' := by
  have HR := Lib.hid hr
  have HT := Lib.hid hT
  clear hr hT
  by_cases hbig : 60 < xs.length
  · have hb1 : decide ((60 : Int) < (xs.length : Int)) = true := by simp; omega
    go_enter Tryd.func3, Tryd.ntmps3
    go_wp2_with fail
    refine (alive02_c w HT.out).mono ?_
    rintro e w1 ⟨rfl, hB1⟩
    have HB1 := Lib.hid hB1
    clear hB1
    go_wp2
    go_ret
    exact ⟨rfl, HB1.out⟩
  have hb1 : decide ((60 : Int) < (xs.length : Int)) = false := by simp; omega
  replace hbig := Lib.hid hbig
  go_enter Tryd.func3, Tryd.ntmps3
  go_wp2_with fail
  refine (alive02_c w HT.out).mono ?_
  rintro e w1 ⟨rfl, hB1⟩
  go_wp2_with fail
  refine (new_s w1 a).mono ?_
  rintro e w2 ⟨p, g, rfl, S, lp, lg, B⟩
  have S0 := St2.new HT.out hB1 S lp lg B
  have hX0 := Lib.hid (show (List.replicate (capB a) false).length ≤ 4096 by unfold capB; simp; omega)
  clear hB1 S lp lg B
  go_wp2_with fail
  refine (rnew_c w2 a).mono ?_
  rintro e w3 ⟨vx, rfl, O, B⟩
  have S1 := Lib.hid (show StB w w3 p g vx (List.replicate (capB a) false) (List.replicate (capB a) false) from ⟨S0.below B, O.mono (Nat.zero_le _), fun b hb => by have h1 := (O.lt b hb).1; have := S0.s.lt; omega⟩)
  generalize List.replicate (capB a) false = X0 at *
  clear S0 O B
  go_wp2_with fail
  go_loopw [8, 34] (fun vx ii wr => ∃ (i : Nat) (X : List Bool), ii = .int .i64 i ∧ Hid (StB w wr p g vx X X) ∧ Hid (X.length ≤ 4096) ∧ Hid (i ≤ xs.length)) (fun _ ii _ => xs.length - (intOf ii).toNat)
  case atStart => exact ⟨0, _, rfl, S1, hX0, Lib.hid (Nat.zero_le _)⟩
  case round =>
    clear S1 hX0
    obtain ⟨i, X, rfl, S, hX, hi⟩ := hrel
    obtain ⟨A, c, rfl, _⟩ := S.out.row.slice
    by_cases hlt : i < xs.length
    · have hi61 : i < 61 := by have := hbig.out; omega
      obtain ⟨b, off, rfl, hbl, hc⟩ := HR.out i hlt
      have hz0 := (S.out.st.b.cell (p := ⟨b, off + i * 2 + 0, none⟩) hbl).trans (hc 0 _ rfl)
      have hz1 := (S.out.st.b.cell (p := ⟨b, off + i * 2 + 1, none⟩) hbl).trans (hc 1 _ rfl)
      rw [Nat.add_zero] at hz0
      generalize xs[i] = z at *
      clear hc hbl
      have hB0 := Below.alloc (Below.refl wr.heap.size wr) (Nat.le_refl _) (.cells #[.int .i64 z.kind, .int .i64 z.k] 29)
      have S1 := Lib.hid (S.out.below hB0)
      have Z1 := Lib.hid (show OpB (wr.alloc (.cells #[.int .i64 z.kind, .int .i64 z.k] 29)) p g wr.heap.size z.k from
        ⟨Cel.new wr #[.int .i64 z.kind, .int .i64 z.k] 29 1 _ rfl, fun e => by have := S.out.st.s.lt; omega, fun e => by have := S.out.st.s.lt; omega⟩)
      have zc0 := Lib.hid (Cel.new wr #[.int .i64 z.kind, .int .i64 z.k] 29 0 _ rfl)
      clear S hB0
      go_wp2_with fail
      generalize wr.alloc (.cells #[.int .i64 z.kind, .int .i64 z.k] 29) = wz at *
      generalize wr.heap.size = Z at *
      refine (rhas_c S1.out.row z.k).mono ?_
      rintro e w5 ⟨rfl, rfl⟩
      have zz0 := zc0.out.1
      obtain ⟨hs, hhs⟩ : ∃ hs, hs = hasB X z.k := ⟨_, rfl⟩
      rw [← hhs]
      replace hhs := Lib.hid hhs
      go_upto_block 2 with fail
      go_cut [8] (fun vx wx => ∃ (X : List Bool), Hid (StB w wx p g vx X X) ∧ Hid (OpB wx p g Z z.k) ∧ Hid (X.length ≤ 4096))
      case first =>
        have zz1 := Z1.out.c1.1
        by_cases q0 : z.kind = 0
        · have t0 : (z.kind == 0) = true := beq_iff_eq.mpr q0
          clear q0
          cases hp : putB X z.k with
          | true =>
            obtain ⟨K, hkK, hKX, hh, hset⟩ := putL_full hp
            have hs0 : hs = false := by rw [hhs.out, hh]
            subst hs0
            have d0 : decide ((0 : Int) ≤ z.k) = true := by simp; omega
            have d1 : decide (z.k < (X.length : Int)) = true := by simp; omega
            replace hp := Lib.hid hp; replace hset := Lib.hid hset; replace hkK := Lib.hid hkK; replace hKX := Lib.hid hKX
            clear hh
            go_wp2_with fail
            refine (put_s S1.out.st.s _).mono ?_
            rintro e w6 ⟨rfl, Q, F⟩
            rw [hset.out] at Q
            have S2 := Lib.hid (S1.out.put Q F)
            have Z2 := Lib.hid (Z1.out.put F)
            rw [hp.out]
            clear Q F zz0 zz1
            have zz1 := Z2.out.c1.1
            have hR := Lib.hid (rset_c S2.out.row hX.out hKX.out true)
            rw [← hkK.out] at hR
            go_wp2_with fail
            refine hR.out.mono ?_
            rintro e w7 ⟨v2, rfl, R, F⟩
            have S3 := Lib.hid (S2.out.rows R F)
            have Z3 := Lib.hid (Z2.out.below F)
            clear R F zz1
            go_wp2_with fail
            go_meet
            exact ⟨_, S3, Z3, Lib.hid (by rw [List.length_set]; exact hX.out)⟩
          | false =>
            have hset : putL X z.k = X := by unfold putL; rw [hp]; rfl
            have hno : z.k < 0 ∨ (0 ≤ z.k ∧ (X.length : Int) ≤ z.k) ∨ (0 ≤ z.k ∧ z.k < X.length ∧ hs = true) := by
              by_cases h1 : z.k < 0
              · exact .inl h1
              · by_cases h2 : (X.length : Int) ≤ z.k
                · exact .inr (.inl ⟨by omega, h2⟩)
                · refine .inr (.inr ⟨by omega, by omega, ?_⟩)
                  rw [hhs.out]
                  obtain ⟨K, hK⟩ := Int.eq_ofNat_of_zero_le (show 0 ≤ z.k by omega)
                  rw [hK] at hp ⊢
                  rw [putB_has (by omega)] at hp
                  simpa using hp
            replace hp := Lib.hid hp; replace hset := Lib.hid hset
            rcases hno with h1 | ⟨h1, h2⟩ | ⟨h1, h2, rfl⟩
            · have d0 : decide ((0 : Int) ≤ z.k) = false := by simp; omega
              clear h1
              go_wp2_with fail
              refine (put_s S1.out.st.s _).mono ?_
              rintro e w6 ⟨rfl, Q, F⟩
              rw [hset.out] at Q
              have S2 := Lib.hid (S1.out.put Q F)
              have Z2 := Lib.hid (Z1.out.put F)
              rw [hp.out]
              clear Q F zz0 zz1
              go_wp2_with fail
              go_meet
              exact ⟨_, S2, Z2, hX⟩
            · have d0 : decide ((0 : Int) ≤ z.k) = true := by simp; omega
              have d1 : decide (z.k < (X.length : Int)) = false := by simp; omega
              clear h1 h2
              go_wp2_with fail
              refine (put_s S1.out.st.s _).mono ?_
              rintro e w6 ⟨rfl, Q, F⟩
              rw [hset.out] at Q
              have S2 := Lib.hid (S1.out.put Q F)
              have Z2 := Lib.hid (Z1.out.put F)
              rw [hp.out]
              clear Q F zz0 zz1
              go_wp2_with fail
              go_meet
              exact ⟨_, S2, Z2, hX⟩
            · have d0 : decide ((0 : Int) ≤ z.k) = true := by simp; omega
              have d1 : decide (z.k < (X.length : Int)) = true := by simp; omega
              clear h1 h2
              go_wp2_with fail
              refine (put_s S1.out.st.s _).mono ?_
              rintro e w6 ⟨rfl, Q, F⟩
              rw [hset.out] at Q
              have S2 := Lib.hid (S1.out.put Q F)
              have Z2 := Lib.hid (Z1.out.put F)
              rw [hp.out]
              clear Q F zz0 zz1
              go_wp2_with fail
              go_meet
              exact ⟨_, S2, Z2, hX⟩
        have t0 : (z.kind == 0) = false := beq_eq_false_iff_ne.mpr q0
        clear q0
        by_cases q0 : z.kind = 1
        · have t1 : (z.kind == 1) = true := beq_iff_eq.mpr q0
          clear q0
          cases hs with
          | true =>
            obtain ⟨K, hkK, hKX, hset⟩ := dropL_full hhs.out.symm
            replace hset := Lib.hid hset; replace hkK := Lib.hid hkK; replace hKX := Lib.hid hKX
            go_wp2_with fail
            refine (drop_s S1.out.st.s _).mono ?_
            rintro e w6 ⟨rfl, Q, F⟩
            rw [hset.out] at Q
            have S2 := Lib.hid (S1.out.put Q F)
            have Z2 := Lib.hid (Z1.out.put F)
            rw [← hhs.out]
            clear Q F zz0 zz1
            have zz1 := Z2.out.c1.1
            have hR := Lib.hid (rset_c S2.out.row hX.out hKX.out false)
            rw [← hkK.out] at hR
            go_wp2_with fail
            refine hR.out.mono ?_
            rintro e w7 ⟨v2, rfl, R, F⟩
            have S3 := Lib.hid (S2.out.rows R F)
            have Z3 := Lib.hid (Z2.out.below F)
            clear R F zz1
            go_wp2_with fail
            go_meet
            exact ⟨_, S3, Z3, Lib.hid (by rw [List.length_set]; exact hX.out)⟩
          | false =>
            have hset := Lib.hid (dropL_no (X := X) hhs.out.symm)
            go_wp2_with fail
            refine (drop_s S1.out.st.s _).mono ?_
            rintro e w6 ⟨rfl, Q, F⟩
            rw [hset.out] at Q
            have S2 := Lib.hid (S1.out.put Q F)
            have Z2 := Lib.hid (Z1.out.put F)
            rw [← hhs.out]
            clear Q F zz0 zz1
            go_wp2_with fail
            go_meet
            exact ⟨_, S2, Z2, hX⟩
        have t1 : (z.kind == 1) = false := beq_eq_false_iff_ne.mpr q0
        clear q0
        go_wp2_with fail
        go_meet
        exact ⟨_, S1, Z1, hX⟩
      case rest =>
        obtain ⟨X2, S2, Z2, hX2⟩ := hcut
        clear S1 Z1 hX zz0 zc0 hhs
        obtain ⟨A, c, rfl, _⟩ := S2.out.row.slice
        have zz1 := Z2.out.c1.1
        have hB := Below.alloc (Below.refl wc.heap.size wc) (Nat.le_refl _) (.cells #[.int .i64 ask, .int .i64 z.k] 3)
        have S3 := Lib.hid (S2.out.below hB)
        have y0 := Lib.hid (Cel.new wc #[.int .i64 ask, .int .i64 z.k] 3 0 _ rfl)
        have y1 := Lib.hid (Cel.new wc #[.int .i64 ask, .int .i64 z.k] 3 1 _ rfl)
        clear S2 hB Z2
        go_wp2_with fail
        generalize wc.alloc (.cells #[.int .i64 ask, .int .i64 z.k] 3) = wq at *
        generalize wc.heap.size = Y at *
        clear zz1
        go_loopw [89] (fun jj wr2 => ∃ j : Nat, jj = .int .i64 j ∧ Hid (Below wq.heap.size wq wr2) ∧ Hid (j ≤ 2)) (fun jj _ => 2 - (intOf jj).toNat)
        case atStart => exact ⟨0, rfl, Lib.hid (Below.refl _ _), Lib.hid (by omega)⟩
        case round =>
          obtain ⟨j, rfl, HF, hj⟩ := hrel
          have S4 := Lib.hid (S3.out.below HF.out)
          by_cases hj2 : j < 2
          · have hy : ∃ k, wr.cell? ⟨Y, j, none⟩ = some (.int .i64 k) := by
              match j, hj2 with
              | 0, _ => exact ⟨_, (HF.out.cell (p := ⟨Y, 0, none⟩) y0.out.lt).trans y0.out.1⟩
              | 1, _ => exact ⟨_, (HF.out.cell (p := ⟨Y, 1, none⟩) y1.out.lt).trans y1.out.1⟩
            obtain ⟨k, hy⟩ := hy
            go_wp2_with fail
            refine (next_s S4.out.st.s S4.out.st.tab k).mono ?_
            rintro e w5 ⟨rfl, m1, rfl⟩
            have S5 := Lib.hid (S4.out.drewN m1)
            have HF5 := Lib.hid (show Below wq.heap.size wq (wr.drewN m1) from ⟨HF.out.os, HF.out.tape, HF.out.output, HF.out.size, HF.out.block⟩)
            clear S4 HF hy
            generalize wr.drewN m1 = w5 at *
            go_wp2_with fail
            refine (rnext_c S5.out.row hX2.out k true).mono ?_
            rintro e w6 ⟨rfl, rfl⟩
            go_wp2_with fail
            refine (gap_s S5.out.st.s S5.out.st.tab k).mono ?_
            rintro e w6 ⟨rfl, m2, rfl⟩
            have S6 := Lib.hid (S5.out.drewN m2)
            have HF6 := Lib.hid (show Below wq.heap.size wq (w5.drewN m2) from ⟨HF5.out.os, HF5.out.tape, HF5.out.output, HF5.out.size, HF5.out.block⟩)
            clear S5 HF5
            generalize w5.drewN m2 = w6 at *
            go_wp2_with fail
            refine (rnext_c S6.out.row hX2.out k false).mono ?_
            rintro e w7 ⟨rfl, rfl⟩
            generalize nextV X2 true k = v1 at *
            generalize nextO X2 true k = v2 at *
            generalize nextV X2 false k = v3 at *
            generalize nextO X2 false k = v4 at *
            go_wp2_with fail
            refine (has_s S6.out.st.s k).mono ?_
            rintro e w7 ⟨rfl, rfl⟩
            go_wp2_with fail
            refine (rhas_c S6.out.row k).mono ?_
            rintro e w7 ⟨rfl, rfl⟩
            go_wp2
            go_roundw
            case rel => exact ⟨j + 1, by go_num, HF6, Lib.hid (by omega)⟩
            case measure => simp [intOf]; omega
          · go_wp2
            go_roundw
            case rel => exact ⟨i + 1, X2, by go_num, S4, hX2, Lib.hid (by omega)⟩
            case measure => simp [intOf]; omega
    · go_wp2_with fail
      clear hlt
      refine (size_s S.out.st.s).mono ?_
      rintro e w5 ⟨rfl, rfl⟩
      go_wp2_with fail
      refine (count_s S.out.st.s).mono ?_
      rintro e w5 ⟨rfl, rfl⟩
      go_wp2_with fail
      refine (rcount_c S.out.row hX.out).mono ?_
      rintro e w5 ⟨rfl, rfl⟩
      go_wp2
      go_ret
      exact ⟨by simp, S.out.st.b⟩
end Go.Proofs.YtkogkimncoaboaaDoor
