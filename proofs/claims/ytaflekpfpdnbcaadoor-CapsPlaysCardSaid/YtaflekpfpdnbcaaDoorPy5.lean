/- CapsPlays: the law, walked: of every row of steps the answer is true. Condition: the rows that come in lie in memory as the row says. -/
import Derived.Test.YtaflekpfpdnbcaaDoorPc5
import Derived.Deep.DeepCutAuto
import Derived.Deep.CutBlock
namespace Go.Proofs.YtaflekpfpdnbcaaDoor
open Go.RowKit Go.Maps
set_option linter.unusedVariables false
set_option linter.unusedSimpArgs false
set_option linter.unusedSectionVars false
set_option maxRecDepth 100000

/-- The step's own variable. -/
structure OpP (wr : World) (T : TD) (X Z : Nat) (v : Value) (zck : Int) : Prop where
  c2 : Cel wr Z 2 (.int .i64 zck)
  no : T.No Z
  ne : Z ≠ X
  nv : v.ownBlock ≠ some Z
section
variable {wr w' : World} {T : TD} {X Z : Nat} {v v' : Value} {zck : Int}
theorem OpP.turn (h : OpP wr T X Z v zck) (F : FrC T.F wr w') : OpP w' T X Z v zck := ⟨F.keepT h.no h.c2, h.no, h.ne, h.nv⟩
theorem OpP.below (h : OpP wr T X Z v zck) (F : Below wr.heap.size wr w') : OpP w' T X Z v zck := ⟨h.c2.frb (FrB.of_below (S := fun _ => False) F (Nat.le_refl _)) (fun h => h), h.no, h.ne, h.nv⟩
theorem OpP.lay (h : OpP wr T X Z v zck) (a b : Value) : OpP ((wr.setCell ⟨X, 0, none⟩ a).setCell ⟨X, 1, none⟩ b) T X Z v zck := ⟨(h.c2.other (.inl (Ne.symm h.ne)) _).other (.inl (Ne.symm h.ne)) _, h.no, h.ne, h.nv⟩
theorem OpP.app (h : OpP wr T X Z v zck) (G : wr.grownBy w' v.ownBlock) (e : v'.ownBlock = v.ownBlock ∨ v'.ownBlock = some wr.heap.size) : OpP w' T X Z v' zck := ⟨h.c2.frb (FrB.grown G) h.nv, h.no, h.ne, fun k => by
  rcases e with e | e
  · exact h.nv (e.symm.trans k)
  · have := h.c2.lt
    rw [e] at k
    injection k with k
    omega⟩
end

set_option maxHeartbeats 16000000 in
theorem plays5_walk (a0 a1 : Int) (A2 : Option Addr) (c2 : Nat) (xs : List Op5) (a3 : Int) (hw3 : (Lit.int .u64 a3).wf = true) (a4 a5 : Int) (w : World) (hT : Tab w)
    (hr2 : RowAt Op5.cells 6 w A2 xs) (hg2 : ∀ x ∈ xs, x.good) :
    Calls Tryd.prog 8 #[.int .i64 a0, .int .i64 a1, .slice A2 xs.length c2, .int .u64 a3, .int .i64 a4, .int .i64 a5] w fun e w' => e = .returned (.bool true) ∧ Below w.heap.size w w' := by
  have al := Lib.hid (alive05_c w hT)
  have HT := Lib.hid hT
  have R2 := Lib.hid hr2; have G2 := Lib.hid hg2
  have hw := wf_u64 hw3
  obtain ⟨O, rfl⟩ := Int.eq_ofNat_of_zero_le hw.1
  have hO : O < 18446744073709551616 := by omega
  obtain ⟨NA, hA⟩ : ∃ n, n = xs.length := ⟨_, rfl⟩
  rw [← hA]
  replace hA := Lib.hid hA
  clear hT hr2 hg2 hw3 hw
  by_cases hbig : 40 < NA
  · have d1 : decide ((40 : Int) < (NA : Int)) = true := decide_eq_true (by omega)
    have d2 : decide (40 < NA) = true := decide_eq_true hbig
    go_enter Tryd.func8, Tryd.ntmps8
    go_wp2_with fail
    refine al.out.mono ?_
    rintro e w1 ⟨rfl, F⟩
    replace F := Lib.hid F
    go_wp2
    go_ret
    exact ⟨rfl, F.out⟩
  have d1 : decide ((40 : Int) < (NA : Int)) = false := decide_eq_false (by omega)
  have d2 : decide (40 < NA) = false := decide_eq_false hbig
  have hA40 : NA ≤ 40 := by omega
  clear hbig
  go_enter Tryd.func8, Tryd.ntmps8
  go_wp2_with fail
  refine al.out.mono ?_
  rintro e w1 ⟨rfl, F⟩
  have B1 := Lib.hid F
  clear F
  have ea := Lib.hid (show ∃ R : Nat, bits .and .i64 a0 15 = (R : Int) ∧ R < 16 from mask_nat 4 15 (by decide) (by decide) a0)
  have eb := Lib.hid (show ∃ R : Nat, bits .and .i64 0 15 = (R : Int) ∧ R < 16 from ⟨0, zero_and 15, by decide⟩)
  go_wp2_with fail
  all_goals
    first
      | (obtain ⟨Rm, e, hR⟩ := ea.out; rw [e])
      | (obtain ⟨Rm, e, hR⟩ := eb.out; rw [e])
    clear ea eb
    have tb := Lib.hid (table_c (HT.out.below B1.out) (Rm : Int) a1)
    rw [show capR (Rm : Int) = Rm by unfold capR; omega] at tb
    refine tb.out.mono ?_
    rintro e w2 ⟨T, rfl, H⟩
    replace H := Lib.hid H
    have nd := Lib.hid (newD_c w2 Rm (by omega) a1)
    clear tb
    go_wp2_with fail
    refine nd.out.mono ?_
    rintro e w3 ⟨A0, c0, rfl, O3, F3⟩
    have hsz := F3.size
    have FA := blA (Below.refl w3.heap.size w3) (.cells #[.slice A0 Rm c0, .int .i64 (mostP a1)] 65)
    have O5 : OwnE uE ((w3.alloc (.cells #[.slice A0 Rm c0, .int .i64 (mostP a1)] 65)).alloc (.cells #[] 23)) (w3.heap.size + 1) (.slice (some ⟨w3.heap.size + 1, 0, none⟩) 0 0) (([] : List Nat).map fun h : Nat => (h : Int)) := by
      have := OwnE.lit (E := uE) (w3.alloc (.cells #[.slice A0 Rm c0, .int .i64 (mostP a1)] 65)) (w3.heap.size + 1) (by simp) [] #[] rfl (Nat.zero_le _)
      rw [World.size_alloc] at this
      exact this
    have S0 := Lib.hid (show PyC w1 ((w3.alloc (.cells #[.slice A0 Rm c0, .int .i64 (mostP a1)] 65)).alloc (.cells #[] 23)) T (List.replicate Rm Pc.new) (mostP a1) w2.heap.size w3.heap.size Rm c0 A0 (.slice (some ⟨w3.heap.size + 1, 0, none⟩) 0 0) [] from
      ⟨((H.out.below F3).below FA).alloc _, (Cel.new w3 _ _ 0 _ rfl).alloc _, (Cel.new w3 _ _ 1 _ rfl).alloc _,
        ⟨(O3.row.1.below FA).below (blA (Below.refl _ _) _), fun hp a ha => by
          have h1 := (RowD.of_own O3).2 hp a ha
          obtain ⟨b, off, e, hlt, -⟩ := O3.row.1 0 hp
          rw [ha] at e
          injection e with e
          subst e
          exact ⟨h1, by simp only; omega, fun e => by injection e with e; simp only at e; omega⟩⟩,
        by simp, O5, fun h hh => by simp at hh, fun k hk => ⟨H.out.S.no hk, by have := H.out.S.R.lt; omega⟩, H.out.B.size, hsz⟩)
    clear O3 F3 FA O5 H nd
    go_wp2_with fail
    generalize (w3.alloc (.cells #[.slice A0 Rm c0, .int .i64 (mostP a1)] 65)).alloc (.cells #[] 23) = w4 at *
    generalize hXX : w3.heap.size = X at *
    replace hXX := Lib.hid hXX
    generalize w2.heap.size = mb at *
    generalize hmo : mostP a1 = most at *
    replace hmo := Lib.hid hmo
    clear hsz
    go_loopw [15, 43] (fun vv ii wr => ∃ (i : Nat) (P : List Pc) (c : Nat) (A : Option Addr) (v : Value) (made : List Nat), ii = .int .i64 i ∧ vv = v ∧ Hid (i ≤ NA) ∧ Hid (PyC w1 wr T P most mb X Rm c A v made) ∧ Hid (made.length ≤ i)) (fun _ ii _ => NA - (intOf ii).toNat)
    case atStart => exact ⟨0, _, _, _, _, _, rfl, rfl, Lib.hid (Nat.zero_le _), S0, Lib.hid (Nat.zero_le _)⟩
    case round =>
      clear S0
      obtain ⟨i, P, c, A, v, made, rfl, rfl, hi, S, hml⟩ := hrel
      by_cases hlt : i < NA
      · have hlx : i < xs.length := by rw [← hA.out]; exact hlt
        obtain ⟨A', k', rfl, -⟩ := S.out.V.slice
        rw [List.length_map] at S ⊢
        obtain ⟨ml, hml2⟩ : ∃ m, m = made.length := ⟨_, rfl⟩
        rw [← hml2] at S ⊢
        replace hml2 := Lib.hid hml2
        obtain ⟨bb, off, rfl, hbl, c0, c1, c2', c3', c4', c5⟩ := R2.out.op5 hlx
        have hgz := G2.out _ (List.getElem_mem hlx)
        generalize xs[i] = z at *
        obtain ⟨zk, zn, zck, zci, zcr, zh⟩ := z
        have hwz := wf_u64 hgz.2.2.2.2.2
        dsimp only at hwz c0 c1 c2' c3' c4' c5
        obtain ⟨Hh, rfl⟩ := Int.eq_ofNat_of_zero_le hwz.1
        have hHh : Hh < 18446744073709551616 := by omega
        have Bw := B1.out.trans (S.out.S.B.mono B1.out.size)
        replace c0 := (Bw.cell (p := ⟨bb, off + i * 6, none⟩) hbl).trans c0
        replace c1 := (Bw.cell (p := ⟨bb, off + i * 6 + 1, none⟩) hbl).trans c1
        replace c2' := (Bw.cell (p := ⟨bb, off + i * 6 + 2, none⟩) hbl).trans c2'
        replace c3' := (Bw.cell (p := ⟨bb, off + i * 6 + 3, none⟩) hbl).trans c3'
        replace c4' := (Bw.cell (p := ⟨bb, off + i * 6 + 4, none⟩) hbl).trans c4'
        replace c5 := (Bw.cell (p := ⟨bb, off + i * 6 + 5, none⟩) hbl).trans c5
        have hlH := Lib.hid hlt
        have hi40 : i < 41 := by omega
        have hnl := S.out.xl
        have FA := blA (Below.refl wr.heap.size wr) (.cells #[.int .i64 zk, .int .i64 zn, .int .i64 zck, .int .i64 zci, .int .i64 zcr, .int .u64 Hh] 32)
        have Z5 := Lib.hid (show OpP (wr.alloc (.cells #[.int .i64 zk, .int .i64 zn, .int .i64 zck, .int .i64 zci, .int .i64 zcr, .int .u64 Hh] 32)) T X wr.heap.size (.slice A' ml k') zck from
          ⟨Cel.new wr _ _ 2 _ rfl, (S.out.no _ (by have := S.out.lo; omega)).1, by omega, fun e => by have := (S.out.V.lt _ e).2; omega⟩)
        have y0 := (Cel.new wr #[.int .i64 zk, .int .i64 zn, .int .i64 zck, .int .i64 zci, .int .i64 zcr, .int .u64 Hh] 32 0 _ rfl).1
        have y1 := (Cel.new wr #[.int .i64 zk, .int .i64 zn, .int .i64 zck, .int .i64 zci, .int .i64 zcr, .int .u64 Hh] 32 1 _ rfl).1
        have yc := Lib.hid (And.intro (Cel.new wr #[.int .i64 zk, .int .i64 zn, .int .i64 zck, .int .i64 zci, .int .i64 zcr, .int .u64 Hh] 32 2 _ rfl) (And.intro (Cel.new wr #[.int .i64 zk, .int .i64 zn, .int .i64 zck, .int .i64 zci, .int .i64 zcr, .int .u64 Hh] 32 3 _ rfl) (Cel.new wr #[.int .i64 zk, .int .i64 zn, .int .i64 zck, .int .i64 zci, .int .i64 zcr, .int .u64 Hh] 32 4 _ rfl)))
        have y2 := yc.out.1.1; have y3 := yc.out.2.1.1; have y4 := yc.out.2.2.1
        have y5 := (Cel.new wr #[.int .i64 zk, .int .i64 zn, .int .i64 zck, .int .i64 zci, .int .i64 zcr, .int .u64 Hh] 32 5 _ rfl).1
        replace S := Lib.hid (S.out.below FA)
        clear FA hwz hgz hbl Bw hnl
        go_upto_block 2 with fail
        go_cut [15, 18] (fun ww qq wx => ∃ (P : List Pc) (c : Nat) (A : Option Addr) (v : Value) (made : List Nat) (hN : Nat), ww = v ∧ qq = .int .u64 (hN : Int) ∧ Hid (hN < 18446744073709551616) ∧ Hid (PyC w1 wx T P most mb X Rm c A v made) ∧ Hid (OpP wx T X wr.heap.size v zck) ∧ Hid (made.length ≤ i + 1))
        case first =>
          generalize wr.alloc (.cells #[.int .i64 zk, .int .i64 zn, .int .i64 zck, .int .i64 zci, .int .i64 zcr, .int .u64 Hh] 32) = wz at *
          generalize wr.heap.size = Z at *
          by_cases q0 : zk = 0
          · subst q0
            have mt := S.out.S.mint zck zci zcr
            have hR2 : (zcr % 256).toNat < 256 := by omega
            obtain ⟨r, hr⟩ : ∃ r, r = (zcr % 256).toNat := ⟨_, rfl⟩
            rw [mintA_eq, ← hr] at mt
            rw [← hr] at hR2
            have mdg := fun w' (K : PyT w1 w' T P (mintP P zck zci r (nextB (xP most P) false 0)) most mb X Rm c A (.slice A' ml k') made) => mint_d (c := c) K.R K.newE S.out.S.S.pc S.out.S.S.most.2 (by rw [S.out.S.S.len]; exact S.out.S.S.n) zck zci zcr
            rw [← hr, ← S.out.n] at mdg
            replace hr := Lib.hid hr
            have hnl : Rm = (mintP P zck zci r (nextB (xP most P) false 0)).length := by
              rw [S.out.n]
              cases nextB (xP most P) false 0 with
              | none => rfl
              | some j => exact List.length_set.symm
            have hml9 : made.length ≤ i := hml.out
            have hvb : ∃ hv er : Nat, mintH P r (nextB (xP most P) false 0) = ((hv : Int), (er : Int)) ∧ hv < 18446744073709551616 ∧ (er = 0 ∨ er = 4) := by
              cases hnx : nextB (xP most P) false 0 with
              | none => exact ⟨0, 4, rfl, by omega, .inr rfl⟩
              | some j =>
                obtain ⟨hj, -, hjx, -⟩ := nextB_of hnx
                have hjP : j < P.length := by simpa using hj
                have hf : P[j].full most = false := by rw [← xP_at (most := most) hjP]; exact hjx
                have hgd : P.getD j Pc.new = P[j] := by simp [hjP]
                have hg : P[j].gen < most := by unfold Pc.full at hf; simp at hf; omega
                have := S.out.S.S.most.2
                have := S.out.S.S.len; have := S.out.S.S.n
                exact ⟨(P[j].gen + 1) * 16777216 + j * 256 + r, 0, by rw [← hgd]; rfl, by omega, .inl rfl⟩
            obtain ⟨hv, er, emh, hvb, her⟩ := hvb
            rw [emh] at mt mdg
            obtain ⟨P', hP'⟩ : ∃ P', P' = mintP P zck zci r (nextB (xP most P) false 0) := ⟨_, rfl⟩
            rw [← hP'] at mt mdg hnl
            dsimp only at mt mdg
            replace mt := Lib.hid mt; replace mdg := Lib.hid mdg; replace hnl := Lib.hid hnl; replace emh := Lib.hid emh; replace hP' := Lib.hid hP'
            have q1 : ((hv : Int) != (hv : Int)) = false := by simp
            have q2 : ((er : Int) != (er : Int)) = false := by simp
            go_wp2_with fail
            refine mt.out.mono ?_
            rintro e w6 ⟨rfl, HT6, F6⟩
            have K6 := Lib.hid (S.out.turn HT6 F6)
            have Z6 := Lib.hid (Z5.out.turn F6)
            have c2a := (F6.keepT Z5.out.no yc.out.1).1; have c3a := (F6.keepT Z5.out.no yc.out.2.1).1; have c4a := (F6.keepT Z5.out.no yc.out.2.2).1
            have u0 := K6.out.x0.1; have u1 := K6.out.x1.1
            clear HT6 F6 mt S Z5 y0 y1 y2 y3 y4 y5 yc
            go_wp2_with fail
            refine (mdg.out _ K6.out).mono ?_
            rintro e w7 ⟨A7, c7, rfl, R7, F7⟩
            have K8 := Lib.hid (K6.out.below F7)
            have S9 := Lib.hid ((K8.out.lay (c' := c7) R7 hnl.out).below (blA (Below.refl _ _) (.cells #[.slice A7 Rm c7, .int .i64 most] 65)))
            have Z9 := Lib.hid (((Z6.out.below F7).lay (.slice A7 Rm c7) (.int .i64 most)).below (blA (Below.refl _ _) (.cells #[.slice A7 Rm c7, .int .i64 most] 65)))
            have v0a := K8.out.x0.1; have v0b := K8.out.x0.2; have v1a := K8.out.x1.1; have v1b := K8.out.x1.2
            have hYX : ¬ (X = w7.heap.size) := by have := (K6.out.below F7).xl; omega
            have hXl : X < w7.heap.size := (K6.out.below F7).xl
            clear R7 F7 K8 c2a c3a c4a u0 u1 mdg K6 Z6
            rcases her with rfl | rfl
            · go_wp2_with (first | (at_builtin; refine append_rowE (E := uE) (base := X + 1) (ys := [(hv : Int)]) rfl rfl Tryd.underlying28 rfl (S9.out.V.alloc _) rfl (rowAt_new1 (E := uE) _ #[.int .u64 hv] 23 (hv : Int) (by first | rfl | (simp; done)) rfl) rfl (by rw [List.length_map]; omega) (by simp) (by have := S9.out.xl; simp at this ⊢; omega) ?_) | fail)
              intro v9 w9 O9 g1 G9 g2
              have FA9 := blA (Below.refl _ (((w7.setCell ⟨X, 0, none⟩ (.slice A7 Rm c7)).setCell ⟨X, 1, none⟩ (.int .i64 most)).alloc (.cells #[.slice A7 Rm c7, .int .i64 most] 65))) (.cells #[.int .u64 (hv : Int)] 23)
              have S10 := Lib.hid ((S9.out.below FA9).app (made' := made ++ [hv]) (by rw [List.map_append]; exact O9) G9 (by first | exact g2 | simpa using g2) (fun h hh => by
                rcases List.mem_append.1 hh with hh | hh
                · exact S9.out.b64 h hh
                · obtain rfl : h = hv := by simpa using hh
                  exact hvb))
              have Z10 := Lib.hid ((Z9.out.below FA9).app G9 (by first | exact g2 | simpa using g2))
              clear O9 g1 G9 g2 FA9 S9 Z9
              go_wp2_with fail
              go_meet
              exact ⟨_, _, _, _, _, hv, rfl, rfl, Lib.hid hvb, S10, Z10, Lib.hid (by rw [List.length_append]; simp; omega)⟩
            · go_wp2_with fail
              go_meet
              exact ⟨_, _, _, _, _, hv, rfl, rfl, Lib.hid hvb, S9, Z9, Lib.hid (by omega)⟩
          have t0 : (zk == 0) = false := beq_eq_false_iff_ne.mpr q0
          clear q0
          by_cases q1 : zk = 1
          · subst q1
            by_cases hpos : 0 < ml
            · obtain ⟨K, eK, hK⟩ := mask_nat 8 255 (by decide) (by decide) zn
              have d3 : decide ((0 : Int) < (ml : Int)) = true := decide_eq_true (by omega)
              have d4 : decide (0 < ml) = true := decide_eq_true hpos
              have hqm : K % ml < ml := Nat.mod_lt _ hpos
              obtain ⟨q, hq⟩ : ∃ q, q = K % ml := ⟨_, rfl⟩
              have eT : Int.tmod (K : Int) (ml : Int) = (q : Int) := by rw [Int.tmod_eq_emod_of_nonneg (by omega), hq]; rfl
              have eZ : ((ml : Int) == 0) = false := by simp; omega
              have eN : ¬ (ml : Int) = 0 := by omega
              rw [← hq] at hqm
              replace hq := Lib.hid hq
              have hqm2 : q < made.length := by rw [← hml2.out]; exact hqm
              obtain ⟨bq, oq, rfl, -, hc⟩ := S.out.V.row.1 q (by rw [List.length_map]; exact hqm2)
              have z0 := hc 0 _ rfl
              rw [List.getElem_map] at z0
              simp only [show uE.sz = 1 from rfl, Nat.mul_one, Nat.add_zero] at z0
              have hmem := List.getElem_mem hqm2
              obtain ⟨h, hh⟩ : ∃ h, h = made[q] := ⟨_, rfl⟩
              rw [← hh] at z0 hmem
              have hb := S.out.b64 h hmem
              replace hmem := Lib.hid hmem; replace hh := Lib.hid hh
              clear hc
              obtain ⟨ra, hra⟩ : ∃ z, z = revA (findP P h) := ⟨_, rfl⟩
              have era : (ra == ra) = true := by simp
              have era2 : (ra != ra) = false := by simp
              have rd := revoke_d (c := c) S.out.R S.out.newE S.out.S.S.pc S.out.S.S.most.2 (by rw [S.out.S.S.len]; exact S.out.S.S.n) h hb
              rw [← S.out.n, ← hra] at rd
              replace rd := Lib.hid rd
              replace hra := Lib.hid hra
              have hnl := Lib.hid (show Rm = (revP P (findP P h)).length by
                rw [S.out.n]
                cases findP P h with
                | none => rfl
                | some s => exact List.length_set.symm)
              have hml9 := Lib.hid (show made.length ≤ i + 1 by have := hml.out; omega)
              have u0 := S.out.x0.1; have u1 := S.out.x1.1
              go_wp2_with fail
              refine rd.out.mono ?_
              rintro e w6 ⟨A6, c6, rfl, R6, F6⟩
              have S6 := Lib.hid (S.out.below F6)
              have Z7 := Lib.hid (((Z5.out.below F6).lay (.slice A6 Rm c6) (.int .i64 most)).below (blA (Below.refl _ _) (.cells #[.slice A6 Rm c6, .int .i64 most] 65)))
              have D7 := Lib.hid ((S6.out.doc (c' := c6) R6 hnl.out).below (blA (Below.refl _ _) (.cells #[.slice A6 Rm c6, .int .i64 most] 65)))
              have g0 := Lib.hid (Cel.new w6 #[.slice A6 Rm c6, .int .i64 most] 65 0 _ rfl)
              have v0a := S6.out.x0.1; have v0b := S6.out.x0.2; have v1a := S6.out.x1.1; have v1b := S6.out.x1.2
              have hYX : ¬ (X = w6.heap.size) := by have := (S.out.below F6).xl; omega
              have hXl : X < w6.heap.size := (S.out.below F6).xl
              clear u0 u1 rd R6 F6 S6 y0 y1 y2 y3 y4 y5
              go_wp2_with fail
              generalize ((w6.setCell ⟨X, 0, none⟩ (.slice A6 Rm c6)).setCell ⟨X, 1, none⟩ (.int .i64 most)).alloc (.cells #[.slice A6 Rm c6, .int .i64 most] 65) = w8 at *
              clear v0a v0b v1a v1b hYX hXl g0
              have rv := D7.out.S.revoke hb
              rw [← hra.out] at rv
              replace rv := Lib.hid rv
              refine rv.out.mono ?_
              rintro e w9 ⟨rfl, HT, F⟩
              have S9 := Lib.hid (D7.out.turn HT F)
              have Z9 := Lib.hid (Z7.out.turn F)
              clear HT F rv D7 Z7 S Z5
              go_wp2_with fail
              go_meet
              exact ⟨_, _, _, _, _, h, rfl, rfl, Lib.hid hb, S9, Z9, hml9⟩
            · have d3 : decide ((0 : Int) < (ml : Int)) = false := decide_eq_false (by omega)
              have d4 : decide (0 < ml) = false := decide_eq_false hpos
              obtain ⟨ra, hra⟩ : ∃ z, z = revA (findP P Hh) := ⟨_, rfl⟩
              have era : (ra == ra) = true := by simp
              have era2 : (ra != ra) = false := by simp
              have rd := revoke_d (c := c) S.out.R S.out.newE S.out.S.S.pc S.out.S.S.most.2 (by rw [S.out.S.S.len]; exact S.out.S.S.n) Hh hHh
              rw [← S.out.n, ← hra] at rd
              replace rd := Lib.hid rd
              replace hra := Lib.hid hra
              have hnl := Lib.hid (show Rm = (revP P (findP P Hh)).length by
                rw [S.out.n]
                cases findP P Hh with
                | none => rfl
                | some s => exact List.length_set.symm)
              have hml9 := Lib.hid (show made.length ≤ i + 1 by have := hml.out; omega)
              have u0 := S.out.x0.1; have u1 := S.out.x1.1
              go_wp2_with fail
              refine rd.out.mono ?_
              rintro e w6 ⟨A6, c6, rfl, R6, F6⟩
              have S6 := Lib.hid (S.out.below F6)
              have Z7 := Lib.hid (((Z5.out.below F6).lay (.slice A6 Rm c6) (.int .i64 most)).below (blA (Below.refl _ _) (.cells #[.slice A6 Rm c6, .int .i64 most] 65)))
              have D7 := Lib.hid ((S6.out.doc (c' := c6) R6 hnl.out).below (blA (Below.refl _ _) (.cells #[.slice A6 Rm c6, .int .i64 most] 65)))
              have g0 := Lib.hid (Cel.new w6 #[.slice A6 Rm c6, .int .i64 most] 65 0 _ rfl)
              have v0a := S6.out.x0.1; have v0b := S6.out.x0.2; have v1a := S6.out.x1.1; have v1b := S6.out.x1.2
              have hYX : ¬ (X = w6.heap.size) := by have := (S.out.below F6).xl; omega
              have hXl : X < w6.heap.size := (S.out.below F6).xl
              clear u0 u1 rd R6 F6 S6 y0 y1 y2 y3 y4 y5
              go_wp2_with fail
              generalize ((w6.setCell ⟨X, 0, none⟩ (.slice A6 Rm c6)).setCell ⟨X, 1, none⟩ (.int .i64 most)).alloc (.cells #[.slice A6 Rm c6, .int .i64 most] 65) = w8 at *
              clear v0a v0b v1a v1b hYX hXl g0
              have rv := D7.out.S.revoke hHh
              rw [← hra.out] at rv
              replace rv := Lib.hid rv
              refine rv.out.mono ?_
              rintro e w9 ⟨rfl, HT, F⟩
              have S9 := Lib.hid (D7.out.turn HT F)
              have Z9 := Lib.hid (Z7.out.turn F)
              clear HT F rv D7 Z7 S Z5
              go_wp2_with fail
              go_meet
              exact ⟨_, _, _, _, _, Hh, rfl, rfl, Lib.hid hHh, S9, Z9, hml9⟩
          have t1 : (zk == 1) = false := beq_eq_false_iff_ne.mpr q1
          clear q1
          by_cases q2 : zk = 2
          · subst q2
            obtain ⟨ra, hra⟩ : ∃ z, z = revA (findP P Hh) := ⟨_, rfl⟩
            have era : (ra == ra) = true := by simp
            have era2 : (ra != ra) = false := by simp
            have rd := revoke_d (c := c) S.out.R S.out.newE S.out.S.S.pc S.out.S.S.most.2 (by rw [S.out.S.S.len]; exact S.out.S.S.n) Hh hHh
            rw [← S.out.n, ← hra] at rd
            replace rd := Lib.hid rd
            replace hra := Lib.hid hra
            have hnl := Lib.hid (show Rm = (revP P (findP P Hh)).length by
              rw [S.out.n]
              cases findP P Hh with
              | none => rfl
              | some s => exact List.length_set.symm)
            have hml9 := Lib.hid (show made.length ≤ i + 1 by have := hml.out; omega)
            have u0 := S.out.x0.1; have u1 := S.out.x1.1
            go_wp2_with fail
            refine rd.out.mono ?_
            rintro e w6 ⟨A6, c6, rfl, R6, F6⟩
            have S6 := Lib.hid (S.out.below F6)
            have Z7 := Lib.hid (((Z5.out.below F6).lay (.slice A6 Rm c6) (.int .i64 most)).below (blA (Below.refl _ _) (.cells #[.slice A6 Rm c6, .int .i64 most] 65)))
            have D7 := Lib.hid ((S6.out.doc (c' := c6) R6 hnl.out).below (blA (Below.refl _ _) (.cells #[.slice A6 Rm c6, .int .i64 most] 65)))
            have g0 := Lib.hid (Cel.new w6 #[.slice A6 Rm c6, .int .i64 most] 65 0 _ rfl)
            have v0a := S6.out.x0.1; have v0b := S6.out.x0.2; have v1a := S6.out.x1.1; have v1b := S6.out.x1.2
            have hYX : ¬ (X = w6.heap.size) := by have := (S.out.below F6).xl; omega
            have hXl : X < w6.heap.size := (S.out.below F6).xl
            clear u0 u1 rd R6 F6 S6 y0 y1 y2 y3 y4 y5
            go_wp2_with fail
            generalize ((w6.setCell ⟨X, 0, none⟩ (.slice A6 Rm c6)).setCell ⟨X, 1, none⟩ (.int .i64 most)).alloc (.cells #[.slice A6 Rm c6, .int .i64 most] 65) = w8 at *
            clear v0a v0b v1a v1b hYX hXl g0
            have rv := D7.out.S.revoke hHh
            rw [← hra.out] at rv
            replace rv := Lib.hid rv
            refine rv.out.mono ?_
            rintro e w9 ⟨rfl, HT, F⟩
            have S9 := Lib.hid (D7.out.turn HT F)
            have Z9 := Lib.hid (Z7.out.turn F)
            clear HT F rv D7 Z7 S Z5
            go_wp2_with fail
            go_meet
            exact ⟨_, _, _, _, _, Hh, rfl, rfl, Lib.hid hHh, S9, Z9, hml9⟩
          have t2 : (zk == 2) = false := beq_eq_false_iff_ne.mpr q2
          clear q2
          have hml9 := Lib.hid (show made.length ≤ i + 1 by have := hml.out; omega)
          go_wp2_with fail
          go_meet
          exact ⟨_, _, _, _, _, Hh, rfl, rfl, Lib.hid hHh, S, Z5, hml9⟩
        case rest =>
          obtain ⟨P2, c9, A9, v9, made9, hN, e1, e2, hNb, S9, Z9, hl9⟩ := hcut
          subst e1
          subst e2
          clear S Z5 hml y0 y1 y2 y3 y4 y5 yc
          have u0 := S9.out.x0.1; have u1 := S9.out.x1.1
          have z2 := Z9.out.c2.1
          have sm := Lib.hid (same_t S9.out.sas zck a5 hNb.out)
          go_wp2_with fail
          refine sm.out.mono ?_
          rintro e w6 ⟨rfl, F6⟩
          have S10 := Lib.hid (S9.out.below F6)
          have sm2 := Lib.hid (same_t S10.out.sas a4 a5 hO)
          clear u0 u1 z2 sm F6 S9 Z9
          have u0 := S10.out.x0.1; have u1 := S10.out.x1.1
          go_wp2_with fail
          refine sm2.out.mono ?_
          rintro e w7 ⟨rfl, F7⟩
          have S11 := Lib.hid (S10.out.below F7)
          clear u0 u1 sm2 F7 S10
          go_wp2
          go_roundw
          case rel => exact ⟨i + 1, P2, c9, A9, _, made9, by go_num, rfl, hlH, S11, hl9⟩
          case measure => have := hlH.out; simp [intOf]; omega
      · obtain rfl : NA = i := by have := hi.out; omega
        have B := Lib.hid (B1.out.trans (S.out.S.B.mono B1.out.size))
        clear hi hlt hml S
        go_wp2
        go_ret
        exact ⟨rfl, B.out⟩
end Go.Proofs.YtaflekpfpdnbcaaDoor
