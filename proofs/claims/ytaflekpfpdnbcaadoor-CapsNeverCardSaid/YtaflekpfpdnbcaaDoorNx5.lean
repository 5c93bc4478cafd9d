/- CapsNever: the law, walked: of every row of steps the answer is true. Condition: the rows that come in lie in memory as the row says. -/
import Derived.Test.YtaflekpfpdnbcaaDoorNz5
import Derived.Deep.DeepCutAuto
import Derived.Deep.CutBlock
namespace Go.Proofs.YtaflekpfpdnbcaaDoor
open Go.RowKit Go.Maps
set_option linter.unusedVariables false
set_option linter.unusedSimpArgs false
set_option linter.unusedSectionVars false
set_option maxRecDepth 100000

set_option maxHeartbeats 16000000 in
theorem never5_walk (a0 a1 : Int) (A2 : Option Addr) (c2 : Nat) (xs : List Op5) (a3 : Int) (hw3 : (Lit.int .u64 a3).wf = true) (w : World) (hT : Tab w)
    (hr2 : RowAt Op5.cells 6 w A2 xs) (hg2 : ∀ x ∈ xs, x.good) :
    Calls Tryd.prog 3 #[.int .i64 a0, .int .i64 a1, .slice A2 xs.length c2, .int .u64 a3] w fun e w' => e = .returned (.bool true) ∧ Below w.heap.size w w' := by
  have al := Lib.hid (alive05_c w hT)
  have HT := Lib.hid hT
  have R2 := Lib.hid hr2; have G2 := Lib.hid hg2
  have hw := wf_u64 hw3
  obtain ⟨O, rfl⟩ := Int.eq_ofNat_of_zero_le hw.1
  have hO : O < 18446744073709551616 := by omega
  obtain ⟨NA, hA⟩ : ∃ n, n = xs.length := ⟨_, rfl⟩
  rw [← hA]
  replace hA := Lib.hid hA
  clear hT hr2 hg2 hw3 hw
  by_cases hbig : 40 < NA
  · have d1 : decide ((40 : Int) < (NA : Int)) = true := decide_eq_true (by omega)
    have d2 : decide (40 < NA) = true := decide_eq_true hbig
    go_enter Tryd.func3, Tryd.ntmps3
    go_wp2_with fail
    refine al.out.mono ?_
    rintro e w1 ⟨rfl, F⟩
    replace F := Lib.hid F
    go_wp2
    go_ret
    exact ⟨rfl, F.out⟩
  have d1 : decide ((40 : Int) < (NA : Int)) = false := decide_eq_false (by omega)
  have d2 : decide (40 < NA) = false := decide_eq_false hbig
  have hA40 : NA ≤ 40 := by omega
  clear hbig
  go_enter Tryd.func3, Tryd.ntmps3
  go_wp2_with fail
  refine al.out.mono ?_
  rintro e w1 ⟨rfl, F⟩
  have B1 := Lib.hid F
  clear F
  have ea := Lib.hid (show ∃ R : Nat, bits .and .i64 a0 15 = (R : Int) ∧ R < 16 from mask_nat 4 15 (by decide) (by decide) a0)
  have eb := Lib.hid (show ∃ R : Nat, bits .and .i64 0 15 = (R : Int) ∧ R < 16 from ⟨0, zero_and 15, by decide⟩)
  go_wp2_with fail
  all_goals
    first
      | (obtain ⟨Rm, e, hR⟩ := ea.out; rw [e])
      | (obtain ⟨Rm, e, hR⟩ := eb.out; rw [e])
    clear ea eb
    have tb := Lib.hid (table_c (HT.out.below B1.out) (Rm : Int) a1)
    rw [show capR (Rm : Int) = Rm by unfold capR; omega] at tb
    refine tb.out.mono ?_
    rintro e w2 ⟨T, rfl, H⟩
    have hno := fun k hk => And.intro (H.S.no (k := k) hk) (show k ≠ T.r by have := H.S.R.lt; omega)
    have M0 := IsC.made (K := kU) w2
    have H1 := H.alloc (.map #[] 0)
    have st := NvI.start Rm (mostP a1) (by omega) (mostP_le a1).2
    have S0 := Lib.hid (show NvS w1 ((w2.alloc (.map #[] 0)).alloc (.cells #[] 23)) T (List.replicate Rm Pc.new) (mostP a1) w2.heap.size 0 [] (.slice (some ⟨w2.heap.size + 1, 0, none⟩) 0 0) [] (fun _ => 0) from
      ⟨H1.alloc _, M0.block (Below.heap_alloc _ _ _ M0.lt), by
        have := OwnE.lit (E := uE) (w2.alloc (.map #[] 0)) (w2.heap.size + 1) (by simp) [] #[] rfl (Nat.zero_le _)
        rw [show (w2.alloc (.map #[] 0)).heap.size = w2.heap.size + 1 by simp] at this
        exact this, st, hno, H.B.size⟩)
    have hmm := @run_makeMap Tryd.prog
    clear H H1 M0 st hno tb
    go_wp2_with fail
    generalize hmb : w2.heap.size = mb at *
    replace hmb := Lib.hid hmb
    generalize ((w2.alloc (.map #[] 0)).alloc (.cells #[] 23)) = w3 at *
    generalize hmo : mostP a1 = most at *
    replace hmo := Lib.hid hmo
    go_loopw [11, 41] (fun vv ii wr => ∃ (i : Nat) (P : List Pc) (n : Nat) (ks : List Int) (v : Value) (made : List Nat) (f : Int → Int), ii = .int .i64 i ∧ vv = v ∧ Hid (i ≤ NA) ∧ Hid (NvS w1 wr T P most mb n ks v made f) ∧ Hid (made.length ≤ i) ∧ Hid (n ≤ i) ∧ Hid (P.length = Rm)) (fun _ ii _ => NA - (intOf ii).toNat)
    case atStart => exact ⟨0, _, _, _, _, _, _, rfl, rfl, Lib.hid (Nat.zero_le _), S0, Lib.hid (Nat.zero_le _), Lib.hid (Nat.zero_le _), Lib.hid (by simp)⟩
    case round =>
      clear S0
      obtain ⟨i, P, n, ks, v, made, f, rfl, rfl, hi, S, hml, hni, hPl⟩ := hrel
      by_cases hlt : i < NA
      · have hlx : i < xs.length := by rw [← hA.out]; exact hlt
        obtain ⟨A', k', rfl, -⟩ := S.out.V.slice
        rw [List.length_map] at S ⊢
        obtain ⟨ml, hml2⟩ : ∃ m, m = made.length := ⟨_, rfl⟩
        rw [← hml2] at S ⊢
        replace hml2 := Lib.hid hml2
        obtain ⟨bb, off, rfl, hbl, c0, c1, c2', c3', c4', c5⟩ := R2.out.op5 hlx
        have hgz := G2.out _ (List.getElem_mem hlx)
        generalize xs[i] = z at *
        obtain ⟨zk, zn, zck, zci, zcr, zh⟩ := z
        have hwz := wf_u64 hgz.2.2.2.2.2
        dsimp only at hwz c0 c1 c2' c3' c4' c5
        obtain ⟨Hh, rfl⟩ := Int.eq_ofNat_of_zero_le hwz.1
        have hHh : Hh < 18446744073709551616 := by omega
        have Bw := B1.out.trans (S.out.S.B.mono B1.out.size)
        replace c0 := (Bw.cell (p := ⟨bb, off + i * 6, none⟩) hbl).trans c0
        replace c1 := (Bw.cell (p := ⟨bb, off + i * 6 + 1, none⟩) hbl).trans c1
        replace c2' := (Bw.cell (p := ⟨bb, off + i * 6 + 2, none⟩) hbl).trans c2'
        replace c3' := (Bw.cell (p := ⟨bb, off + i * 6 + 3, none⟩) hbl).trans c3'
        replace c4' := (Bw.cell (p := ⟨bb, off + i * 6 + 4, none⟩) hbl).trans c4'
        replace c5 := (Bw.cell (p := ⟨bb, off + i * 6 + 5, none⟩) hbl).trans c5
        have hlH := Lib.hid hlt
        have hi40 : i < 41 := by omega
        have hnl : Hid (mb < wr.heap.size) := Lib.hid S.out.M.lt
        have FA := blA (Below.refl wr.heap.size wr) (.cells #[.int .i64 zk, .int .i64 zn, .int .i64 zck, .int .i64 zci, .int .i64 zcr, .int .u64 Hh] 32)
        have Z5 := Lib.hid (show OpN (wr.alloc (.cells #[.int .i64 zk, .int .i64 zn, .int .i64 zck, .int .i64 zci, .int .i64 zcr, .int .u64 Hh] 32)) T mb wr.heap.size (.slice A' ml k') (Hh : Int) from
          ⟨Cel.new wr #[.int .i64 zk, .int .i64 zn, .int .i64 zck, .int .i64 zci, .int .i64 zcr, .int .u64 Hh] 32 5 _ rfl, (S.out.no _ (Nat.le_of_lt hnl.out)).1, fun e => by have := hnl.out; omega, fun e => by have := (S.out.V.lt _ e).2; omega⟩)
        have y0 := (Cel.new wr #[.int .i64 zk, .int .i64 zn, .int .i64 zck, .int .i64 zci, .int .i64 zcr, .int .u64 Hh] 32 0 _ rfl).1
        have y1 := (Cel.new wr #[.int .i64 zk, .int .i64 zn, .int .i64 zck, .int .i64 zci, .int .i64 zcr, .int .u64 Hh] 32 1 _ rfl).1
        have y2 := (Cel.new wr #[.int .i64 zk, .int .i64 zn, .int .i64 zck, .int .i64 zci, .int .i64 zcr, .int .u64 Hh] 32 2 _ rfl).1
        have y3 := (Cel.new wr #[.int .i64 zk, .int .i64 zn, .int .i64 zck, .int .i64 zci, .int .i64 zcr, .int .u64 Hh] 32 3 _ rfl).1
        have y4 := (Cel.new wr #[.int .i64 zk, .int .i64 zn, .int .i64 zck, .int .i64 zci, .int .i64 zcr, .int .u64 Hh] 32 4 _ rfl).1
        replace S := Lib.hid (S.out.below FA)
        clear FA hwz hgz hbl Bw hnl
        go_upto_block 2 with fail
        go_cut [11] (fun ww wx => ∃ (P : List Pc) (n : Nat) (ks : List Int) (v : Value) (made : List Nat) (f : Int → Int), ww = v ∧ Hid (NvS w1 wx T P most mb n ks v made f) ∧ Hid (OpN wx T mb wr.heap.size v (Hh : Int)) ∧ Hid (made.length ≤ i + 1) ∧ Hid (n ≤ i + 1) ∧ Hid (P.length = Rm))
        case first =>
          generalize wr.alloc (.cells #[.int .i64 zk, .int .i64 zn, .int .i64 zck, .int .i64 zci, .int .i64 zcr, .int .u64 Hh] 32) = wz at *
          generalize wr.heap.size = Z at *
          by_cases q0 : zk = 0
          · subst q0
            go_wp2_with fail
            refine (S.out.S.mint zck zci zcr).mono ?_
            rintro e w6 ⟨rfl, HT6, F6⟩
            have Z6 := Lib.hid (Z5.out.turn F6)
            have N6 := S.out.t.turn HT6 F6
            cases hnx : nextB (xP most P) false 0 with
            | none =>
              rw [hnx] at N6
              have N7 := Lib.hid (N6.close rfl S.out.I)
              clear HT6 F6 N6 S hnx
              unfold mintA
              go_wp2_with fail
              go_meet
              exact ⟨_, _, _, _, _, _, rfl, N7, Z6, Lib.hid (by have := hml.out; omega), Lib.hid (by have := hni.out; omega), hPl⟩
            | some j =>
              rw [hnx] at N6
              obtain ⟨hj, -, hjx, -⟩ := nextB_of hnx
              have hjP : j < P.length := by simpa using hj
              have hf : P[j].full most = false := by rw [← xP_at (most := most) hjP]; exact hjx
              have hgd : P.getD j Pc.new = P[j] := by simp [hjP]
              obtain ⟨r, hr⟩ : ∃ r, r = (zcr % 256).toNat := ⟨_, rfl⟩
              obtain ⟨hn, ehn⟩ : ∃ hn, hn = (P[j].gen + 1) * 16777216 + j * 256 + r := ⟨_, rfl⟩
              obtain ⟨hf0, hnb, I6⟩ := S.out.I.mint hjP hf zck zci (r := r) (by omega) ehn
              unfold mintA
              simp only []
              rw [hgd, ← hr, ← ehn]
              unfold mintP at N6
              simp only [hgd, ← hr] at N6
              replace N6 := Lib.hid N6; replace I6 := Lib.hid I6; replace hnb := Lib.hid hnb
              have hmlH := Lib.hid (show (made ++ [hn]).length ≤ i + 1 by have := hml.out; rw [List.length_append, List.length_singleton]; omega)
              have hPl2 := Lib.hid (show (P.set j (minted P[j] zck zci r)).length = Rm by rw [List.length_set]; exact hPl.out)
              have hmm : made.length ≤ 41 := by have := hml.out; omega
              clear HT6 F6 hnx hj hjx hf hgd ehn hr S
              go_wp2_with (first | (at_lookup; refine look_c (K := kU) (k := (hn : Int)) rfl rfl Tryd.underlying27 rfl N6.out.M rfl (keyU hnb.out) ?_) | (at_mapUpdate; refine upd_c (K := kU) (k := (hn : Int)) (y := 1) rfl rfl Tryd.underlying27 rfl N6.out.M (by have := hni.out; omega) rfl (keyU hnb.out) rfl (by decide) ?_))
              intro w7 M7 G7
              have N7 := Lib.hid (N6.out.upd M7 G7)
              have Z7 := Lib.hid (Z6.out.upd G7)
              have ea := blA (Below.refl w7.heap.size w7) (.cells #[.int .u64 hn] 23)
              have N8 := Lib.hid (N7.out.below ea)
              have Z8 := Lib.hid (Z7.out.below ea)
              have rn := Lib.hid (rowAt_new1 (E := uE) w7 #[.int .u64 hn] 23 (hn : Int) rfl rfl)
              clear M7 G7 ea N6 Z6
              go_wp2_with (at_builtin; refine append_rowE (E := uE) (base := mb + 1) (ys := [(hn : Int)]) rfl rfl Tryd.underlying28 rfl N8.out.V rfl rn.out rfl (by rw [List.length_map]; omega) (by simp) (by have := N7.out.M.lt; simp; omega) ?_; intro v9 w9 O9 g1 G9 g2)
              have N9 := Lib.hid ((N8.out.app O9 G9).close (made := made ++ [hn]) (by rw [List.map_append]; rfl) I6.out)
              have Z9 := Lib.hid (Z8.out.app G9 g2)
              obtain ⟨A9, k9, rfl, -⟩ := O9.slice
              have hn9 := Lib.hid (show n + 1 ≤ i + 1 by have := hni.out; omega)
              clear O9 g1 G9 g2 N7 Z7 N8 Z8 rn I6
              go_wp2_with fail
              go_meet
              exact ⟨_, _, _, _, _, _, rfl, N9, Z9, hmlH, hn9, hPl2⟩
          have t0 : (zk == 0) = false := beq_eq_false_iff_ne.mpr q0
          clear q0
          have hml3 := Lib.hid (show made.length ≤ i + 1 by have := hml.out; omega)
          have hni3 := Lib.hid (show n ≤ i + 1 by have := hni.out; omega)
          by_cases q1 : zk = 1
          · subst q1
            by_cases hpos : 0 < ml
            · obtain ⟨K, eK, hK⟩ := mask_nat 8 255 (by decide) (by decide) zn
              have d3 : decide ((0 : Int) < (ml : Int)) = true := decide_eq_true (by omega)
              have d4 : decide (0 < ml) = true := decide_eq_true hpos
              have hqm : K % ml < ml := Nat.mod_lt _ hpos
              obtain ⟨q, hq⟩ : ∃ q, q = K % ml := ⟨_, rfl⟩
              have eT : Int.tmod (K : Int) (ml : Int) = (q : Int) := by rw [Int.tmod_eq_emod_of_nonneg (by omega), hq]; rfl
              have eZ : ((ml : Int) == 0) = false := by simp; omega
              have eN : ¬ (ml : Int) = 0 := by omega
              rw [← hq] at hqm
              replace hq := Lib.hid hq
              have hqm2 : q < made.length := by rw [← hml2.out]; exact hqm
              obtain ⟨bq, oq, rfl, -, hc⟩ := S.out.V.row.1 q (by rw [List.length_map]; exact hqm2)
              have z0 := hc 0 _ rfl
              rw [List.getElem_map] at z0
              simp only [show uE.sz = 1 from rfl, Nat.mul_one, Nat.add_zero] at z0
              have hmem := List.getElem_mem hqm2
              obtain ⟨h, hh⟩ : ∃ h, h = made[q] := ⟨_, rfl⟩
              rw [← hh] at z0 hmem
              have hb := S.out.I.b64 h hmem
              have i3 := S.out.I.i3 h
              have I6 := Lib.hid (S.out.I.revoke hmem)
              have lr := fun w' (k : IsC kU w' mb n f ks) => lookc_run (kv := .int .u64 (h : Int)) k Tryd.underlying27 (keyU hb)
              obtain ⟨fv, hfv⟩ : ∃ z, z = f (h : Int) := ⟨_, rfl⟩
              rw [← hfv] at lr i3
              have way : (∃ ra, revA (findP P h) = ra ∧ (ra == 0) = (fv == 1)) := ⟨_, rfl, by
                cases hf : findP P h with
                | none => rw [hf] at i3; have : ¬ fv = 1 := fun e => by have := i3.1 e; cases this
                          simp [revA, this]
                | some s => rw [hf] at i3; have : fv = 1 := i3.2 rfl
                            simp [revA, this]⟩
              obtain ⟨ra, era, ebq⟩ := way
              obtain ⟨tt, htt⟩ : ∃ b, b = (fv == 1) := ⟨_, rfl⟩
              rw [← htt] at ebq
              have hPl2 := Lib.hid (show (revP P (findP P h)).length = Rm by
                rw [← hPl.out]
                cases findP P h with
                | none => rfl
                | some s => exact List.length_set)
              replace lr := Lib.hid lr; replace hmem := Lib.hid hmem; replace hh := Lib.hid hh; replace hfv := Lib.hid hfv; replace era := Lib.hid era
              have ett : (fv == 1) = tt := htt.symm
              have exx : (tt != tt) = false := by simp
              replace htt := Lib.hid htt
              clear hc i3
              go_wp2_with fail
              refine seq_start [(0, true), (1, true), (4, true), (5, true), (6, true), (7, true), (2, false), (3, true), (8, true)] (fun w' => IsC kU w' mb n f ks) (by kernel_rfl) (by kernel_rfl) rfl (by kernel_rfl) S.out.drew.M ?_
              iterate 6 (refine seq_read rfl (by first | rfl | (go_simp; done)) (fun w' hw => by have lq := lr.out w' hw; go_simp; with_reducible rfl) ?_; try simp only [Act.put, List.setIfInBounds_toArray, List.set_cons_zero, List.set_cons_succ])
              replace S := Lib.hid S.out.drew
              replace Z5 := Lib.hid (Z5.out.below (w' := wz.drew) ⟨rfl, rfl, rfl, Nat.le_refl _, fun _ _ => rfl⟩)
              clear y0 y1 y2 y3 y4 z0
              generalize wz.drew = w5 at *
              refine seq_call rfl (fun K hK => ?_)
              go_simp
              refine (S.out.S.revoke hb).mono ?_
              rintro e w6 ⟨rfl, HT6, F6⟩
              have N6 := Lib.hid (S.out.t.turn HT6 F6)
              have Z6 := Lib.hid (Z5.out.turn F6)
              rw [era.out]
              refine hK.out _ _ N6.out.M ?_
              clear hK K HT6 F6 S Z5
              try simp only [Act.put, List.setIfInBounds_toArray, List.set_cons_zero, List.set_cons_succ]
              iterate 2 (refine seq_read rfl (by first | rfl | (go_simp; done)) (fun w' hw => by have lq := lr.out w' hw; go_simp; with_reducible rfl) ?_; try simp only [Act.put, List.setIfInBounds_toArray, List.set_cons_zero, List.set_cons_succ])
              refine seq_done ?_
              replace hb := Lib.hid hb
              go_wp2_with (at_mapUpdate; refine upd_c (K := kU) (k := (h : Int)) (y := 2) rfl rfl Tryd.underlying27 rfl N6.out.M (by have := hni.out; omega) rfl (keyU hb.out) rfl (by decide) ?_)
              intro w7 M7 G7
              have N7 := Lib.hid ((N6.out.upd M7 G7).close rfl I6.out)
              have Z7 := Lib.hid (Z6.out.upd G7)
              have hn9 := Lib.hid (show n + 1 ≤ i + 1 by have := hni.out; omega)
              clear M7 G7 N6 Z6 I6
              go_wp2_with fail
              go_meet
              exact ⟨_, _, _, _, _, _, rfl, N7, Z7, hml3, hn9, hPl2⟩
            · have d3 : decide ((0 : Int) < (ml : Int)) = false := decide_eq_false (by omega)
              have d4 : decide (0 < ml) = false := decide_eq_false hpos
              go_wp2_with fail
              go_meet
              exact ⟨_, _, _, _, _, _, rfl, S, Z5, hml3, hni3, hPl⟩
          have t1 : (zk == 1) = false := beq_eq_false_iff_ne.mpr q1
          clear q1
          go_wp2_with fail
          go_meet
          exact ⟨_, _, _, _, _, _, rfl, S, Z5, hml3, hni3, hPl⟩
        case rest =>
          obtain ⟨P2, n2, ks2, v2, made2, f2, e2, S2, Z2, hl2, hn2, hP2⟩ := hcut
          obtain ⟨A2', k2', ev2, -⟩ := S2.out.V.slice
          rw [ev2] at e2 S2
          subst e2
          clear S Z5 hml hni hPl hml2 y0 y1 y2 y3 y4 ev2
          rw [List.length_map] at S2 ⊢
          obtain ⟨m2, hm2⟩ : ∃ m, m = made2.length := ⟨_, rfl⟩
          rw [← hm2] at S2 ⊢
          replace hm2 := Lib.hid hm2
          have zz5 := Z2.out.c5.1
          have hB := blA (Below.refl wc.heap.size wc) (.cells #[.int .u64 Hh, .int .u64 O] 23)
          have S3 := Lib.hid (S2.out.below hB)
          have noY := Lib.hid (S2.out.no wc.heap.size (Nat.le_of_lt S2.out.M.lt)).1
          have x0 := Lib.hid (Cel.new wc #[.int .u64 Hh, .int .u64 O] 23 0 _ rfl)
          have x1 := Lib.hid (Cel.new wc #[.int .u64 Hh, .int .u64 O] 23 1 _ rfl)
          clear S2 Z2 hB
          go_wp2_with fail
          generalize wc.alloc (.cells #[.int .u64 Hh, .int .u64 O] 23) = wq at *
          generalize wc.heap.size = Y at *
          clear zz5
          go_loopw [100] (fun jj wr2 => ∃ j : Nat, jj = .int .i64 j ∧ Hid (NvS w1 wr2 T P2 most mb n2 ks2 (.slice A2' m2 k2') made2 f2) ∧ Hid (Cel wr2 Y 0 (.int .u64 Hh) ∧ Cel wr2 Y 1 (.int .u64 O)) ∧ Hid (j ≤ 2)) (fun jj _ => 2 - (intOf jj).toNat)
          case atStart => exact ⟨0, rfl, S3, Lib.hid ⟨x0.out, x1.out⟩, Lib.hid (by omega)⟩
          case round =>
            clear S3
            obtain ⟨j, rfl, S, HF, hj⟩ := hrel
            by_cases hj2 : j < 2
            · have hy : ∃ h : Nat, h < 18446744073709551616 ∧ wr.cell? ⟨Y, j, none⟩ = some (.int .u64 (h : Int)) := by
                match j, hj2 with
                | 0, _ => exact ⟨_, hHh, HF.out.1.1⟩
                | 1, _ => exact ⟨_, hO, HF.out.2.1⟩
              obtain ⟨h, hb, hy⟩ := hy
              have i3 := S.out.I.i3 h
              have lk := S.out.S.look hb
              have lr := fun w' (k : IsC kU w' mb n2 f2 ks2) => lookc_run (kv := .int .u64 (h : Int)) k Tryd.underlying27 (keyU hb)
              replace lr := Lib.hid lr; replace lk := Lib.hid lk; replace i3 := Lib.hid i3; replace hb := Lib.hid hb
              obtain ⟨fv, hfv⟩ : ∃ z, z = f2 (h : Int) := ⟨_, rfl⟩
              cases hf : findP P2 h with
              | none =>
                have lk2 := lk.out
                rw [hf] at lk2
                replace lk2 := Lib.hid lk2
                have e1 : (fv == 1) = false := by
                  rw [hfv]
                  have := i3.out
                  rw [hf] at this
                  simpa using this
                replace hf := Lib.hid hf
                clear lk
                go_wp2_with fail
                refine lk2.out.mono ?_
                rintro e w6 ⟨rfl, HT6, F⟩
                have S6 := (S.out.t.turn HT6 F).close rfl S.out.I
                unfold lookA
                simp only []
                have FB := Lib.hid (And.intro (F.keepT noY.out HF.out.1) (F.keepT noY.out HF.out.2))
                have FA := blA (Below.refl w6.heap.size w6) (.cells #[.int .i64 0, .int .i64 0, .int .i64 0] 30)
                have S7 := Lib.hid (S6.below FA)
                have FA2 := FrB.of_below (S := fun _ => False) FA (Nat.le_refl _)
                have HF7 := Lib.hid (And.intro (FB.out.1.frb FA2 (fun h => h)) (FB.out.2.frb FA2 (fun h => h)))
                have hl7 := lr.out _ S7.out.M
                rw [← hfv] at hl7
                replace hfv := Lib.hid hfv
                clear lk2 HT6 F S6 S lr hy FB FA FA2 HF
                go_wp2
                go_roundw
                case rel => exact ⟨j + 1, by go_num, S7, HF7, Lib.hid (by omega)⟩
                case measure => simp [intOf]; omega
              | some s =>
                have lk2 := lk.out
                rw [hf] at lk2
                replace lk2 := Lib.hid lk2
                have e1 : (fv == 1) = true := by
                  rw [hfv]
                  have := i3.out
                  rw [hf] at this
                  simpa using this
                replace hf := Lib.hid hf
                clear lk
                go_wp2_with fail
                refine lk2.out.mono ?_
                rintro e w6 ⟨rfl, HT6, F⟩
                have S6 := (S.out.t.turn HT6 F).close rfl S.out.I
                unfold lookA
                simp only []
                generalize (P2.getD s Pc.new).kind = ck at *
                generalize (P2.getD s Pc.new).index = ci at *
                generalize (P2.getD s Pc.new).rights = cr at *
                have FB := Lib.hid (And.intro (F.keepT noY.out HF.out.1) (F.keepT noY.out HF.out.2))
                have FA := blA (Below.refl w6.heap.size w6) (.cells #[.int .i64 ck, .int .i64 ci, .int .i64 cr] 30)
                have S7 := Lib.hid (S6.below FA)
                have FA2 := FrB.of_below (S := fun _ => False) FA (Nat.le_refl _)
                have HF7 := Lib.hid (And.intro (FB.out.1.frb FA2 (fun h => h)) (FB.out.2.frb FA2 (fun h => h)))
                have hl7 := lr.out _ S7.out.M
                rw [← hfv] at hl7
                replace hfv := Lib.hid hfv
                clear lk2 HT6 F S6 S lr hy FB FA FA2 HF
                go_wp2
                go_roundw
                case rel => exact ⟨j + 1, by go_num, S7, HF7, Lib.hid (by omega)⟩
                case measure => simp [intOf]; omega
            · go_wp2
              go_roundw
              case rel => exact ⟨i + 1, P2, n2, ks2, _, made2, f2, by go_num, rfl, hlH, S, hl2, hn2, hP2⟩
              case measure => have := hlH.out; simp [intOf]; omega
      · obtain rfl : NA = i := by have := hi.out; omega
        have hm40 : made.length ≤ 40 := Nat.le_trans hml.out hA40
        clear hi hlt hml hni
        obtain ⟨A', k', rfl, -⟩ := S.out.V.slice
        rw [List.length_map] at S ⊢
        obtain ⟨m, hm⟩ : ∃ m, m = made.length := ⟨_, rfl⟩
        rw [← hm] at S hm40 ⊢
        replace hm := Lib.hid hm
        go_wp2_with fail
        go_loopw [21, 121] (fun ll qq wr => ∃ (q : Nat), qq = .int .i64 q ∧ ll = .int .i64 ((made.take q).countP (fun h => (findP P h).isSome) : Nat) ∧ Hid (q ≤ m) ∧ Hid (NvS w1 wr T P most mb n ks (.slice A' m k') made f)) (fun _ qq _ => m - (intOf qq).toNat)
        case atStart => exact ⟨0, rfl, rfl, Lib.hid (Nat.zero_le _), S⟩
        case round =>
          clear S
          obtain ⟨q, rfl, rfl, hq, S⟩ := hrel
          by_cases hqm : q < m
          · have hqm2 : q < made.length := by rw [← hm.out]; exact hqm
            obtain ⟨bq, oq, rfl, -, hc⟩ := S.out.V.row.1 q (by rw [List.length_map]; exact hqm2)
            have z0 := hc 0 _ rfl
            rw [List.getElem_map] at z0
            simp only [show uE.sz = 1 from rfl, Nat.mul_one, Nat.add_zero] at z0
            have hmem := List.getElem_mem hqm2
            have htk : (made.take (q + 1)).countP (fun h => (findP P h).isSome) = (made.take q).countP (fun h => (findP P h).isSome) + (if (findP P made[q]).isSome then 1 else 0) := by
              rw [List.take_succ_eq_append_getElem hqm2, List.countP_append, List.countP_cons, List.countP_nil, Nat.zero_add]
            obtain ⟨h, hh⟩ : ∃ h, h = made[q] := ⟨_, rfl⟩
            rw [← hh] at z0 hmem htk
            have hb := S.out.I.b64 h hmem
            have i3 := S.out.I.i3 h
            have lk := S.out.S.look hb
            have lr := fun w' (k : IsC kU w' mb n f ks) => lookc_run (kv := .int .u64 (h : Int)) k Tryd.underlying27 (keyU hb)
            replace htk := Lib.hid htk; replace hmem := Lib.hid hmem; replace lr := Lib.hid lr; replace lk := Lib.hid lk; replace i3 := Lib.hid i3; replace hh := Lib.hid hh; replace hb := Lib.hid hb
            clear hc
            have hq9 : q < 41 := by omega
            obtain ⟨fv, hfv⟩ : ∃ z, z = f (h : Int) := ⟨_, rfl⟩
            have hlH := Lib.hid hqm
            cases hf : findP P h with
            | none =>
              have lk2 := lk.out
              rw [hf] at lk2
              replace lk2 := Lib.hid lk2
              have e1 : (fv == 1) = false := by
                rw [hfv]
                have := i3.out
                rw [hf] at this
                simpa using this
              have htk2 := htk.out
              rw [hf] at htk2
              replace htk2 := Lib.hid (show (made.take (q + 1)).countP (fun h => (findP P h).isSome) = (made.take q).countP (fun h => (findP P h).isSome) by simpa using htk2)
              replace hf := Lib.hid hf
              clear lk
              go_wp2_with fail
              refine lk2.out.mono ?_
              rintro e w6 ⟨rfl, HT6, F⟩
              obtain ⟨k1, k2, k3⟩ := S.out.table HT6 F
              have S6 : NvS w1 w6 T P most mb n ks _ made f := ⟨k1, k2, k3, S.out.I, S.out.no, S.out.lo⟩
              have S7 := Lib.hid (S6.below (blA (Below.refl w6.heap.size w6) (.cells #[.int .i64 0, .int .i64 0, .int .i64 0] 30)))
              have hl7 := lr.out _ S7.out.M
              rw [← hfv] at hl7
              replace hfv := Lib.hid hfv
              unfold lookA
              clear lk2 HT6 F k1 k2 k3 S6 S lr z0
              go_wp2
              go_roundw
              case rel => exact ⟨q + 1, by go_num, by rw [htk2.out], hlH, S7⟩
              case measure => have := hlH.out; simp [intOf]; omega
            | some s =>
              have lk2 := lk.out
              rw [hf] at lk2
              replace lk2 := Lib.hid lk2
              have e1 : (fv == 1) = true := by
                rw [hfv]
                have := i3.out
                rw [hf] at this
                simpa using this
              have htk2 := htk.out
              rw [hf] at htk2
              replace htk2 := Lib.hid (show (made.take (q + 1)).countP (fun h => (findP P h).isSome) = (made.take q).countP (fun h => (findP P h).isSome) + 1 by simpa using htk2)
              have hcb : (made.take q).countP (fun h => (findP P h).isSome) ≤ 41 := Nat.le_trans List.countP_le_length (by rw [List.length_take]; omega)
              replace hf := Lib.hid hf
              clear lk
              go_wp2_with fail
              refine lk2.out.mono ?_
              rintro e w6 ⟨rfl, HT6, F⟩
              obtain ⟨k1, k2, k3⟩ := S.out.table HT6 F
              have S6 : NvS w1 w6 T P most mb n ks _ made f := ⟨k1, k2, k3, S.out.I, S.out.no, S.out.lo⟩
              unfold lookA
              simp only []
              generalize (P.getD s Pc.new).kind = ck at *
              generalize (P.getD s Pc.new).index = ci at *
              generalize (P.getD s Pc.new).rights = cr at *
              have S7 := Lib.hid (S6.below (blA (Below.refl w6.heap.size w6) (.cells #[.int .i64 ck, .int .i64 ci, .int .i64 cr] 30)))
              have hl7 := lr.out _ S7.out.M
              rw [← hfv] at hl7
              replace hfv := Lib.hid hfv
              clear lk2 HT6 F k1 k2 k3 S6 S lr z0
              go_wp2
              go_roundw
              case rel => exact ⟨q + 1, by go_num, by rw [htk2.out]; go_num, hlH, S7⟩
              case measure => have := hlH.out; simp [intOf]; omega
          · obtain rfl : m = q := by have := hq.out; omega
            have hct := S.out.I.ct
            have hsp := count_split most P
            have hle : (xP most P).count true ≤ P.length := Nat.le_trans List.count_le_length (by simp)
            rw [hsp, hPl.out] at hle
            rw [List.take_of_length_le (by rw [← hm.out]; exact Nat.le_refl _), hct]
            have cn := fun wr (H : TabW w1 wr T P most) => H.count
            have dd := fun wr (H : TabW w1 wr T P most) => H.dead
            obtain ⟨c, hc⟩ : ∃ c, c = P.countP Pc.is := ⟨_, rfl⟩
            obtain ⟨d, hd⟩ : ∃ c, c = P.countP (Pc.dead most) := ⟨_, rfl⟩
            rw [← hc] at cn hle ⊢
            rw [← hd] at dd hle
            replace cn := Lib.hid cn; replace dd := Lib.hid dd; replace hc := Lib.hid hc; replace hd := Lib.hid hd
            have H := Lib.hid S.out.S
            have x1 : decide ((c : Int) + (d : Int) ≤ (Rm : Int)) = true := decide_eq_true (by omega)
            have x2 : decide (c + d ≤ Rm) = true := decide_eq_true hle
            clear hqm hq S hct hsp
            go_wp2_with fail
            refine (cn.out _ H.out).mono ?_
            rintro e w6 ⟨rfl, H6, -⟩
            replace H := Lib.hid H6
            clear H6
            go_wp2_with fail
            refine (cn.out _ H.out).mono ?_
            rintro e w7 ⟨rfl, H6, -⟩
            replace H := Lib.hid H6
            clear H6
            go_wp2_with fail
            refine (dd.out _ H.out).mono ?_
            rintro e w8 ⟨rfl, H6, -⟩
            have B := Lib.hid (B1.out.trans (H6.B.mono B1.out.size))
            clear H6 H
            go_wp2
            go_ret
            exact ⟨rfl, B.out⟩
end Go.Proofs.YtaflekpfpdnbcaaDoor
