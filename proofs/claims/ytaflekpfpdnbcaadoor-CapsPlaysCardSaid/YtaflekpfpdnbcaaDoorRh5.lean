/- The document's tables: all handles that are out. -/
import Derived.Test.YtaflekpfpdnbcaaDoorRf8
import Derived.Test.YtaflekpfpdnbcaaDoorOwnES
import Derived.Test.YtaflekpfpdnbcaaDoorSeq
namespace Go.Proofs.YtaflekpfpdnbcaaDoor
open Go.RowKit
set_option linter.unusedVariables false
set_option linter.unusedSimpArgs false
set_option linter.unusedSectionVars false
set_option maxRecDepth 100000

def liveT (P : List Pc) (i : Nat) : List Int := ((List.range i).filter (fun j => (P.getD j Pc.new).is)).map (fun j => (bitsP j (P.getD j Pc.new) : Int))
theorem liveT_all (P : List Pc) : liveT P P.length = livesP P := rfl
theorem liveT_len (P : List Pc) (i : Nat) : (liveT P i).length ≤ i := by
  unfold liveT; rw [List.length_map]; exact Nat.le_trans (List.length_filter_le _ _) (by simp)
theorem liveT_yes {P : List Pc} {i : Nat} (hi : i < P.length) (h : P[i].is = true) : liveT P (i + 1) = liveT P i ++ [((P[i].gen * 16777216 + i * 256 + P[i].rights : Nat) : Int)] := by
  have e : P.getD i Pc.new = P[i] := by simp [hi]
  unfold liveT
  rw [List.range_succ, List.filter_append, List.map_append, List.filter_cons_of_pos (by rw [e]; exact h)]
  simp only [List.filter_nil, List.map_cons, List.map_nil, e]
  rfl
theorem liveT_no {P : List Pc} {i : Nat} (hi : i < P.length) (h : P[i].is = false) : liveT P (i + 1) = liveT P i := by
  have e : P.getD i Pc.new = P[i] := by simp [hi]
  unfold liveT
  rw [List.range_succ, List.filter_append, List.map_append, List.filter_cons_of_neg (by rw [e, h]; decide)]
  simp
theorem liveT_count (P : List Pc) : (livesP P).length = P.countP Pc.is := by
  have key : ∀ i, i ≤ P.length → (liveT P i).length = (P.take i).countP Pc.is := by
    intro i
    induction i with
    | zero => intro _; simp [liveT]
    | succ i ih =>
      intro hi
      rw [countP_take _ _ (by omega)]
      cases h : P[i].is with
      | true => rw [liveT_yes (by omega) h, List.length_append, ih (by omega)]; simp
      | false => rw [liveT_no (by omega) h, ih (by omega)]; simp
  have := key P.length (Nat.le_refl _)
  rw [List.take_length] at this
  rw [← liveT_all]; exact this

set_option maxHeartbeats 8000000 in
theorem live_d {w : World} {A : Option Addr} {c : Nat} {P : List Pc} {most : Nat} (hr : RowAt pcE.f 5 w A P) (hp : ∀ x ∈ P, x.Ok most) (hmo : most ≤ 16777215) (hl : P.length ≤ 256) :
    Calls Tryd.prog 43 #[.agg #[.slice A P.length c, .int .i64 most]] w fun e w' => ∃ v, e = .returned v ∧ OwnE uE w' w.heap.size v (livesP P) ∧ Below w.heap.size w w' := by
  obtain ⟨n, hn⟩ : ∃ n, n = P.length := ⟨_, rfl⟩
  rw [← hn]
  replace hn := Lib.hid hn
  have t0 := Cel.new w #[.slice A n c, .int .i64 most] 65 0 (.slice A n c) rfl
  have F1 := blA (Below.refl w.heap.size w) (.cells #[.slice A n c, .int .i64 most] 65)
  have HR := Lib.hid (hr.below F1)
  have HP := Lib.hid (fun i (hi : i < P.length) => hp _ (List.getElem_mem hi))
  have hZ0 : w.heap.size < (w.alloc (.cells #[.slice A n c, .int .i64 most] 65)).heap.size := by simp
  have hn256 : n ≤ 256 := by rw [hn.out]; exact hl
  have sz : (w.alloc (.cells #[.slice A n c, .int .i64 most] 65)).heap.size = w.heap.size + 1 := by simp
  have O1 : OwnE uE ((w.alloc (.cells #[.slice A n c, .int .i64 most] 65)).alloc (.cells #[] 23)) (w.heap.size + 1) (.slice (some ⟨w.heap.size + 1, 0, none⟩) 0 0) (liveT P 0) := by
    have := OwnE.lit (E := uE) (w.alloc (.cells #[.slice A n c, .int .i64 most] 65)) (w.heap.size + 1) (by simp) [] #[] rfl (Nat.zero_le _)
    rw [sz] at this
    exact this
  have F2 := Lib.hid (blA F1 (.cells #[] 23))
  have hlP := Lib.hid hl
  have K0 := Lib.hid (show Cel ((w.alloc (.cells #[.slice A n c, .int .i64 most] 65)).alloc (.cells #[] 23)) w.heap.size 0 (.slice A n c) from t0.alloc _)
  have hrB := Lib.hid (show ∀ i (hi : i < P.length), ∃ b off, A = some ⟨b, off, none⟩ ∧ b < w.heap.size from fun i hi => by obtain ⟨b, off, e, h1, -⟩ := hr i hi; exact ⟨b, off, e, h1⟩)
  have HR2 := Lib.hid (HR.out.below (blA (Below.refl _ _) (.cells #[] 23)))
  replace O1 := Lib.hid O1
  clear hr hp hl F1 t0 HR sz
  go_enter Tryd.func43, Tryd.ntmps43
  go_wp2_with fail
  generalize hw1 : (w.alloc (.cells #[.slice A n c, .int .i64 most] 65)).alloc (.cells #[] 23) = w1 at *
  have hwZ : Hid (w.heap.size ≤ w1.heap.size) := Lib.hid F2.out.size
  have hZ1 : w.heap.size < w1.heap.size := K0.out.lt
  generalize hZ : w.heap.size = Z at *
  replace hZ := Lib.hid hZ; replace hw1 := Lib.hid hw1
  go_loopw [3, 4] (fun vv kk wr => ∃ i : Nat, kk = .int .i64 i ∧ Hid (i ≤ n) ∧ Hid (OwnE uE wr (Z + 1) vv (liveT P i)) ∧ Hid (Below (Z + 1) w1 wr)) (fun _ kk _ => n - (intOf kk).toNat)
  case atStart => exact ⟨0, rfl, Lib.hid (Nat.zero_le _), O1, Lib.hid (Below.refl _ _)⟩
  case round =>
    clear O1
    obtain ⟨i, rfl, hi, O, B⟩ := hrel
    have t0a := (B.out.cell (p := ⟨Z, 0, none⟩) (Nat.lt_succ_self _)).trans K0.out.1
    by_cases hlt : i < n
    · have hiP : i < P.length := by rw [← hn.out]; exact hlt
      obtain ⟨b, off, rfl, -, c0, c1, c2, c3, c4⟩ := HR2.out.pc5 hiP
      obtain ⟨b2, off2, e2, hbl⟩ := hrB.out i hiP
      obtain ⟨rfl, rfl⟩ : b = b2 ∧ off = off2 := by injection e2 with e2; injection e2 with e3 e4; exact ⟨e3, e4⟩
      replace hbl : b < Z + 1 := Nat.lt_succ_of_lt hbl
      clear e2
      have ok := HP.out i hiP
      have hyes := fun h => liveT_yes hiP h
      have hno := fun h => liveT_no hiP h
      generalize P[i] = z at *
      obtain ⟨zg, zb, zk, zi, zr⟩ := z
      dsimp only at c0 c1 c2 c3 c4 hyes hno
      have KB := Lib.hid (show ∀ w' : World, Below (Z + 1) w1 w' → w'.cell? ⟨Z, 0, none⟩ = some (.slice (some ⟨b, off, none⟩) n c) ∧ w'.cell? ⟨b, off + i * 5, none⟩ = some (.int .i64 zg) ∧ w'.cell? ⟨b, off + i * 5 + 4, none⟩ = some (.int .i64 zr) from fun w' F =>
        ⟨(F.cell (p := ⟨Z, 0, none⟩) (Nat.lt_succ_self _)).trans K0.out.1, (F.cell (p := ⟨b, off + i * 5, none⟩) hbl).trans c0, (F.cell (p := ⟨b, off + i * 5 + 4, none⟩) hbl).trans c4⟩)
      replace c1 := (B.out.cell (p := ⟨b, off + i * 5 + 1, none⟩) hbl).trans c1
      have hlH := Lib.hid hlt
      have hi256 : i < 257 := by omega
      cases zb with
      | false =>
        have hno2 := Lib.hid (hno rfl)
        clear hyes hno ok c0 c2 c3 c4 hbl
        go_wp2
        go_roundw
        case rel => exact ⟨i + 1, by go_num, hlH, Lib.hid (by rw [hno2.out]; exact O.out), B⟩
        case measure => have := hlH.out; simp [intOf]; omega
      | true =>
        have hys := Lib.hid (hyes rfl)
        have bc := fun w => bits5_c w i zg zr (by omega) (by have := ok.gen; dsimp only at this; omega) ((ok.is rfl).2)
        obtain ⟨bv, hbv⟩ : ∃ b, b = zg * 16777216 + i * 256 + zr := ⟨_, rfl⟩
        rw [← hbv] at bc hys
        replace bc := Lib.hid bc; replace hbv := Lib.hid hbv
        have hlen : Hid ((liveT P i).length ≤ 257) := Lib.hid (Nat.le_trans (liveT_len P i) (by omega))
        obtain ⟨A', k', rfl, -⟩ := O.out.slice
        clear hyes hno ok c2 c3
        go_wp2_with fail
        refine seq_start [(0, true), (1, true), (2, true), (3, true), (4, true), (5, true), (6, true), (7, true), (8, true), (9, true), (10, true), (11, true), (12, true), (13, true), (14, true), (15, false), (16, false), (17, false), (18, true)] (fun w' => w'.cell? ⟨Z, 0, none⟩ = some (.slice (some ⟨b, off, none⟩) n c) ∧ w'.cell? ⟨b, off + i * 5, none⟩ = some (.int .i64 zg) ∧ w'.cell? ⟨b, off + i * 5 + 4, none⟩ = some (.int .i64 zr)) (by kernel_rfl) (by kernel_rfl) rfl (by kernel_rfl) (KB.out wr.drew ⟨B.out.os, B.out.tape, B.out.output, B.out.size, B.out.block⟩) ?_
        iterate 15 (refine seq_read rfl (by first | rfl | (go_simp; done)) (fun w' hw => by obtain ⟨s0, s1, s2⟩ := hw; go_simp; with_reducible rfl) ?_; try simp only [Act.put, List.setIfInBounds_toArray, List.set_cons_zero, List.set_cons_succ])
        replace O := Lib.hid O.out.drew
        replace B := Lib.hid (show Below (Z + 1) w1 wr.drew from ⟨B.out.os, B.out.tape, B.out.output, B.out.size, B.out.block⟩)
        clear t0a c0 c1 c4
        generalize wr.drew = w2 at *
        refine seq_call rfl (fun K hK => ?_)
        go_simp
        refine (bc.out _).mono ?_
        rintro e w5 ⟨rfl, rfl⟩
        refine hK.out _ _ (KB.out _ B.out) ?_
        clear hK K
        try simp only [Act.put, List.setIfInBounds_toArray, List.set_cons_zero, List.set_cons_succ]
        have FA := blA (Below.refl w2.heap.size w2) (.cells #[.int .u64 bv] 23)
        have O1 := Lib.hid (O.out.alloc (.cells #[.int .u64 bv] 23))
        have B1 := Lib.hid (B.out.alloc (by have := B.out.size; omega) (.cells #[.int .u64 bv] 23))
        have rn := Lib.hid (rowAt_new1 (E := uE) w2 #[.int .u64 bv] 23 (bv : Int) rfl rfl)
        refine seq_call rfl (fun K hK => ?_)
        go_simp
        refine hK.out _ _ (KB.out _ B1.out) ?_
        clear hK K
        try simp only [Act.put, List.setIfInBounds_toArray, List.set_cons_zero, List.set_cons_succ]
        refine seq_call rfl (fun K hK => ?_)
        refine step_append_rowE (E := uE) (base := Z + 1) (v := .slice A' (liveT P i).length k') (xs := liveT P i) (ys := [(bv : Int)]) rfl rfl Tryd.underlying28 rfl O1.out rfl rn.out rfl (by have := hlen.out; omega) (by simp) (by have := B.out.size; simp; omega) ?_
        intro v' w4 O4 G1 G2 G3
        have B4 := Lib.hid (B1.out.trans G1)
        replace O4 := Lib.hid O4
        obtain ⟨A4, k4, rfl, -⟩ := O4.out.slice
        refine hK.out _ _ (KB.out _ B4.out) ?_
        clear hK K G1 G2 G3 FA rn O1 B1 O B
        try simp only [Act.put, List.setIfInBounds_toArray, List.set_cons_zero, List.set_cons_succ]
        iterate 1 (refine seq_read rfl (by first | rfl | (go_simp; done)) (fun w' hw => by go_simp; with_reducible rfl) ?_; try simp only [Act.put, List.setIfInBounds_toArray, List.set_cons_zero, List.set_cons_succ])
        refine seq_done ?_
        go_wp2
        go_roundw
        case rel => exact ⟨i + 1, by go_num, hlH, Lib.hid (by have h5 := O4.out; rw [List.length_append] at h5; rw [hys.out]; exact h5), B4⟩
        case measure => have := hlH.out; simp [intOf]; omega
    · obtain rfl : n = i := by have := hi.out; omega
      have hla := Lib.hid (show liveT P n = livesP P by rw [hn.out]; exact liveT_all P)
      go_wp2
      go_ret
      refine ⟨_, rfl, ?_, ?_⟩
      · rw [← hla.out]; exact O.out.mono (by have := hZ.out; omega)
      · have := F2.out.trans (B.out.mono (by omega))
        first
          | exact this
          | (rw [hZ.out]; exact this)
end Go.Proofs.YtaflekpfpdnbcaaDoor
