/- Boxes of notes: all that wait. No condition. -/
import Derived.Test.YtblapbnplflghaaPs
namespace Go.Proofs.Ytblapbnplflghaa
open Go.RowKit Go.Conc
set_option linter.unusedVariables false
set_option linter.unusedSimpArgs false
set_option maxRecDepth 100000

def noE : Enc (Int × Int) where
  t := 67
  sz := 2
  f := fun x => [.int .i64 x.1, .int .i64 x.2]
  z := .agg #[.int .i64 0, .int .i64 0]
  bytes := 16
  len := fun x => rfl
  one := fun x v h => by
    simp only [List.mem_cons, List.mem_nil_iff, or_false] at h
    rcases h with h | h <;> (subst h; rfl)
  info := by kernel_rfl
  zs := rfl
  pos := by decide
  small := by decide
set_option maxHeartbeats 8000000 in
theorem all_note {w : World} {B c cap : Nat} {xs : List (Int × Int)} (h : BoxS w B c cap (xs.map ntV)) :
    Calls Try.prog 36 #[.pointer (some ⟨B, 0, none⟩)] w fun e w' => ∃ v, e = .returned v ∧ OwnE noE w' w.heap.size v xs ∧ BoxS w' B c cap (xs.map ntV) ∧ FrB (fun b => b = c) w w' := by
  obtain ⟨s, r, hch⟩ := h.ch
  have hp := h.p.1
  have hlen := fun ty => run_len_chan (P := Try.prog) 95 ty Try.underlying95 hch
  simp only [List.size_toArray, List.length_map] at hlen
  have hxl : xs.length ≤ 4096 := by have := h.le; simp at this; omega
  have hcap : Hid (xs.length ≤ cap) := Lib.hid (by have := h.le.2; simpa using this)
  have H := Lib.hid h
  obtain ⟨R, hR⟩ : ∃ R : Ending → World → Prop, (fun e w' => ∃ v, e = .returned v ∧ OwnE noE w' w.heap.size v xs ∧ BoxS w' B c cap (xs.map ntV) ∧ FrB (fun b => b = c) w w') = R := ⟨_, rfl⟩
  rw [hR]
  replace hR := Lib.hid hR
  clear h hch
  refine calls_of_wpB Try.func36 rfl ?_
  simp only [Try.ntmps36, List.size_toArray, List.length_cons, List.length_nil, Nat.reduceAdd, Nat.reduceSub, Array.replicate_succ, Array.replicate_zero, List.push_toArray, List.append_toArray, List.nil_append, List.cons_append]
  refine wpB_seq_wp (fun K hK => ?_)
  go_wp2
  refine wpB_seq_wp (fun K hK => ?_)
  go_wp2
  refine wpB_seq ?_
  refine wpB_seq_wp (fun K hK => ?_)
  go_wp2
  clear hlen hp
  have hwB := Lib.hid H.out.lt
  refine wpB_block ?_
  refine wpB_loop (fun a wr => ∃ (u1 u2 u4 u5 u6 u7 u8 u11 u12 u13 u14 u15 u16 u17 u18 u19 u20 u21 u22 u23 u24 u25 u26 u27 : Value) (v : Value) (k : Nat), a = { tmps := #[.pointer (some ⟨B, 0, none⟩), u1, u2, v, u4, u5, u6, u7, u8, .int .i64 (xs.length : Nat), .int .i64 (k : Nat), u11, u12, u13, u14, u15, u16, u17, u18, u19, u20, u21, u22, u23, u24, u25, u26, u27], defers := [] } ∧ Hid (k ≤ xs.length) ∧ Hid (BoxS wr B c cap ((xs.drop k ++ xs.take k).map ntV)) ∧ Hid (OwnE noE wr w.heap.size v (xs.take k)) ∧ Hid (FrB (fun b => b = c) w wr)) (fun a _ => xs.length - (intOf (a.tmps.getD 10 undef)).toNat) ?_ (fun a wr hI => ?_)
  · exact ⟨_, _, _, _, _, _, _, _, _, _, _, _, _, _, _, _, _, _, _, _, _, _, _, _, _, 0, rfl, Lib.hid (Nat.zero_le _), Lib.hid (by simpa using H.out), Lib.hid (OwnE.nil _ _), Lib.hid (FrB.refl _ _)⟩
  · obtain ⟨u1, u2, u4, u5, u6, u7, u8, u11, u12, u13, u14, u15, u16, u17, u18, u19, u20, u21, u22, u23, u24, u25, u26, u27, v, k, rfl, hk, S, O, F⟩ := hI
    have hk4 : k ≤ 4096 := by have := hk.out; omega
    by_cases hlt : k < xs.length
    · refine wpB_seq_wp (fun K hK => ?_)
      go_wp2
      refine wpB_seq_wp (fun K hK => ?_)
      go_wp2
      have hdr : xs.drop k = xs[k] :: xs.drop (k + 1) := List.drop_eq_getElem_cons hlt
      have htk : xs.take (k + 1) = xs.take k ++ [xs[k]] := List.take_succ_eq_append_getElem hlt
      obtain ⟨y, hy⟩ : ∃ y, y = xs[k] := ⟨_, rfl⟩
      rw [← hy] at hdr htk
      obtain ⟨T, hT⟩ : ∃ T, T = xs.take k := ⟨_, rfl⟩
      obtain ⟨D, hD⟩ : ∃ D, D = xs.drop (k + 1) := ⟨_, rfl⟩
      have hroom := Lib.hid (show (D ++ T).length < cap by have := hcap.out; rw [List.length_append, hD, hT, List.length_drop, List.length_take]; omega)
      have S1 := S.out
      have O1 := O.out
      rw [hdr, ← hT, ← hD] at S1
      rw [← hT] at O1
      have hTl : Hid (T.length ≤ 4096) := Lib.hid (by rw [hT, List.length_take]; omega)
      rw [show List.map ntV (y :: D ++ T) = ntV y :: List.map ntV (D ++ T) from rfl] at S1
      obtain ⟨s, r, hch⟩ := S1.ch
      replace hch := Lib.hid hch
      have hp := S1.p.1
      have S1 := Lib.hid S1
      have htkH := Lib.hid (show xs.take (k + 1) = T ++ [y] by rw [htk, hT])
      replace hT := Lib.hid hT; replace hD := Lib.hid hD; replace O1 := Lib.hid O1
      clear hy hdr htk S O
      refine wpB_seq ?_
      refine wpB_block ?_
      refine wpB_seq ?_
      refine wpB_region ?_
      show opB _ _ _ _ [0, 1, 2, 3, 4, 5, 6] _ _
      refine opB_op rfl rfl (fun K hK => ?_)
      unfold valB
      go_simp
      refine hK _ _ ?_
      clear hK K
      refine opB_op rfl rfl (fun K hK => ?_)
      unfold valB
      go_simp
      refine hK _ _ ?_
      clear hK K
      refine opB_op rfl rfl (fun K hK => ?_)
      unfold valB
      go_simp
      refine hK _ _ ?_
      clear hK K
      refine opB_op rfl rfl (fun K hK => ?_)
      unfold valB
      go_simp
      refine hK _ _ ?_
      clear hK K
      refine opB_recv (c := c) (z := .agg #[.int .i64 0, .int .i64 0]) rfl rfl (by decide) (by first | (simp [go_sem, execOp, rcase, Act.eval]; done) | (simp [go_sem, execOp, rcase, Act.eval]; rfl)) hch.out (by simp) ?_
      have e9 := ext_one (ntV y) (List.map ntV (D ++ T))
      have e8 := get_one (ntV y) (List.map ntV (D ++ T))
      rw [e9, e8]
      have S2 := Lib.hid (S1.out.set (buf' := (D ++ T).map ntV) (by have := hroom.out; rw [List.length_map]; omega) s (r + 1))
      have F1 := frb_setChan wr c cap (List.map ntV (D ++ T)).toArray false s (r + 1) false
      have O2 := Lib.hid (O1.out.frb F1 (fun q hq e => by have := (O1.out.lt q hq).1; have := hwB.out.2; omega))
      have F2 := Lib.hid (F.out.then_ F1 (fun _ _ h => h))
      clear e9 e8 S1 hch hp F1 F O1
      generalize wr.setChan c cap (List.map ntV (D ++ T)).toArray false s (r + 1) false = w2 at *
      have S3 := Lib.hid (S2.out.alloc (.cells #[.int .i64 y.1, .int .i64 y.2] 67))
      have O3 := Lib.hid (O2.out.alloc (.cells #[.int .i64 y.1, .int .i64 y.2] 67))
      have F3 := Lib.hid (FrB.allc F2.out (.cells #[.int .i64 y.1, .int .i64 y.2] 67))
      have z0 := Lib.hid (Cel.new w2 #[.int .i64 y.1, .int .i64 y.2] 67 0 (.int .i64 y.1) rfl)
      have z1 := Lib.hid (Cel.new w2 #[.int .i64 y.1, .int .i64 y.2] 67 1 (.int .i64 y.2) rfl)
      have hz : Hid (w2.heap.size ≠ c ∧ w2.heap.size < (w2.alloc (.cells #[.int .i64 y.1, .int .i64 y.2] 67)).heap.size ∧ v.ownBlock ≠ some w2.heap.size) := Lib.hid ⟨by have := S2.out.lt; omega, by simp, fun e => by have := (O2.out.lt _ e).2; omega⟩
      refine opB_op rfl rfl (fun K hK => ?_)
      unfold valB
      go_simp
      refine hK _ _ ?_
      clear hK K
      refine opB_op rfl rfl (fun K hK => ?_)
      unfold valB
      go_simp
      refine hK _ _ ?_
      clear hK K
      refine opB_nil ?_
      show wpB _ _ _ _ _ _
      clear S2 F2 O2
      generalize w2.alloc (.cells #[.int .i64 y.1, .int .i64 y.2] 67) = w3 at *
      generalize w2.heap.size = Z at *
      have S4 := Lib.hid (S3.out.alloc (.cells #[.int .i64 y.1, .int .i64 y.2] 67))
      have O4 := Lib.hid (O3.out.alloc (.cells #[.int .i64 y.1, .int .i64 y.2] 67))
      have F4 := Lib.hid (FrB.allc F3.out (.cells #[.int .i64 y.1, .int .i64 y.2] 67))
      have rn := Lib.hid (rowAt_new1 (E := noE) w3 #[.int .i64 y.1, .int .i64 y.2] 67 y rfl rfl)
      have z0a := z0.out.1; have z1a := z1.out.1
      replace z0 := Lib.hid (z0.out.alloc (.cells #[.int .i64 y.1, .int .i64 y.2] 67)); replace z1 := Lib.hid (z1.out.alloc (.cells #[.int .i64 y.1, .int .i64 y.2] 67))
      refine wpB_seq_wp (fun K hK => ?_)
      go_wp2_with (first | (at_builtin; refine append_rowE (E := noE) (base := w.heap.size) (ys := [y]) rfl rfl Try.underlying35 rfl O4.out rfl rn.out rfl (by have := hTl.out; omega) (by simp) (by have := F4.out.size; omega) ?_) | fail)
      intro v' w5 G1 G2 G3 G4
      clear z0a z1a
      have FG := FrB.grown G3
      have S5 := Lib.hid (S4.out.frb FG (fun e => by have := O4.out.lt _ e; have := hwB.out.1; omega) (fun e => by have := O4.out.lt _ e; have := hwB.out.2; omega))
      have F5 := Lib.hid (F4.out.then_ FG (fun i hi e => absurd e (fun e => by have := (O4.out.lt i e).1; omega)))
      replace z0 := Lib.hid (z0.out.frb FG hz.out.2.2); replace z1 := Lib.hid (z1.out.frb FG hz.out.2.2)
      have O5 := Lib.hid G1
      clear G1 G2 G3 G4 FG S4 O4 F4 S3 O3 F3 rn
      go_wp2
      obtain ⟨s, r, hch⟩ := S5.out.ch
      have hp := S5.out.p.1
      have z0a := z0.out.1; have z1a := z1.out.1
      have e9 : ((List.map ntV (D ++ T)).toArray).push (ntV y) = (List.map ntV (D ++ (T ++ [y]))).toArray := by simp
      replace e9 := Lib.hid e9
      have hch' : Hid (w5.drew.heap[c]? = some (.chan cap (List.map ntV (D ++ T)).toArray false s r false)) := Lib.hid hch
      have hpd : w5.drew.cell? ⟨B, 0, none⟩ = some (.chan (some c)) := hp
      have z0d : w5.drew.cell? ⟨Z, 0, none⟩ = some (.int .i64 y.1) := z0a
      have z1d : w5.drew.cell? ⟨Z, 1, none⟩ = some (.int .i64 y.2) := z1a
      replace S5 := Lib.hid (S5.out.below (w' := w5.drew) ⟨rfl, rfl, rfl, Nat.le_refl _, fun _ _ => rfl⟩)
      replace F5 := Lib.hid (show FrB (fun b => b = c) w w5.drew from ⟨F5.out.os, F5.out.tape, F5.out.output, F5.out.size, F5.out.block⟩)
      replace O5 := Lib.hid (show OwnE noE w5.drew w.heap.size v' (T ++ [y]) from O5.out.drew)
      clear hp z0a z1a hch z0 z1
      obtain ⟨w6, hw6⟩ : ∃ w6, w5.drew = w6 := ⟨_, rfl⟩
      rw [hw6] at hch' hpd z0d z1d S5 F5 O5
      show wpB _ _ _ _ _ _
      refine wpB_regionD1 (w6.setChan c cap (List.map ntV (D ++ (T ++ [y]))).toArray false (s + 1) r false) [(some 21, .pointer (some ⟨B, 0, none⟩)), (some 22, .pointer (some ⟨B, 0, none⟩)), (some 23, .pointer (some ⟨B, 0, none⟩)), (some 24, .chan (some c)), (some 25, ntV y)] hw6 (by kernel_rfl) [[0, 1, 2, 3, 4, 5], [0, 1, 2, 4, 3, 5], [0, 1, 4, 2, 3, 5], [0, 4, 1, 2, 3, 5], [4, 0, 1, 2, 3, 5]] (by kernel_rfl) (fun l hl => ?hone) ?hrest
      case hone =>
        simp only [List.mem_cons, List.mem_nil_iff, or_false] at hl
        rcases hl with rfl | rfl | rfl | rfl | rfl
        all_goals
          refine opB_op rfl rfl (fun K hK => ?_)
          unfold valB
          go_simp
          refine hK _ _ ?_
          clear hK K
          refine opB_op rfl rfl (fun K hK => ?_)
          unfold valB
          go_simp
          refine hK _ _ ?_
          clear hK K
          refine opB_op rfl rfl (fun K hK => ?_)
          unfold valB
          go_simp
          refine hK _ _ ?_
          clear hK K
          refine opB_op rfl rfl (fun K hK => ?_)
          unfold valB
          go_simp
          refine hK _ _ ?_
          clear hK K
          refine opB_op rfl rfl (fun K hK => ?_)
          unfold valB
          go_simp
          refine hK _ _ ?_
          clear hK K
          refine opB_send (c := c) (v := ntV y) rfl rfl (by decide) (by first | (simp [go_sem, execOp, scase, Act.eval]; done) | (simp [go_sem, execOp, scase, Act.eval]; rfl)) hch'.out (by have := hroom.out; simp at this ⊢; omega) ?_
          refine opB_nil ?_
          rw [e9.out]
          exact ⟨rfl, rfl, rfl⟩
      clear hw6
      have S7 := Lib.hid (S5.out.set (buf' := (D ++ (T ++ [y])).map ntV) (by have := hroom.out; simp at this ⊢; omega) (s + 1) r)
      have F1 := frb_setChan w6 c cap (List.map ntV (D ++ (T ++ [y]))).toArray false (s + 1) r false
      have F7 := Lib.hid (F5.out.then_ F1 (fun _ _ h => h))
      have O7 := Lib.hid (O5.out.frb F1 (fun q hq e => by have := (O5.out.lt q hq).1; have := hwB.out.2; omega))
      clear e9 S5 hch' hpd F1 F5 z0d z1d O5
      generalize w6.setChan c cap (List.map ntV (D ++ (T ++ [y]))).toArray false (s + 1) r false = w7 at *
      simp only [putsA, List.foldl_cons, List.foldl_nil, Act.put, List.setIfInBounds_toArray, List.set_cons_zero, List.set_cons_succ]
      show wpB _ _ _ _ _ _
      refine wpB_of_wp ?_
      have hlt2 := Lib.hid hlt
      go_wp2
      refine ⟨⟨_, _, _, _, _, _, _, _, _, _, _, _, _, _, _, _, _, _, _, _, _, _, _, _, _, k + 1, by go_num, Lib.hid hlt2.out, Lib.hid (by have h5 := S7.out; rw [hD.out, ← htkH.out] at h5; simpa using h5), Lib.hid (by rw [htkH.out]; exact O7.out), F7⟩, by simp [intOf]; omega⟩
    · obtain rfl : k = xs.length := by have := hk.out; omega
      have S1 := S.out
      have O1 := O.out
      rw [List.drop_length, List.take_length, List.nil_append] at S1
      rw [List.take_length] at O1
      have S2 := Lib.hid S1; have O2 := Lib.hid O1
      clear S1 O1 S O hk hlt hk4
      have hxl2 := Lib.hid hxl
      clear hxl
      obtain ⟨n, hn⟩ : ∃ n : Nat, n = xs.length := ⟨_, rfl⟩
      rw [← hn]
      refine wpB_seq_wp (fun K hK => ?_)
      go_wp2
      refine wpB_seq_wp (fun K hK => ?_)
      go_wp2
      refine wpB_of_wp ?_
      clear hK K
      go_wp2
      rw [← hR.out]
      exact ⟨v, rfl, O2.out, S2.out, F.out⟩
end Go.Proofs.Ytblapbnplflghaa
