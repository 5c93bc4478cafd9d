/- Boxes of numbers: all that wait. No condition. -/
import Derived.Test.YtkpiphihmmhhpaaBx
namespace Go.Proofs.Ytkpiphihmmhhpaa
open Go.RowKit Go.Conc
set_option linter.unusedVariables false
set_option linter.unusedSimpArgs false
set_option maxRecDepth 100000

theorem ext_one (v : Value) (L : List Value) : ((v :: L).toArray).extract 1 ((v :: L).toArray).size = L.toArray := by simp
theorem get_one (v : Value) (L : List Value) : ((v :: L).toArray).getD 0 undef = v := by simp
set_option maxHeartbeats 8000000 in
theorem all_int {w : World} {B c cap : Nat} {xs : List Int} (h : BoxS w B c cap (xs.map (Value.int .i64))) :
    Calls Try.prog 22 #[.pointer (some ⟨B, 0, none⟩)] w fun e w' => ∃ v, e = .returned v ∧ OwnI w' w.heap.size v xs ∧ BoxS w' B c cap (xs.map (Value.int .i64)) ∧ FrB (fun b => b = c) w w' := by
  obtain ⟨s, r, hch⟩ := h.ch
  have hp := h.p.1
  have hlen := fun ty => run_len_chan (P := Try.prog) 80 ty Try.underlying80 hch
  simp only [List.size_toArray, List.length_map] at hlen
  have hxl : xs.length ≤ 4096 := by have := h.le; simp at this; omega
  have hcap : Hid (xs.length ≤ cap) := Lib.hid (by have := h.le.2; simpa using this)
  have H := Lib.hid h
  obtain ⟨R, hR⟩ : ∃ R : Ending → World → Prop, (fun e w' => ∃ v, e = .returned v ∧ OwnI w' w.heap.size v xs ∧ BoxS w' B c cap (xs.map (Value.int .i64)) ∧ FrB (fun b => b = c) w w') = R := ⟨_, rfl⟩
  rw [hR]
  replace hR := Lib.hid hR
  clear h hch
  refine calls_of_wpB Try.func22 rfl ?_
  simp only [Try.ntmps22, List.size_toArray, List.length_cons, List.length_nil, Nat.reduceAdd, Nat.reduceSub, Array.replicate_succ, Array.replicate_zero, List.push_toArray, List.append_toArray, List.nil_append, List.cons_append]
  refine wpB_seq_wp (fun K hK => ?_)
  go_wp2
  refine wpB_seq_wp (fun K hK => ?_)
  go_wp2
  refine wpB_seq ?_
  refine wpB_seq_wp (fun K hK => ?_)
  go_wp2
  clear hlen hp
  have hwB := Lib.hid H.out.lt
  refine wpB_block ?_
  refine wpB_loop (fun a wr => ∃ (u1 u2 u4 u5 u6 u7 u8 u11 u12 u13 u14 u15 u16 u17 u18 u19 u20 u21 u22 u23 u24 u25 u26 u27 : Value) (v : Value) (k : Nat), a = { tmps := #[.pointer (some ⟨B, 0, none⟩), u1, u2, v, u4, u5, u6, u7, u8, .int .i64 (xs.length : Nat), .int .i64 (k : Nat), u11, u12, u13, u14, u15, u16, u17, u18, u19, u20, u21, u22, u23, u24, u25, u26, u27], defers := [] } ∧ Hid (k ≤ xs.length) ∧ Hid (BoxS wr B c cap ((xs.drop k ++ xs.take k).map (Value.int .i64))) ∧ Hid (OwnI wr w.heap.size v (xs.take k)) ∧ Hid (FrB (fun b => b = c) w wr)) (fun a _ => xs.length - (intOf (a.tmps.getD 10 undef)).toNat) ?_ (fun a wr hI => ?_)
  · exact ⟨_, _, _, _, _, _, _, _, _, _, _, _, _, _, _, _, _, _, _, _, _, _, _, _, _, 0, rfl, Lib.hid (Nat.zero_le _), Lib.hid (by simpa using H.out), Lib.hid (OwnI.nil _ _), Lib.hid (FrB.refl _ _)⟩
  · obtain ⟨u1, u2, u4, u5, u6, u7, u8, u11, u12, u13, u14, u15, u16, u17, u18, u19, u20, u21, u22, u23, u24, u25, u26, u27, v, k, rfl, hk, S, O, F⟩ := hI
    have hk4 : k ≤ 4096 := by have := hk.out; omega
    by_cases hlt : k < xs.length
    · refine wpB_seq_wp (fun K hK => ?_)
      go_wp2
      refine wpB_seq_wp (fun K hK => ?_)
      go_wp2
      have hdr : xs.drop k = xs[k] :: xs.drop (k + 1) := List.drop_eq_getElem_cons hlt
      have htk : xs.take (k + 1) = xs.take k ++ [xs[k]] := List.take_succ_eq_append_getElem hlt
      obtain ⟨y, hy⟩ : ∃ y, y = xs[k] := ⟨_, rfl⟩
      rw [← hy] at hdr htk
      have S1 := S.out
      rw [hdr] at S1
      rw [show List.map (Value.int .i64) (y :: xs.drop (k + 1) ++ xs.take k) = Value.int .i64 y :: List.map (Value.int .i64) (xs.drop (k + 1) ++ xs.take k) from rfl] at S1
      obtain ⟨s, r, hch⟩ := S1.ch
      replace hch := Lib.hid hch
      have hp := S1.p.1
      have S1 := Lib.hid S1
      have hyH := Lib.hid hy; have hdrH := Lib.hid hdr; have htkH := Lib.hid htk
      clear hy hdr htk
      refine wpB_seq ?_
      refine wpB_block ?_
      refine wpB_seq ?_
      refine wpB_region ?_
      show opB _ _ _ _ [0, 1, 2, 3, 4, 5] _ _
      refine opB_op rfl rfl (fun K hK => ?_)
      unfold valB
      go_simp
      refine hK _ _ ?_
      clear hK K
      refine opB_op rfl rfl (fun K hK => ?_)
      unfold valB
      go_simp
      refine hK _ _ ?_
      clear hK K
      refine opB_op rfl rfl (fun K hK => ?_)
      unfold valB
      go_simp
      refine hK _ _ ?_
      clear hK K
      refine opB_op rfl rfl (fun K hK => ?_)
      unfold valB
      go_simp
      refine hK _ _ ?_
      clear hK K
      refine opB_recv (c := c) (z := .int .i64 0) rfl rfl (by decide) (by first | (simp [go_sem, execOp, rcase, Act.eval]; done) | (simp [go_sem, execOp, rcase, Act.eval]; rfl)) hch.out (by simp) ?_
      have e9 := ext_one (Value.int .i64 y) (List.map (Value.int .i64) (xs.drop (k + 1) ++ xs.take k))
      have e8 := get_one (Value.int .i64 y) (List.map (Value.int .i64) (xs.drop (k + 1) ++ xs.take k))
      rw [e9, e8]
      have S2 := Lib.hid (S1.out.set (buf' := (xs.drop (k + 1) ++ xs.take k).map (Value.int .i64)) (by have := hcap.out; simp; omega) s (r + 1))
      have F1 := frb_setChan wr c cap (List.map (Value.int .i64) (xs.drop (k + 1) ++ xs.take k)).toArray false s (r + 1) false
      have O2 := Lib.hid (O.out.block (w' := wr.setChan c cap (List.map (Value.int .i64) (xs.drop (k + 1) ++ xs.take k)).toArray false s (r + 1) false) (fun q hq => F1.block q (O.out.lt q hq).2 (fun e => by have := (O.out.lt q hq).1; have := hwB.out.2; omega)))
      have F2 := Lib.hid (F.out.then_ F1 (fun _ _ h => h))
      clear e9 e8 S1 hch hp F1 S O F
      generalize wr.setChan c cap (List.map (Value.int .i64) (xs.drop (k + 1) ++ xs.take k)).toArray false s (r + 1) false = w2 at *
      refine opB_op rfl rfl (fun K hK => ?_)
      unfold valB
      go_simp
      refine hK _ _ ?_
      clear hK K
      refine opB_nil ?_
      show wpB _ _ _ _ _ _
      refine wpB_seq_wp (fun K hK => ?_)
      have hnl : Hid ((xs.take k).length ≤ 4096) := Lib.hid (by rw [List.length_take]; omega)
      go_wp2_with (first | (at_builtin; refine append_int rfl rfl Try.underlying37 rfl (O2.out.alloc _) rfl (cell_new1 _ _ _) (Nat.le_trans hnl.out (by decide)) (by have := F2.out.size; simp; omega) ?_) | fail)
      intro v' w3 G1 G2 G3 G4
      have htk := htkH.out
      have FA := FrB.allc F2.out (.cells #[.int .i64 y] 3)
      have S3 : BoxS w3 B c cap ((xs.drop (k + 1) ++ xs.take k).map (Value.int .i64)) := (S2.out.alloc (.cells #[.int .i64 y] 3)).frb (FrB.grown G3) (fun e => by have := O2.out.lt _ e; have := hwB.out.1; omega) (fun e => by have := O2.out.lt _ e; have := hwB.out.2; omega)
      have F3 := Lib.hid (FA.then_ (FrB.grown G3) (fun i hi e => absurd e (fun e => by have := (O2.out.lt i e).1; omega)))
      have G := Lib.hid G1
      have S4 := Lib.hid S3
      clear G1 G2 G3 G4 FA S3 S2 O2 F2
      go_wp2
      obtain ⟨s, r, hch⟩ := S4.out.ch
      replace hch := Lib.hid hch
      have hp := S4.out.p.1
      show wpB _ _ _ _ _ _
      refine wpB_region ?_
      show opB _ _ _ _ [0, 1, 2, 3, 4, 5] _ _
      refine opB_op rfl rfl (fun K hK => ?_)
      unfold valB
      go_simp
      refine hK _ _ ?_
      clear hK K
      refine opB_op rfl rfl (fun K hK => ?_)
      unfold valB
      go_simp
      refine hK _ _ ?_
      clear hK K
      refine opB_op rfl rfl (fun K hK => ?_)
      unfold valB
      go_simp
      refine hK _ _ ?_
      clear hK K
      refine opB_op rfl rfl (fun K hK => ?_)
      unfold valB
      go_simp
      refine hK _ _ ?_
      clear hK K
      refine opB_op rfl rfl (fun K hK => ?_)
      unfold valB
      go_simp
      refine hK _ _ ?_
      clear hK K
      refine opB_send (c := c) (v := .int .i64 y) rfl rfl (by decide) (by first | (simp [go_sem, execOp, scase, Act.eval]; done) | (simp [go_sem, execOp, scase, Act.eval]; rfl)) hch.out (by have := hcap.out; simp; omega) ?_
      have e9 : ((List.map (Value.int .i64) (xs.drop (k + 1) ++ xs.take k)).toArray).push (.int .i64 y) = (List.map (Value.int .i64) (xs.drop (k + 1) ++ xs.take (k + 1))).toArray := by rw [htk]; simp
      rw [e9]
      have S5 := Lib.hid (S4.out.set (buf' := (xs.drop (k + 1) ++ xs.take (k + 1)).map (Value.int .i64)) (by have := hcap.out; simp; omega) (s + 1) r)
      have F1 := frb_setChan w3 c cap (List.map (Value.int .i64) (xs.drop (k + 1) ++ xs.take (k + 1))).toArray false (s + 1) r false
      have O5 := Lib.hid (G.out.block (w' := w3.setChan c cap (List.map (Value.int .i64) (xs.drop (k + 1) ++ xs.take (k + 1))).toArray false (s + 1) r false) (fun q hq => F1.block q (G.out.lt q hq).2 (fun e => by have := (G.out.lt q hq).1; have := hwB.out.2; omega)))
      have F5 := Lib.hid (F3.out.then_ F1 (fun _ _ h => h))
      clear e9 S4 hch hp F1 G F3
      generalize w3.setChan c cap (List.map (Value.int .i64) (xs.drop (k + 1) ++ xs.take (k + 1))).toArray false (s + 1) r false = w4 at *
      refine opB_nil ?_
      show wpB _ _ _ _ _ _
      refine wpB_of_wp ?_
      have hlt2 := Lib.hid hlt
      go_wp2
      refine ⟨⟨_, _, _, _, _, _, _, _, _, _, _, _, _, _, _, _, _, _, _, _, _, _, _, _, _, k + 1, by go_num, Lib.hid hlt2.out, Lib.hid (by simpa using S5.out), Lib.hid (by have := O5.out; rw [← htkH.out] at this; exact this), F5⟩, by simp [intOf]; omega⟩
    · obtain rfl : k = xs.length := by have := hk.out; omega
      have S1 := S.out
      have O1 := O.out
      rw [List.drop_length, List.take_length, List.nil_append] at S1
      rw [List.take_length] at O1
      have S2 := Lib.hid S1; have O2 := Lib.hid O1
      clear S1 O1 S O hk hlt hk4
      have hxl2 := Lib.hid hxl
      clear hxl
      obtain ⟨n, hn⟩ : ∃ n : Nat, n = xs.length := ⟨_, rfl⟩
      rw [← hn]
      refine wpB_seq_wp (fun K hK => ?_)
      go_wp2
      refine wpB_seq_wp (fun K hK => ?_)
      go_wp2
      refine wpB_of_wp ?_
      clear hK K
      go_wp2
      rw [← hR.out]
      exact ⟨v, rfl, O2.out, S2.out, F.out⟩
end Go.Proofs.Ytkpiphihmmhhpaa
