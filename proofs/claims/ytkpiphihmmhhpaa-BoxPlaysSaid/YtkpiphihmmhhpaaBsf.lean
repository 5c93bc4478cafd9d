/- Boxes of numbers: sifted. No condition. -/
import Derived.Test.YtkpiphihmmhhpaaBa
namespace Go.Proofs.Ytkpiphihmmhhpaa
open Go.RowKit Go.Conc
set_option linter.unusedVariables false
set_option linter.unusedSimpArgs false
set_option maxRecDepth 100000

theorem clo_sifts {w : World} {M : Nat} {m : Int} (h : w.cell? ⟨M, 0, none⟩ = some (.int .i64 m)) (y : Int) :
    Calls Try.prog 41 #[.int .i64 y, .pointer (some ⟨M, 0, none⟩)] w fun e w2 => e = .returned (.bool (decide (bits .and .i64 y m = 0))) ∧ w = w2 := by
  have hw : ∀ (x : Int), bits .and .i64 y m = x → bits .and .i64 y m = x := fun _ h => h
  obtain ⟨q, hq⟩ : ∃ q, bits .and .i64 y m = q := ⟨_, rfl⟩
  go_enter Try.func41, Try.ntmps41
  go_wp2
  go_ret
  have e : (q == 0) = decide (q = 0) := by rw [Bool.eq_iff_iff]; simp
  simp [hq, e]
theorem clo_does {w : World} {M : Nat} {m : Int} (h : w.cell? ⟨M, 1, none⟩ = some (.int .i64 m)) (y : Int) :
    Calls Try.prog 49 #[.int .i64 y, .pointer (some ⟨M, 0, none⟩)] w fun e w2 => e = .returned (.bool (y != m)) ∧ w = w2 := by
  go_enter Try.func49, Try.ntmps49
  go_wp2
  go_ret
  simp

set_option maxHeartbeats 8000000 in
theorem sift_sifts {w : World} {B c cap M : Nat} {xs : List Int} {p : Int → Bool} (h : BoxS w B c cap (xs.map (Value.int .i64))) (hM : M < w.heap.size ∧ M ≠ c)
    (hc : ∀ w' : World, (∀ o, w'.cell? ⟨M, o, none⟩ = w.cell? ⟨M, o, none⟩) → ∀ y : Int, Calls Try.prog 41 #[.int .i64 y, .pointer (some ⟨M, 0, none⟩)] w' fun e w2 => e = .returned (.bool (p y)) ∧ w' = w2) :
    Calls Try.prog 40 #[.pointer (some ⟨B, 0, none⟩), .func (.func 41) #[] #[.pointer (some ⟨M, 0, none⟩)]] w fun e w' => e = .returned (.int .i64 ((xs.length - (xs.filter p).length : Nat) : Int)) ∧ BoxS w' B c cap ((xs.filter p).map (Value.int .i64)) ∧ FrB (fun b => b = c) w w' := by
  obtain ⟨s, r, hch⟩ := h.ch
  have hp := h.p.1
  have hlen := fun ty => run_len_chan (P := Try.prog) 80 ty Try.underlying80 hch
  simp only [List.size_toArray, List.length_map] at hlen
  have hxl : xs.length ≤ 4096 := by have := h.le; simp at this; omega
  have hcap : Hid (xs.length ≤ cap) := Lib.hid (by have := h.le.2; simpa using this)
  have H := Lib.hid h
  obtain ⟨R, hR⟩ : ∃ R : Ending → World → Prop, (fun e w' => e = .returned (.int .i64 ((xs.length - (xs.filter p).length : Nat) : Int)) ∧ BoxS w' B c cap ((xs.filter p).map (Value.int .i64)) ∧ FrB (fun b => b = c) w w') = R := ⟨_, rfl⟩
  rw [hR]
  replace hR := Lib.hid hR
  replace hc := Lib.hid hc
  replace hM := Lib.hid hM
  clear h hch
  refine calls_of_wpB Try.func40 rfl ?_
  simp only [Try.ntmps40, List.size_toArray, List.length_cons, List.length_nil, Nat.reduceAdd, Nat.reduceSub, Array.replicate_succ, Array.replicate_zero, List.push_toArray, List.append_toArray, List.nil_append, List.cons_append]
  refine wpB_seq_wp (fun K hK => ?_)
  go_wp2
  refine wpB_seq_wp (fun K hK => ?_)
  go_wp2
  refine wpB_seq ?_
  refine wpB_seq_wp (fun K hK => ?_)
  go_wp2
  clear hlen hp
  have hwB := Lib.hid H.out.lt
  refine wpB_block ?_
  refine wpB_loop (fun a wr => ∃ (u2 u3 u4 u6 u7 u8 u9 u10 u13 u14 u15 u16 u17 u18 u19 u20 u21 u22 u23 u24 u25 u26 u27 u28 u29 u30 : Value) (n k : Nat), a = { tmps := #[.pointer (some ⟨B, 0, none⟩), .func (.func 41) #[] #[.pointer (some ⟨M, 0, none⟩)], u2, u3, u4, .int .i64 (n : Nat), u6, u7, u8, u9, u10, .int .i64 (xs.length : Nat), .int .i64 (k : Nat), u13, u14, u15, u16, u17, u18, u19, u20, u21, u22, u23, u24, u25, u26, u27, u28, u29, u30], defers := [] } ∧ Hid (k ≤ xs.length) ∧ Hid (n + ((xs.take k).filter p).length = k) ∧ Hid (BoxS wr B c cap ((xs.drop k ++ (xs.take k).filter p).map (Value.int .i64))) ∧ Hid (FrB (fun b => b = c) w wr)) (fun a _ => xs.length - (intOf (a.tmps.getD 12 undef)).toNat) ?_ (fun a wr hI => ?_)
  · exact ⟨_, _, _, _, _, _, _, _, _, _, _, _, _, _, _, _, _, _, _, _, _, _, _, _, _, _, 0, 0, rfl, Lib.hid (Nat.zero_le _), Lib.hid (by simp), Lib.hid (by simpa using H.out), Lib.hid (FrB.refl _ _)⟩
  · obtain ⟨u2, u3, u4, u6, u7, u8, u9, u10, u13, u14, u15, u16, u17, u18, u19, u20, u21, u22, u23, u24, u25, u26, u27, u28, u29, u30, n, k, rfl, hk, hn, S, F⟩ := hI
    have hk4 : k ≤ 4096 := by have := hk.out; omega
    have hn4 : n ≤ 4096 := by have := hn.out; omega
    by_cases hlt : k < xs.length
    · refine wpB_seq_wp (fun K hK => ?_)
      go_wp2
      refine wpB_seq_wp (fun K hK => ?_)
      go_wp2
      have hdr : xs.drop k = xs[k] :: xs.drop (k + 1) := List.drop_eq_getElem_cons hlt
      have htk : xs.take (k + 1) = xs.take k ++ [xs[k]] := List.take_succ_eq_append_getElem hlt
      obtain ⟨y, hy⟩ : ∃ y, y = xs[k] := ⟨_, rfl⟩
      rw [← hy] at hdr htk
      obtain ⟨T, hT⟩ : ∃ T, T = (xs.take k).filter p := ⟨_, rfl⟩
      obtain ⟨D, hD⟩ : ∃ D, D = xs.drop (k + 1) := ⟨_, rfl⟩
      have hlD := congrArg List.length hD
      rw [List.length_drop] at hlD
      have S1 := S.out
      rw [hdr, ← hT, ← hD] at S1
      have hn1 := hn.out
      rw [← hT] at hn1
      have hroom := Lib.hid (show (D ++ T).length < cap by have := hcap.out; rw [List.length_append]; omega)
      replace hn1 := Lib.hid hn1
      rw [show List.map (Value.int .i64) (y :: D ++ T) = Value.int .i64 y :: List.map (Value.int .i64) (D ++ T) from rfl] at S1
      obtain ⟨s, r, hch⟩ := S1.ch
      replace hch := Lib.hid hch
      have hp := S1.p.1
      have S1 := Lib.hid S1
      have hyH := Lib.hid hy; have hdrH := Lib.hid hdr; have htkH := Lib.hid htk
      replace hT := Lib.hid hT; replace hD := Lib.hid hD; replace hlD := Lib.hid hlD
      clear hy hdr htk S hn
      refine wpB_seq ?_
      refine wpB_block ?_
      refine wpB_seq ?_
      refine wpB_region ?_
      show opB _ _ _ _ [0, 1, 2, 3, 4, 5] _ _
      refine opB_op rfl rfl (fun K hK => ?_)
      unfold valB
      go_simp
      refine hK _ _ ?_
      clear hK K
      refine opB_op rfl rfl (fun K hK => ?_)
      unfold valB
      go_simp
      refine hK _ _ ?_
      clear hK K
      refine opB_op rfl rfl (fun K hK => ?_)
      unfold valB
      go_simp
      refine hK _ _ ?_
      clear hK K
      refine opB_op rfl rfl (fun K hK => ?_)
      unfold valB
      go_simp
      refine hK _ _ ?_
      clear hK K
      refine opB_recv (c := c) (z := .int .i64 0) rfl rfl (by decide) (by first | (simp [go_sem, execOp, rcase, Act.eval]; done) | (simp [go_sem, execOp, rcase, Act.eval]; rfl)) hch.out (by simp) ?_
      have e9 := ext_one (Value.int .i64 y) (List.map (Value.int .i64) (D ++ T))
      have e8 := get_one (Value.int .i64 y) (List.map (Value.int .i64) (D ++ T))
      rw [e9, e8]
      have S2 := Lib.hid (S1.out.set (buf' := (D ++ T).map (Value.int .i64)) (by have := hroom.out; rw [List.length_map]; omega) s (r + 1))
      have F1 := frb_setChan wr c cap (List.map (Value.int .i64) (D ++ T)).toArray false s (r + 1) false
      have F2 := Lib.hid (F.out.then_ F1 (fun _ _ h => h))
      clear e9 e8 S1 hch hp F1 F
      generalize wr.setChan c cap (List.map (Value.int .i64) (D ++ T)).toArray false s (r + 1) false = w2 at *
      have hcy := Lib.hid (hc.out w2 (fun o => by
        have := F2.out.block M hM.out.1 hM.out.2
        simp only [World.cell?, this]) y)
      refine opB_op rfl rfl (fun K hK => ?_)
      unfold valB
      go_simp
      refine hK _ _ ?_
      clear hK K
      refine opB_nil ?_
      show wpB _ _ _ _ _ _
      refine wpB_seq_wp (fun K hK => ?_)
      go_wp2_with fail
      refine hcy.out.mono ?_
      rintro e w3 ⟨rfl, rfl⟩
      cases hpy : p y with
      | true =>
        have htk2 : Hid ((xs.take (k + 1)).filter p = T ++ [y]) := Lib.hid (by rw [htkH.out, List.filter_append, ← hT.out]; simp [hpy])
        replace hpy := Lib.hid hpy
        go_wp2
        obtain ⟨s, r, hch⟩ := S2.out.ch
        replace hch := Lib.hid hch
        have hp := S2.out.p.1
        refine wpB_cond rfl ?_
        rw [if_pos rfl]
        refine wpB_region ?_
        show opB _ _ _ _ [0, 1, 2, 3, 4, 5] _ _
        refine opB_op rfl rfl (fun K hK => ?_)
        unfold valB
        go_simp
        refine hK _ _ ?_
        clear hK K
        refine opB_op rfl rfl (fun K hK => ?_)
        unfold valB
        go_simp
        refine hK _ _ ?_
        clear hK K
        refine opB_op rfl rfl (fun K hK => ?_)
        unfold valB
        go_simp
        refine hK _ _ ?_
        clear hK K
        refine opB_op rfl rfl (fun K hK => ?_)
        unfold valB
        go_simp
        refine hK _ _ ?_
        clear hK K
        refine opB_op rfl rfl (fun K hK => ?_)
        unfold valB
        go_simp
        refine hK _ _ ?_
        clear hK K
        refine opB_send (c := c) (v := .int .i64 y) rfl rfl (by decide) (by first | (simp [go_sem, execOp, scase, Act.eval]; done) | (simp [go_sem, execOp, scase, Act.eval]; rfl)) hch.out (by have := hroom.out; simp at this ⊢; omega) ?_
        have e9 : ((List.map (Value.int .i64) (D ++ T)).toArray).push (.int .i64 y) = (List.map (Value.int .i64) (D ++ (T ++ [y]))).toArray := by simp
        rw [e9]
        have S5 := Lib.hid (S2.out.set (buf' := (D ++ (T ++ [y])).map (Value.int .i64)) (by have := hroom.out; simp at this ⊢; omega) (s + 1) r)
        have F1 := frb_setChan w2 c cap (List.map (Value.int .i64) (D ++ (T ++ [y]))).toArray false (s + 1) r false
        have F5 := Lib.hid (F2.out.then_ F1 (fun _ _ h => h))
        clear e9 S2 hch hp F1 F2
        generalize w2.setChan c cap (List.map (Value.int .i64) (D ++ (T ++ [y]))).toArray false (s + 1) r false = w4 at *
        refine opB_nil ?_
        show wpB _ _ _ _ _ _
        refine wpB_of_wp ?_
        have hlt2 := Lib.hid hlt
        go_wp2
        refine ⟨⟨_, _, _, _, _, _, _, _, _, _, _, _, _, _, _, _, _, _, _, _, _, _, _, _, _, _, n, k + 1, by go_num, Lib.hid hlt2.out, Lib.hid (by rw [htk2.out]; have := hn1.out; simp; omega), Lib.hid (by have h5 := S5.out; rw [hD.out] at h5; rw [htk2.out]; simpa using h5), F5⟩, by simp [intOf]; omega⟩
      | false =>
        have htk2 : Hid ((xs.take (k + 1)).filter p = T) := Lib.hid (by rw [htkH.out, List.filter_append, ← hT.out]; simp [hpy])
        replace hpy := Lib.hid hpy
        go_wp2
        refine wpB_cond rfl ?_
        rw [if_neg (by decide)]
        refine wpB_of_wp ?_
        have hlt2 := Lib.hid hlt
        go_wp2
        refine wpB_of_wp ?_
        go_wp2
        refine ⟨⟨_, _, _, _, _, _, _, _, _, _, _, _, _, _, _, _, _, _, _, _, _, _, _, _, _, _, n + 1, k + 1, by go_num, Lib.hid hlt2.out, Lib.hid (by rw [htk2.out]; have := hn1.out; omega), Lib.hid (by have h5 := S2.out; rw [hD.out] at h5; rw [htk2.out]; simpa using h5), F2⟩, by simp [intOf]; omega⟩
    · obtain rfl : k = xs.length := by have := hk.out; omega
      have S1 := S.out
      have hn1 := hn.out
      rw [List.take_length] at hn1
      rw [List.drop_length, List.take_length, List.nil_append] at S1
      have S2 := Lib.hid S1
      replace hn1 := Lib.hid hn1
      clear S1 S hk hlt hk4 hn
      have hxl2 := Lib.hid hxl
      clear hxl
      obtain ⟨m, hm⟩ : ∃ m : Nat, m = xs.length := ⟨_, rfl⟩
      rw [← hm]
      refine wpB_seq_wp (fun K hK => ?_)
      go_wp2
      refine wpB_seq_wp (fun K hK => ?_)
      go_wp2
      refine wpB_of_wp ?_
      clear hK K
      go_wp2
      rw [← hR.out]
      exact ⟨by have := hn1.out; rw [show xs.length - (xs.filter p).length = n by omega]; rfl, S2.out, F.out⟩

set_option maxHeartbeats 8000000 in
theorem sift_does {w : World} {B c cap M : Nat} {xs : List Int} {p : Int → Bool} (h : BoxS w B c cap (xs.map (Value.int .i64))) (hM : M < w.heap.size ∧ M ≠ c)
    (hc : ∀ w' : World, (∀ o, w'.cell? ⟨M, o, none⟩ = w.cell? ⟨M, o, none⟩) → ∀ y : Int, Calls Try.prog 49 #[.int .i64 y, .pointer (some ⟨M, 0, none⟩)] w' fun e w2 => e = .returned (.bool (p y)) ∧ w' = w2) :
    Calls Try.prog 40 #[.pointer (some ⟨B, 0, none⟩), .func (.func 49) #[] #[.pointer (some ⟨M, 0, none⟩)]] w fun e w' => e = .returned (.int .i64 ((xs.length - (xs.filter p).length : Nat) : Int)) ∧ BoxS w' B c cap ((xs.filter p).map (Value.int .i64)) ∧ FrB (fun b => b = c) w w' := by
  obtain ⟨s, r, hch⟩ := h.ch
  have hp := h.p.1
  have hlen := fun ty => run_len_chan (P := Try.prog) 80 ty Try.underlying80 hch
  simp only [List.size_toArray, List.length_map] at hlen
  have hxl : xs.length ≤ 4096 := by have := h.le; simp at this; omega
  have hcap : Hid (xs.length ≤ cap) := Lib.hid (by have := h.le.2; simpa using this)
  have H := Lib.hid h
  obtain ⟨R, hR⟩ : ∃ R : Ending → World → Prop, (fun e w' => e = .returned (.int .i64 ((xs.length - (xs.filter p).length : Nat) : Int)) ∧ BoxS w' B c cap ((xs.filter p).map (Value.int .i64)) ∧ FrB (fun b => b = c) w w') = R := ⟨_, rfl⟩
  rw [hR]
  replace hR := Lib.hid hR
  replace hc := Lib.hid hc
  replace hM := Lib.hid hM
  clear h hch
  refine calls_of_wpB Try.func40 rfl ?_
  simp only [Try.ntmps40, List.size_toArray, List.length_cons, List.length_nil, Nat.reduceAdd, Nat.reduceSub, Array.replicate_succ, Array.replicate_zero, List.push_toArray, List.append_toArray, List.nil_append, List.cons_append]
  refine wpB_seq_wp (fun K hK => ?_)
  go_wp2
  refine wpB_seq_wp (fun K hK => ?_)
  go_wp2
  refine wpB_seq ?_
  refine wpB_seq_wp (fun K hK => ?_)
  go_wp2
  clear hlen hp
  have hwB := Lib.hid H.out.lt
  refine wpB_block ?_
  refine wpB_loop (fun a wr => ∃ (u2 u3 u4 u6 u7 u8 u9 u10 u13 u14 u15 u16 u17 u18 u19 u20 u21 u22 u23 u24 u25 u26 u27 u28 u29 u30 : Value) (n k : Nat), a = { tmps := #[.pointer (some ⟨B, 0, none⟩), .func (.func 49) #[] #[.pointer (some ⟨M, 0, none⟩)], u2, u3, u4, .int .i64 (n : Nat), u6, u7, u8, u9, u10, .int .i64 (xs.length : Nat), .int .i64 (k : Nat), u13, u14, u15, u16, u17, u18, u19, u20, u21, u22, u23, u24, u25, u26, u27, u28, u29, u30], defers := [] } ∧ Hid (k ≤ xs.length) ∧ Hid (n + ((xs.take k).filter p).length = k) ∧ Hid (BoxS wr B c cap ((xs.drop k ++ (xs.take k).filter p).map (Value.int .i64))) ∧ Hid (FrB (fun b => b = c) w wr)) (fun a _ => xs.length - (intOf (a.tmps.getD 12 undef)).toNat) ?_ (fun a wr hI => ?_)
  · exact ⟨_, _, _, _, _, _, _, _, _, _, _, _, _, _, _, _, _, _, _, _, _, _, _, _, _, _, 0, 0, rfl, Lib.hid (Nat.zero_le _), Lib.hid (by simp), Lib.hid (by simpa using H.out), Lib.hid (FrB.refl _ _)⟩
  · obtain ⟨u2, u3, u4, u6, u7, u8, u9, u10, u13, u14, u15, u16, u17, u18, u19, u20, u21, u22, u23, u24, u25, u26, u27, u28, u29, u30, n, k, rfl, hk, hn, S, F⟩ := hI
    have hk4 : k ≤ 4096 := by have := hk.out; omega
    have hn4 : n ≤ 4096 := by have := hn.out; omega
    by_cases hlt : k < xs.length
    · refine wpB_seq_wp (fun K hK => ?_)
      go_wp2
      refine wpB_seq_wp (fun K hK => ?_)
      go_wp2
      have hdr : xs.drop k = xs[k] :: xs.drop (k + 1) := List.drop_eq_getElem_cons hlt
      have htk : xs.take (k + 1) = xs.take k ++ [xs[k]] := List.take_succ_eq_append_getElem hlt
      obtain ⟨y, hy⟩ : ∃ y, y = xs[k] := ⟨_, rfl⟩
      rw [← hy] at hdr htk
      obtain ⟨T, hT⟩ : ∃ T, T = (xs.take k).filter p := ⟨_, rfl⟩
      obtain ⟨D, hD⟩ : ∃ D, D = xs.drop (k + 1) := ⟨_, rfl⟩
      have hlD := congrArg List.length hD
      rw [List.length_drop] at hlD
      have S1 := S.out
      rw [hdr, ← hT, ← hD] at S1
      have hn1 := hn.out
      rw [← hT] at hn1
      have hroom := Lib.hid (show (D ++ T).length < cap by have := hcap.out; rw [List.length_append]; omega)
      replace hn1 := Lib.hid hn1
      rw [show List.map (Value.int .i64) (y :: D ++ T) = Value.int .i64 y :: List.map (Value.int .i64) (D ++ T) from rfl] at S1
      obtain ⟨s, r, hch⟩ := S1.ch
      replace hch := Lib.hid hch
      have hp := S1.p.1
      have S1 := Lib.hid S1
      have hyH := Lib.hid hy; have hdrH := Lib.hid hdr; have htkH := Lib.hid htk
      replace hT := Lib.hid hT; replace hD := Lib.hid hD; replace hlD := Lib.hid hlD
      clear hy hdr htk S hn
      refine wpB_seq ?_
      refine wpB_block ?_
      refine wpB_seq ?_
      refine wpB_region ?_
      show opB _ _ _ _ [0, 1, 2, 3, 4, 5] _ _
      refine opB_op rfl rfl (fun K hK => ?_)
      unfold valB
      go_simp
      refine hK _ _ ?_
      clear hK K
      refine opB_op rfl rfl (fun K hK => ?_)
      unfold valB
      go_simp
      refine hK _ _ ?_
      clear hK K
      refine opB_op rfl rfl (fun K hK => ?_)
      unfold valB
      go_simp
      refine hK _ _ ?_
      clear hK K
      refine opB_op rfl rfl (fun K hK => ?_)
      unfold valB
      go_simp
      refine hK _ _ ?_
      clear hK K
      refine opB_recv (c := c) (z := .int .i64 0) rfl rfl (by decide) (by first | (simp [go_sem, execOp, rcase, Act.eval]; done) | (simp [go_sem, execOp, rcase, Act.eval]; rfl)) hch.out (by simp) ?_
      have e9 := ext_one (Value.int .i64 y) (List.map (Value.int .i64) (D ++ T))
      have e8 := get_one (Value.int .i64 y) (List.map (Value.int .i64) (D ++ T))
      rw [e9, e8]
      have S2 := Lib.hid (S1.out.set (buf' := (D ++ T).map (Value.int .i64)) (by have := hroom.out; rw [List.length_map]; omega) s (r + 1))
      have F1 := frb_setChan wr c cap (List.map (Value.int .i64) (D ++ T)).toArray false s (r + 1) false
      have F2 := Lib.hid (F.out.then_ F1 (fun _ _ h => h))
      clear e9 e8 S1 hch hp F1 F
      generalize wr.setChan c cap (List.map (Value.int .i64) (D ++ T)).toArray false s (r + 1) false = w2 at *
      have hcy := Lib.hid (hc.out w2 (fun o => by
        have := F2.out.block M hM.out.1 hM.out.2
        simp only [World.cell?, this]) y)
      refine opB_op rfl rfl (fun K hK => ?_)
      unfold valB
      go_simp
      refine hK _ _ ?_
      clear hK K
      refine opB_nil ?_
      show wpB _ _ _ _ _ _
      refine wpB_seq_wp (fun K hK => ?_)
      go_wp2_with fail
      refine hcy.out.mono ?_
      rintro e w3 ⟨rfl, rfl⟩
      cases hpy : p y with
      | true =>
        have htk2 : Hid ((xs.take (k + 1)).filter p = T ++ [y]) := Lib.hid (by rw [htkH.out, List.filter_append, ← hT.out]; simp [hpy])
        replace hpy := Lib.hid hpy
        go_wp2
        obtain ⟨s, r, hch⟩ := S2.out.ch
        replace hch := Lib.hid hch
        have hp := S2.out.p.1
        refine wpB_cond rfl ?_
        rw [if_pos rfl]
        refine wpB_region ?_
        show opB _ _ _ _ [0, 1, 2, 3, 4, 5] _ _
        refine opB_op rfl rfl (fun K hK => ?_)
        unfold valB
        go_simp
        refine hK _ _ ?_
        clear hK K
        refine opB_op rfl rfl (fun K hK => ?_)
        unfold valB
        go_simp
        refine hK _ _ ?_
        clear hK K
        refine opB_op rfl rfl (fun K hK => ?_)
        unfold valB
        go_simp
        refine hK _ _ ?_
        clear hK K
        refine opB_op rfl rfl (fun K hK => ?_)
        unfold valB
        go_simp
        refine hK _ _ ?_
        clear hK K
        refine opB_op rfl rfl (fun K hK => ?_)
        unfold valB
        go_simp
        refine hK _ _ ?_
        clear hK K
        refine opB_send (c := c) (v := .int .i64 y) rfl rfl (by decide) (by first | (simp [go_sem, execOp, scase, Act.eval]; done) | (simp [go_sem, execOp, scase, Act.eval]; rfl)) hch.out (by have := hroom.out; simp at this ⊢; omega) ?_
        have e9 : ((List.map (Value.int .i64) (D ++ T)).toArray).push (.int .i64 y) = (List.map (Value.int .i64) (D ++ (T ++ [y]))).toArray := by simp
        rw [e9]
        have S5 := Lib.hid (S2.out.set (buf' := (D ++ (T ++ [y])).map (Value.int .i64)) (by have := hroom.out; simp at this ⊢; omega) (s + 1) r)
        have F1 := frb_setChan w2 c cap (List.map (Value.int .i64) (D ++ (T ++ [y]))).toArray false (s + 1) r false
        have F5 := Lib.hid (F2.out.then_ F1 (fun _ _ h => h))
        clear e9 S2 hch hp F1 F2
        generalize w2.setChan c cap (List.map (Value.int .i64) (D ++ (T ++ [y]))).toArray false (s + 1) r false = w4 at *
        refine opB_nil ?_
        show wpB _ _ _ _ _ _
        refine wpB_of_wp ?_
        have hlt2 := Lib.hid hlt
        go_wp2
        refine ⟨⟨_, _, _, _, _, _, _, _, _, _, _, _, _, _, _, _, _, _, _, _, _, _, _, _, _, _, n, k + 1, by go_num, Lib.hid hlt2.out, Lib.hid (by rw [htk2.out]; have := hn1.out; simp; omega), Lib.hid (by have h5 := S5.out; rw [hD.out] at h5; rw [htk2.out]; simpa using h5), F5⟩, by simp [intOf]; omega⟩
      | false =>
        have htk2 : Hid ((xs.take (k + 1)).filter p = T) := Lib.hid (by rw [htkH.out, List.filter_append, ← hT.out]; simp [hpy])
        replace hpy := Lib.hid hpy
        go_wp2
        refine wpB_cond rfl ?_
        rw [if_neg (by decide)]
        refine wpB_of_wp ?_
        have hlt2 := Lib.hid hlt
        go_wp2
        refine wpB_of_wp ?_
        go_wp2
        refine ⟨⟨_, _, _, _, _, _, _, _, _, _, _, _, _, _, _, _, _, _, _, _, _, _, _, _, _, _, n + 1, k + 1, by go_num, Lib.hid hlt2.out, Lib.hid (by rw [htk2.out]; have := hn1.out; omega), Lib.hid (by have h5 := S2.out; rw [hD.out] at h5; rw [htk2.out]; simpa using h5), F2⟩, by simp [intOf]; omega⟩
    · obtain rfl : k = xs.length := by have := hk.out; omega
      have S1 := S.out
      have hn1 := hn.out
      rw [List.take_length] at hn1
      rw [List.drop_length, List.take_length, List.nil_append] at S1
      have S2 := Lib.hid S1
      replace hn1 := Lib.hid hn1
      clear S1 S hk hlt hk4 hn
      have hxl2 := Lib.hid hxl
      clear hxl
      obtain ⟨m, hm⟩ : ∃ m : Nat, m = xs.length := ⟨_, rfl⟩
      rw [← hm]
      refine wpB_seq_wp (fun K hK => ?_)
      go_wp2
      refine wpB_seq_wp (fun K hK => ?_)
      go_wp2
      refine wpB_of_wp ?_
      clear hK K
      go_wp2
      rw [← hR.out]
      exact ⟨by have := hn1.out; rw [show xs.length - (xs.filter p).length = n by omega]; rfl, S2.out, F.out⟩
end Go.Proofs.Ytkpiphihmmhhpaa
