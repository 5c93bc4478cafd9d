/- Boxes of notes: sifted. No condition. -/
import Derived.Test.YtblapbnplflghaaPb
import Derived.Test.YtblapbnplflghaaCommD
namespace Go.Proofs.Ytblapbnplflghaa
open Go.RowKit Go.Conc
set_option linter.unusedVariables false
set_option linter.unusedSimpArgs false
set_option maxRecDepth 100000

theorem ext_one (v : Value) (L : List Value) : ((v :: L).toArray).extract 1 ((v :: L).toArray).size = L.toArray := by simp
theorem get_one (v : Value) (L : List Value) : ((v :: L).toArray).getD 0 undef = v := by simp
theorem clo_close {w : World} {M : Nat} {m : Int} (h : w.cell? ⟨M, 0, none⟩ = some (.int .i64 m)) (y : Int × Int) :
    Calls Try.prog 32 #[ntV y, .pointer (some ⟨M, 0, none⟩)] w fun e w2 => e = .returned (.bool (y.1 != m)) ∧ Below w.heap.size w w2 := by
  obtain ⟨y1, y2⟩ := y
  have hlt := World.block_lt_of_cell? w _ h
  replace hlt : M < w.heap.size := hlt
  have hne : ¬ (M = w.heap.size) := by omega
  have B0 := Lib.hid (Below.alloc (Below.refl w.heap.size w) (Nat.le_refl _) (.cells #[.int .i64 y1, .int .i64 y2] 67))
  go_enter Try.func32, Try.ntmps32
  go_wp2
  go_ret
  exact ⟨rfl, B0.out⟩

set_option maxHeartbeats 8000000 in
theorem sift_note {w : World} {B c cap M : Nat} {xs : List (Int × Int)} {p : Int × Int → Bool} (h : BoxS w B c cap (xs.map ntV)) (hM : M < w.heap.size ∧ M ≠ c)
    (hc : ∀ w' : World, (∀ o, w'.cell? ⟨M, o, none⟩ = w.cell? ⟨M, o, none⟩) → ∀ y : Int × Int, Calls Try.prog 32 #[ntV y, .pointer (some ⟨M, 0, none⟩)] w' fun e w2 => e = .returned (.bool (p y)) ∧ Below w'.heap.size w' w2) :
    Calls Try.prog 31 #[.pointer (some ⟨B, 0, none⟩), .func (.func 32) #[] #[.pointer (some ⟨M, 0, none⟩)]] w fun e w' => e = .returned (.int .i64 ((xs.length - (xs.filter p).length : Nat) : Int)) ∧ BoxS w' B c cap ((xs.filter p).map ntV) ∧ FrB (fun b => b = c) w w' := by
  obtain ⟨s, r, hch⟩ := h.ch
  have hp := h.p.1
  have hlen := fun ty => run_len_chan (P := Try.prog) 95 ty Try.underlying95 hch
  simp only [List.size_toArray, List.length_map] at hlen
  have hxl : xs.length ≤ 4096 := by have := h.le; simp at this; omega
  have hcap : Hid (xs.length ≤ cap) := Lib.hid (by have := h.le.2; simpa using this)
  have H := Lib.hid h
  obtain ⟨R, hR⟩ : ∃ R : Ending → World → Prop, (fun e w' => e = .returned (.int .i64 ((xs.length - (xs.filter p).length : Nat) : Int)) ∧ BoxS w' B c cap ((xs.filter p).map ntV) ∧ FrB (fun b => b = c) w w') = R := ⟨_, rfl⟩
  rw [hR]
  replace hR := Lib.hid hR
  replace hc := Lib.hid hc
  replace hM := Lib.hid hM
  clear h hch
  refine calls_of_wpB Try.func31 rfl ?_
  simp only [Try.ntmps31, List.size_toArray, List.length_cons, List.length_nil, Nat.reduceAdd, Nat.reduceSub, Array.replicate_succ, Array.replicate_zero, List.push_toArray, List.append_toArray, List.nil_append, List.cons_append]
  refine wpB_seq_wp (fun K hK => ?_)
  go_wp2
  refine wpB_seq_wp (fun K hK => ?_)
  go_wp2
  refine wpB_seq ?_
  refine wpB_seq_wp (fun K hK => ?_)
  go_wp2
  clear hlen hp
  have hwB := Lib.hid H.out.lt
  refine wpB_block ?_
  refine wpB_loop (fun a wr => ∃ (u2 u3 u4 u6 u7 u8 u9 u10 u13 u14 u15 u16 u17 u18 u19 u20 u21 u22 u23 u24 u25 u26 u27 u28 u29 u30 : Value) (n k : Nat), a = { tmps := #[.pointer (some ⟨B, 0, none⟩), .func (.func 32) #[] #[.pointer (some ⟨M, 0, none⟩)], u2, u3, u4, .int .i64 (n : Nat), u6, u7, u8, u9, u10, .int .i64 (xs.length : Nat), .int .i64 (k : Nat), u13, u14, u15, u16, u17, u18, u19, u20, u21, u22, u23, u24, u25, u26, u27, u28, u29, u30], defers := [] } ∧ Hid (k ≤ xs.length) ∧ Hid (n + ((xs.take k).filter p).length = k) ∧ Hid (BoxS wr B c cap ((xs.drop k ++ (xs.take k).filter p).map ntV)) ∧ Hid (FrB (fun b => b = c) w wr)) (fun a _ => xs.length - (intOf (a.tmps.getD 12 undef)).toNat) ?_ (fun a wr hI => ?_)
  · exact ⟨_, _, _, _, _, _, _, _, _, _, _, _, _, _, _, _, _, _, _, _, _, _, _, _, _, _, 0, 0, rfl, Lib.hid (Nat.zero_le _), Lib.hid (by simp), Lib.hid (by simpa using H.out), Lib.hid (FrB.refl _ _)⟩
  · obtain ⟨u2, u3, u4, u6, u7, u8, u9, u10, u13, u14, u15, u16, u17, u18, u19, u20, u21, u22, u23, u24, u25, u26, u27, u28, u29, u30, n, k, rfl, hk, hn, S, F⟩ := hI
    have hk4 : k ≤ 4096 := by have := hk.out; omega
    have hn4 : n ≤ 4096 := by have := hn.out; omega
    by_cases hlt : k < xs.length
    · refine wpB_seq_wp (fun K hK => ?_)
      go_wp2
      refine wpB_seq_wp (fun K hK => ?_)
      go_wp2
      have hdr : xs.drop k = xs[k] :: xs.drop (k + 1) := List.drop_eq_getElem_cons hlt
      have htk : xs.take (k + 1) = xs.take k ++ [xs[k]] := List.take_succ_eq_append_getElem hlt
      obtain ⟨y, hy⟩ : ∃ y, y = xs[k] := ⟨_, rfl⟩
      rw [← hy] at hdr htk
      obtain ⟨T, hT⟩ : ∃ T, T = (xs.take k).filter p := ⟨_, rfl⟩
      obtain ⟨D, hD⟩ : ∃ D, D = xs.drop (k + 1) := ⟨_, rfl⟩
      have hlD := congrArg List.length hD
      rw [List.length_drop] at hlD
      have S1 := S.out
      rw [hdr, ← hT, ← hD] at S1
      have hn1 := hn.out
      rw [← hT] at hn1
      have hroom := Lib.hid (show (D ++ T).length < cap by have := hcap.out; rw [List.length_append]; omega)
      replace hn1 := Lib.hid hn1
      rw [show List.map ntV (y :: D ++ T) = ntV y :: List.map ntV (D ++ T) from rfl] at S1
      obtain ⟨s, r, hch⟩ := S1.ch
      replace hch := Lib.hid hch
      have hp := S1.p.1
      have S1 := Lib.hid S1
      have hyH := Lib.hid hy; have hdrH := Lib.hid hdr; have htkH := Lib.hid htk
      replace hT := Lib.hid hT; replace hD := Lib.hid hD; replace hlD := Lib.hid hlD
      clear hy hdr htk S hn
      refine wpB_seq ?_
      refine wpB_block ?_
      refine wpB_seq ?_
      refine wpB_region ?_
      show opB _ _ _ _ [0, 1, 2, 3, 4, 5, 6] _ _
      refine opB_op rfl rfl (fun K hK => ?_)
      unfold valB
      go_simp
      refine hK _ _ ?_
      clear hK K
      refine opB_op rfl rfl (fun K hK => ?_)
      unfold valB
      go_simp
      refine hK _ _ ?_
      clear hK K
      refine opB_op rfl rfl (fun K hK => ?_)
      unfold valB
      go_simp
      refine hK _ _ ?_
      clear hK K
      refine opB_op rfl rfl (fun K hK => ?_)
      unfold valB
      go_simp
      refine hK _ _ ?_
      clear hK K
      refine opB_recv (c := c) (z := .agg #[.int .i64 0, .int .i64 0]) rfl rfl (by decide) (by first | (simp [go_sem, execOp, rcase, Act.eval]; done) | (simp [go_sem, execOp, rcase, Act.eval]; rfl)) hch.out (by simp) ?_
      have e9 := ext_one (ntV y) (List.map ntV (D ++ T))
      have e8 := get_one (ntV y) (List.map ntV (D ++ T))
      rw [e9, e8]
      have S2 := Lib.hid (S1.out.set (buf' := (D ++ T).map ntV) (by have := hroom.out; rw [List.length_map]; omega) s (r + 1))
      have F1 := frb_setChan wr c cap (List.map ntV (D ++ T)).toArray false s (r + 1) false
      have F2 := Lib.hid (F.out.then_ F1 (fun _ _ h => h))
      clear e9 e8 S1 hch hp F1 F
      generalize wr.setChan c cap (List.map ntV (D ++ T)).toArray false s (r + 1) false = w2 at *
      have S3 := Lib.hid (S2.out.alloc (.cells #[.int .i64 y.1, .int .i64 y.2] 67))
      have F3 := Lib.hid (FrB.allc F2.out (.cells #[.int .i64 y.1, .int .i64 y.2] 67))
      have z0 := Lib.hid (Cel.new w2 #[.int .i64 y.1, .int .i64 y.2] 67 0 (.int .i64 y.1) rfl)
      have z1 := Lib.hid (Cel.new w2 #[.int .i64 y.1, .int .i64 y.2] 67 1 (.int .i64 y.2) rfl)
      have hz : Hid (w2.heap.size ≠ c ∧ w2.heap.size < (w2.alloc (.cells #[.int .i64 y.1, .int .i64 y.2] 67)).heap.size) := Lib.hid ⟨by have := S2.out.lt; omega, by simp⟩
      refine opB_op rfl rfl (fun K hK => ?_)
      unfold valB
      go_simp
      refine hK _ _ ?_
      clear hK K
      refine opB_op rfl rfl (fun K hK => ?_)
      unfold valB
      go_simp
      refine hK _ _ ?_
      clear hK K
      refine opB_nil ?_
      show wpB _ _ _ _ _ _
      clear S2 F2
      generalize w2.alloc (.cells #[.int .i64 y.1, .int .i64 y.2] 67) = w3 at *
      generalize w2.heap.size = Z at *
      have hcy := Lib.hid (hc.out w3 (fun o => by
        have := F3.out.block M hM.out.1 hM.out.2
        simp only [World.cell?, this]) y)
      have z0a := z0.out.1; have z1a := z1.out.1
      refine wpB_seq_wp (fun K hK => ?_)
      go_wp2_with fail
      refine hcy.out.mono ?_
      rintro e w4 ⟨rfl, F4⟩
      have S4 := Lib.hid (S3.out.below F4)
      have F5 := Lib.hid (F3.out.then_ (FrB.of_below (S := fun b => b = c) F4 (Nat.le_refl _)) (fun _ _ h => h))
      replace z0 := Lib.hid (z0.out.frb (FrB.of_below (S := fun _ => False) F4 (Nat.le_refl _)) (fun h => h))
      replace z1 := Lib.hid (z1.out.frb (FrB.of_below (S := fun _ => False) F4 (Nat.le_refl _)) (fun h => h))
      clear z0a z1a F4 S3 F3 hcy
      cases hpy : p y with
      | true =>
        have htk2 : Hid ((xs.take (k + 1)).filter p = T ++ [y]) := Lib.hid (by rw [htkH.out, List.filter_append, ← hT.out]; simp [hpy])
        replace hpy := Lib.hid hpy
        go_wp2
        obtain ⟨s, r, hch⟩ := S4.out.ch
        replace hch := Lib.hid hch
        have hp := S4.out.p.1
        have z0a := z0.out.1; have z1a := z1.out.1
        refine wpB_cond rfl ?_
        rw [if_pos rfl]
        have e9 : ((List.map ntV (D ++ T)).toArray).push (ntV y) = (List.map ntV (D ++ (T ++ [y]))).toArray := by simp
        replace e9 := Lib.hid e9
        have hch' : Hid (w4.drew.heap[c]? = some (.chan cap (List.map ntV (D ++ T)).toArray false s r false)) := hch
        have hpd : w4.drew.cell? ⟨B, 0, none⟩ = some (.chan (some c)) := hp
        have z0d : w4.drew.cell? ⟨Z, 0, none⟩ = some (.int .i64 y.1) := z0a
        have z1d : w4.drew.cell? ⟨Z, 1, none⟩ = some (.int .i64 y.2) := z1a
        replace S4 := Lib.hid (S4.out.below (w' := w4.drew) ⟨rfl, rfl, rfl, Nat.le_refl _, fun _ _ => rfl⟩)
        replace F5 := Lib.hid (show FrB (fun b => b = c) w w4.drew from ⟨F5.out.os, F5.out.tape, F5.out.output, F5.out.size, F5.out.block⟩)
        clear hp z0a z1a hch z0 z1
        obtain ⟨w5, hw5⟩ : ∃ w5, w4.drew = w5 := ⟨_, rfl⟩
        rw [hw5] at hch' hpd z0d z1d S4 F5
        refine wpB_regionD1 (w5.setChan c cap (List.map ntV (D ++ (T ++ [y]))).toArray false (s + 1) r false) [(some 22, .pointer (some ⟨B, 0, none⟩)), (some 23, .pointer (some ⟨B, 0, none⟩)), (some 24, .pointer (some ⟨B, 0, none⟩)), (some 25, .chan (some c)), (some 26, ntV y)] hw5 (by kernel_rfl) [[0, 1, 2, 3, 4, 5], [0, 1, 2, 4, 3, 5], [0, 1, 4, 2, 3, 5], [0, 4, 1, 2, 3, 5], [4, 0, 1, 2, 3, 5]] (by kernel_rfl) (fun l hl => ?hone) ?hrest
        case hone =>
          simp only [List.mem_cons, List.mem_nil_iff, or_false] at hl
          rcases hl with rfl | rfl | rfl | rfl | rfl
          all_goals
            refine opB_op rfl rfl (fun K hK => ?_)
            unfold valB
            go_simp
            refine hK _ _ ?_
            clear hK K
            refine opB_op rfl rfl (fun K hK => ?_)
            unfold valB
            go_simp
            refine hK _ _ ?_
            clear hK K
            refine opB_op rfl rfl (fun K hK => ?_)
            unfold valB
            go_simp
            refine hK _ _ ?_
            clear hK K
            refine opB_op rfl rfl (fun K hK => ?_)
            unfold valB
            go_simp
            refine hK _ _ ?_
            clear hK K
            refine opB_op rfl rfl (fun K hK => ?_)
            unfold valB
            go_simp
            refine hK _ _ ?_
            clear hK K
            refine opB_send (c := c) (v := ntV y) rfl rfl (by decide) (by first | (simp [go_sem, execOp, scase, Act.eval]; done) | (simp [go_sem, execOp, scase, Act.eval]; rfl)) hch'.out (by have := hroom.out; simp at this ⊢; omega) ?_
            refine opB_nil ?_
            rw [e9.out]
            exact ⟨rfl, rfl, rfl⟩
        clear hw5
        have S5 := Lib.hid (S4.out.set (buf' := (D ++ (T ++ [y])).map ntV) (by have := hroom.out; simp at this ⊢; omega) (s + 1) r)
        have F1 := frb_setChan w5 c cap (List.map ntV (D ++ (T ++ [y]))).toArray false (s + 1) r false
        have F6 := Lib.hid (F5.out.then_ F1 (fun _ _ h => h))
        clear e9 S4 hch' hpd F1 F5 z0d z1d
        generalize w5.setChan c cap (List.map ntV (D ++ (T ++ [y]))).toArray false (s + 1) r false = w6 at *
        simp only [putsA, List.foldl_cons, List.foldl_nil, Act.put, List.setIfInBounds_toArray, List.set_cons_zero, List.set_cons_succ]
        show wpB _ _ _ _ _ _
        refine wpB_of_wp ?_
        have hlt2 := Lib.hid hlt
        go_wp2
        refine ⟨⟨_, _, _, _, _, _, _, _, _, _, _, _, _, _, _, _, _, _, _, _, _, _, _, _, _, _, n, k + 1, by go_num, Lib.hid hlt2.out, Lib.hid (by rw [htk2.out]; have := hn1.out; simp; omega), Lib.hid (by have h5 := S5.out; rw [hD.out] at h5; rw [htk2.out]; simpa using h5), F6⟩, by simp [intOf]; omega⟩
      | false =>
        have htk2 : Hid ((xs.take (k + 1)).filter p = T) := Lib.hid (by rw [htkH.out, List.filter_append, ← hT.out]; simp [hpy])
        replace hpy := Lib.hid hpy
        go_wp2
        refine wpB_cond rfl ?_
        rw [if_neg (by decide)]
        refine wpB_of_wp ?_
        have hlt2 := Lib.hid hlt
        go_wp2
        refine wpB_of_wp ?_
        go_wp2
        refine ⟨⟨_, _, _, _, _, _, _, _, _, _, _, _, _, _, _, _, _, _, _, _, _, _, _, _, _, _, n + 1, k + 1, by go_num, Lib.hid hlt2.out, Lib.hid (by rw [htk2.out]; have := hn1.out; omega), Lib.hid (by have h5 := S4.out; rw [hD.out] at h5; rw [htk2.out]; simpa using h5), F5⟩, by simp [intOf]; omega⟩
    · obtain rfl : k = xs.length := by have := hk.out; omega
      have S1 := S.out
      have hn1 := hn.out
      rw [List.take_length] at hn1
      rw [List.drop_length, List.take_length, List.nil_append] at S1
      have S2 := Lib.hid S1
      replace hn1 := Lib.hid hn1
      clear S1 S hk hlt hk4 hn
      have hxl2 := Lib.hid hxl
      clear hxl
      obtain ⟨m, hm⟩ : ∃ m : Nat, m = xs.length := ⟨_, rfl⟩
      rw [← hm]
      refine wpB_seq_wp (fun K hK => ?_)
      go_wp2
      refine wpB_seq_wp (fun K hK => ?_)
      go_wp2
      refine wpB_of_wp ?_
      clear hK K
      go_wp2
      rw [← hR.out]
      exact ⟨by have := hn1.out; rw [show xs.length - (xs.filter p).length = n by omega]; rfl, S2.out, F.out⟩
end Go.Proofs.Ytblapbnplflghaa
