/- Boxes: of two the first thing; how many wait. No condition. -/
import Derived.Test.YtkpiphihmmhhpaaBx
import Derived.Conc.LoneSelectN
namespace Go.Proofs.Ytkpiphihmmhhpaa
open Go.RowKit Go.Conc
set_option linter.unusedVariables false
set_option linter.unusedSimpArgs false
set_option maxRecDepth 100000


set_option maxHeartbeats 4000000 in
theorem either_a_thing {w : World} {B c cap : Nat} {t : List Value} {y1 : ByteArray} {y2 : Int} (hA : BoxS w B c cap ((.agg #[.string y1, .int .u64 y2]) :: t)) (pb : Value) :
    Calls Try.prog 17 #[.pointer (some ⟨B, 0, none⟩), pb] w fun e w' => e = .returned (.tuple #[(.agg #[.string y1, .int .u64 y2]), .int .i64 0]) ∧ BoxS w' B c cap t ∧ FrB (fun k => k = c) w w' := by
  have HA := Lib.hid hA
  obtain ⟨R, hR⟩ : ∃ R : Ending → World → Prop, (fun e w' => e = .returned (.tuple #[(.agg #[.string y1, .int .u64 y2]), .int .i64 0]) ∧ BoxS w' B c cap t ∧ FrB (fun k => k = c) w w') = R := ⟨_, rfl⟩
  rw [hR]
  replace hR := Lib.hid hR
  clear hA
  refine calls_of_wpB Try.func17 rfl ?_
  simp only [Try.ntmps17, List.size_toArray, List.length_cons, List.length_nil, Nat.reduceAdd, Nat.reduceSub, Array.replicate_succ, Array.replicate_zero, List.push_toArray, List.append_toArray, List.nil_append, List.cons_append]
  refine wpB_seq_wp (fun K hK => ?_)
  go_wp2
  have hZ : Hid (w.heap.size ≠ B ∧ w.heap.size ≠ c) := Lib.hid (by have := HA.out.lt; omega)
  have G0 := Lib.hid (Below.alloc (Below.refl w.heap.size w) (Nat.le_refl _) (.cells #[.string ⟨#[]⟩, .int .u64 0] 30))
  have q0 := Cel.new w #[.string ⟨#[]⟩, .int .u64 0] 30 0 (.string ⟨#[]⟩) rfl
  have q1 := Cel.new w #[.string ⟨#[]⟩, .int .u64 0] 30 1 (.int .u64 0) rfl
  replace q0 := Lib.hid q0; replace q1 := Lib.hid q1
  replace HA := Lib.hid (HA.out.below G0.out)
  have hzl : w.heap.size < (w.alloc (.cells #[.string ⟨#[]⟩, .int .u64 0] 30)).heap.size := by simp
  trace_state
  generalize w.alloc (.cells #[.string ⟨#[]⟩, .int .u64 0] 30) = W at *
  obtain ⟨s, r, hch⟩ := HA.out.ch
  replace hch := Lib.hid hch
  have hp := HA.out.p.1
  refine wpB_seq ?_
  refine wpB_seq_wp (fun K hK => ?_)
  go_wp2
  refine wpB_seq ?_
  refine wpB_region ?_
  show opB _ _ _ _ [0, 1, 2] _ _
  refine opB_tryRecv (c := c) (z := .agg #[.string ⟨#[]⟩, .int .u64 0]) rfl rfl (by decide) (by first | (simp [go_sem, execOp, rcase, Act.eval]; done) | (simp [go_sem, execOp, rcase, Act.eval]; rfl)) hch.out (fun hsome => ?_) (fun hnone => ?_)
  · clear hsome hch hp
    have e9 : (((.agg #[.string y1, .int .u64 y2]) :: t).toArray).extract 1 (((.agg #[.string y1, .int .u64 y2]) :: t).toArray).size = t.toArray := by simp
    rw [e9]
    have hle := HA.out.le.2
    have HA1 := Lib.hid (HA.out.set (buf' := t) (by simp at hle; omega) s (r + 1))
    have F1 := Lib.hid (frb_setChan W c cap t.toArray false s (r + 1) false)
    have GF := Lib.hid ((FrB.of_below (S := fun k => k = c) G0.out (Nat.le_refl _)).then_ F1.out (fun _ _ h => h))
    obtain ⟨u0, u1⟩ := q0.out.frb F1.out hZ.out.2
    obtain ⟨u2, u3⟩ := q1.out.frb F1.out hZ.out.2
    have hz1 := Nat.lt_of_lt_of_le hzl F1.out.size
    clear e9 hle q0 q1 hzl F1
    generalize W.setChan c cap t.toArray false s (r + 1) false = W1 at *
    refine opB_op rfl rfl (fun K hK => ?_)
    unfold valB
    go_simp
    refine hK _ _ ?_
    clear hK K
    refine opB_op rfl rfl (fun K hK => ?_)
    unfold valB
    go_simp
    refine hK _ _ ?_
    clear hK K
    refine opB_nil ?_
    show wpB _ _ _ _ _ _
    refine wpB_of_wp ?_
    go_wp2
    rw [← hR.out]
    refine bodyPost_ret (v := .tuple #[.agg #[.string y1, .int .u64 y2], .int .i64 0]) (by simp [results, Try.results17, go_sem, *]) rfl ⟨rfl, ((HA1.out.setc hZ.out.1 hZ.out.2 _).setc hZ.out.1 hZ.out.2 _).alloc _, ((GF.out.setc (Nat.le_refl _) _).setc (Nat.le_refl _) _).allc _⟩
  · exact absurd hnone (by simp)

set_option maxHeartbeats 4000000 in
theorem either_b_thing {w : World} {B c cap B2 c2 cap2 : Nat} {t : List Value} {y1 : ByteArray} {y2 : Int} (hA : BoxS w B c cap []) (hB : BoxS w B2 c2 cap2 ((.agg #[.string y1, .int .u64 y2]) :: t)) :
    Calls Try.prog 17 #[.pointer (some ⟨B, 0, none⟩), .pointer (some ⟨B2, 0, none⟩)] w fun e w' => e = .returned (.tuple #[(.agg #[.string y1, .int .u64 y2]), .int .i64 1]) ∧ BoxS w' B2 c2 cap2 t ∧ FrB (fun k => k = c2) w w' := by
  have HA := Lib.hid hA
  have HB := Lib.hid hB
  obtain ⟨R, hR⟩ : ∃ R : Ending → World → Prop, (fun e w' => e = .returned (.tuple #[(.agg #[.string y1, .int .u64 y2]), .int .i64 1]) ∧ BoxS w' B2 c2 cap2 t ∧ FrB (fun k => k = c2) w w') = R := ⟨_, rfl⟩
  rw [hR]
  replace hR := Lib.hid hR
  clear hA hB
  refine calls_of_wpB Try.func17 rfl ?_
  simp only [Try.ntmps17, List.size_toArray, List.length_cons, List.length_nil, Nat.reduceAdd, Nat.reduceSub, Array.replicate_succ, Array.replicate_zero, List.push_toArray, List.append_toArray, List.nil_append, List.cons_append]
  refine wpB_seq_wp (fun K hK => ?_)
  go_wp2
  have hZ : Hid (w.heap.size ≠ B ∧ w.heap.size ≠ c) := Lib.hid (by have := HA.out.lt; omega)
  have hZ2 : Hid (w.heap.size ≠ B2 ∧ w.heap.size ≠ c2) := Lib.hid (by have := HB.out.lt; omega)
  have G0 := Lib.hid (Below.alloc (Below.refl w.heap.size w) (Nat.le_refl _) (.cells #[.string ⟨#[]⟩, .int .u64 0] 30))
  have q0 := Cel.new w #[.string ⟨#[]⟩, .int .u64 0] 30 0 (.string ⟨#[]⟩) rfl
  have q1 := Cel.new w #[.string ⟨#[]⟩, .int .u64 0] 30 1 (.int .u64 0) rfl
  replace q0 := Lib.hid q0; replace q1 := Lib.hid q1
  replace HA := Lib.hid (HA.out.below G0.out)
  have hzl : w.heap.size < (w.alloc (.cells #[.string ⟨#[]⟩, .int .u64 0] 30)).heap.size := by simp
  replace HB := Lib.hid (HB.out.below G0.out)
  trace_state
  generalize w.alloc (.cells #[.string ⟨#[]⟩, .int .u64 0] 30) = W at *
  obtain ⟨s, r, hch⟩ := HA.out.ch
  replace hch := Lib.hid hch
  have hp := HA.out.p.1
  refine wpB_seq ?_
  refine wpB_seq_wp (fun K hK => ?_)
  go_wp2
  refine wpB_seq ?_
  refine wpB_region ?_
  show opB _ _ _ _ [0, 1, 2] _ _
  refine opB_tryRecv (c := c) (z := .agg #[.string ⟨#[]⟩, .int .u64 0]) rfl rfl (by decide) (by first | (simp [go_sem, execOp, rcase, Act.eval]; done) | (simp [go_sem, execOp, rcase, Act.eval]; rfl)) hch.out (fun hsome => ?_) (fun hnone => ?_)
  · exact absurd hsome (by simp)
  · clear hnone hch hp
    clear s r
    refine opB_op rfl rfl (fun K hK => ?_)
    unfold valB
    go_simp
    refine hK _ _ ?_
    clear hK K
    refine opB_op rfl rfl (fun K hK => ?_)
    unfold valB
    go_simp
    refine hK _ _ ?_
    clear hK K
    refine opB_nil ?_
    show wpB _ _ _ _ _ _
    refine wpB_of_wp ?_
    go_wp2
    show wpB _ _ _ _ _ _
    obtain ⟨s, r, hch⟩ := HB.out.ch
    replace hch := Lib.hid hch
    have hp := HB.out.p.1
    refine wpB_seq ?_
    refine wpB_seq_wp (fun K hK => ?_)
    go_wp2
    refine wpB_seq ?_
    refine wpB_region ?_
    show opB _ _ _ _ [0, 1, 2] _ _
    refine opB_tryRecv (c := c2) (z := .agg #[.string ⟨#[]⟩, .int .u64 0]) rfl rfl (by decide) (by first | (simp [go_sem, execOp, rcase, Act.eval]; done) | (simp [go_sem, execOp, rcase, Act.eval]; rfl)) hch.out (fun hsome => ?_) (fun hnone => ?_)
    · clear hsome hch hp
      have e9 : (((.agg #[.string y1, .int .u64 y2]) :: t).toArray).extract 1 (((.agg #[.string y1, .int .u64 y2]) :: t).toArray).size = t.toArray := by simp
      rw [e9]
      have hle := HB.out.le.2
      have HA1 := Lib.hid (HB.out.set (buf' := t) (by simp at hle; omega) s (r + 1))
      have F1 := Lib.hid (frb_setChan W c2 cap2 t.toArray false s (r + 1) false)
      have GF := Lib.hid ((FrB.of_below (S := fun k => k = c2) G0.out (Nat.le_refl _)).then_ F1.out (fun _ _ h => h))
      obtain ⟨u0, u1⟩ := q0.out.frb F1.out hZ2.out.2
      obtain ⟨u2, u3⟩ := q1.out.frb F1.out hZ2.out.2
      have hz1 := Nat.lt_of_lt_of_le hzl F1.out.size
      clear e9 hle q0 q1 hzl F1
      generalize W.setChan c2 cap2 t.toArray false s (r + 1) false = W1 at *
      refine opB_op rfl rfl (fun K hK => ?_)
      unfold valB
      go_simp
      refine hK _ _ ?_
      clear hK K
      refine opB_op rfl rfl (fun K hK => ?_)
      unfold valB
      go_simp
      refine hK _ _ ?_
      clear hK K
      refine opB_nil ?_
      show wpB _ _ _ _ _ _
      refine wpB_of_wp ?_
      go_wp2
      rw [← hR.out]
      refine bodyPost_ret (v := .tuple #[.agg #[.string y1, .int .u64 y2], .int .i64 1]) (by simp [results, Try.results17, go_sem, *]) rfl ⟨rfl, ((HA1.out.setc hZ2.out.1 hZ2.out.2 _).setc hZ2.out.1 hZ2.out.2 _).alloc _, ((GF.out.setc (Nat.le_refl _) _).setc (Nat.le_refl _) _).allc _⟩
    · exact absurd hnone (by simp)

set_option maxHeartbeats 4000000 in
theorem either_n_thing {w : World} {B c cap B2 c2 cap2 : Nat} (hA : BoxS w B c cap []) (hB : BoxS w B2 c2 cap2 []) :
    Calls Try.prog 17 #[.pointer (some ⟨B, 0, none⟩), .pointer (some ⟨B2, 0, none⟩)] w fun e w' => e = .returned (.tuple #[.agg #[.string ⟨#[]⟩, .int .u64 0], .int .i64 (-1)]) ∧ Below w.heap.size w w' := by
  have HA := Lib.hid hA
  have HB := Lib.hid hB
  obtain ⟨R, hR⟩ : ∃ R : Ending → World → Prop, (fun e w' => e = .returned (.tuple #[.agg #[.string ⟨#[]⟩, .int .u64 0], .int .i64 (-1)]) ∧ Below w.heap.size w w') = R := ⟨_, rfl⟩
  rw [hR]
  replace hR := Lib.hid hR
  clear hA hB
  refine calls_of_wpB Try.func17 rfl ?_
  simp only [Try.ntmps17, List.size_toArray, List.length_cons, List.length_nil, Nat.reduceAdd, Nat.reduceSub, Array.replicate_succ, Array.replicate_zero, List.push_toArray, List.append_toArray, List.nil_append, List.cons_append]
  refine wpB_seq_wp (fun K hK => ?_)
  go_wp2
  have hZ : Hid (w.heap.size ≠ B ∧ w.heap.size ≠ c) := Lib.hid (by have := HA.out.lt; omega)
  have hZ2 : Hid (w.heap.size ≠ B2 ∧ w.heap.size ≠ c2) := Lib.hid (by have := HB.out.lt; omega)
  have G0 := Lib.hid (Below.alloc (Below.refl w.heap.size w) (Nat.le_refl _) (.cells #[.string ⟨#[]⟩, .int .u64 0] 30))
  have q0 := Cel.new w #[.string ⟨#[]⟩, .int .u64 0] 30 0 (.string ⟨#[]⟩) rfl
  have q1 := Cel.new w #[.string ⟨#[]⟩, .int .u64 0] 30 1 (.int .u64 0) rfl
  replace q0 := Lib.hid q0; replace q1 := Lib.hid q1
  replace HA := Lib.hid (HA.out.below G0.out)
  have hzl : w.heap.size < (w.alloc (.cells #[.string ⟨#[]⟩, .int .u64 0] 30)).heap.size := by simp
  replace HB := Lib.hid (HB.out.below G0.out)
  trace_state
  generalize w.alloc (.cells #[.string ⟨#[]⟩, .int .u64 0] 30) = W at *
  obtain ⟨s, r, hch⟩ := HA.out.ch
  replace hch := Lib.hid hch
  have hp := HA.out.p.1
  refine wpB_seq ?_
  refine wpB_seq_wp (fun K hK => ?_)
  go_wp2
  refine wpB_seq ?_
  refine wpB_region ?_
  show opB _ _ _ _ [0, 1, 2] _ _
  refine opB_tryRecv (c := c) (z := .agg #[.string ⟨#[]⟩, .int .u64 0]) rfl rfl (by decide) (by first | (simp [go_sem, execOp, rcase, Act.eval]; done) | (simp [go_sem, execOp, rcase, Act.eval]; rfl)) hch.out (fun hsome => ?_) (fun hnone => ?_)
  · exact absurd hsome (by simp)
  · clear hnone hch hp
    clear s r
    refine opB_op rfl rfl (fun K hK => ?_)
    unfold valB
    go_simp
    refine hK _ _ ?_
    clear hK K
    refine opB_op rfl rfl (fun K hK => ?_)
    unfold valB
    go_simp
    refine hK _ _ ?_
    clear hK K
    refine opB_nil ?_
    show wpB _ _ _ _ _ _
    refine wpB_of_wp ?_
    go_wp2
    show wpB _ _ _ _ _ _
    obtain ⟨s, r, hch⟩ := HB.out.ch
    replace hch := Lib.hid hch
    have hp := HB.out.p.1
    refine wpB_seq ?_
    refine wpB_seq_wp (fun K hK => ?_)
    go_wp2
    refine wpB_seq ?_
    refine wpB_region ?_
    show opB _ _ _ _ [0, 1, 2] _ _
    refine opB_tryRecv (c := c2) (z := .agg #[.string ⟨#[]⟩, .int .u64 0]) rfl rfl (by decide) (by first | (simp [go_sem, execOp, rcase, Act.eval]; done) | (simp [go_sem, execOp, rcase, Act.eval]; rfl)) hch.out (fun hsome => ?_) (fun hnone => ?_)
    · exact absurd hsome (by simp)
    · clear hnone hch hp
      obtain ⟨u0, u1⟩ := q0.out
      obtain ⟨u2, u3⟩ := q1.out
      clear q0 q1
      refine opB_op rfl rfl (fun K hK => ?_)
      unfold valB
      go_simp
      refine hK _ _ ?_
      clear hK K
      refine opB_op rfl rfl (fun K hK => ?_)
      unfold valB
      go_simp
      refine hK _ _ ?_
      clear hK K
      refine opB_nil ?_
      show wpB _ _ _ _ _ _
      refine wpB_of_wp ?_
      go_wp2
      show wpB _ _ _ _ _ _
      refine wpB_of_wp ?_
      go_wp2
      rw [← hR.out]
      refine bodyPost_ret (v := .tuple #[.agg #[.string ⟨#[]⟩, .int .u64 0], .int .i64 (-1)]) (by simp [results, Try.results17, go_sem, *]) rfl ⟨rfl, ?_⟩
      have G1 := (G0.out.setCell (p := ⟨w.heap.size, 0, none⟩) (Nat.le_refl _) (.string ⟨#[]⟩)).setCell (p := ⟨w.heap.size, 1, none⟩) (Nat.le_refl _) (.int .u64 0)
      exact G1.alloc G1.size _
end Go.Proofs.Ytkpiphihmmhhpaa
