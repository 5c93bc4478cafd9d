/- Boxes: of two the first thing; how many wait. No condition. -/
import Derived.Test.YtkpiphihmmhhpaaBx
import Derived.Conc.LoneSelectN
namespace Go.Proofs.Ytkpiphihmmhhpaa
open Go.RowKit Go.Conc
set_option linter.unusedVariables false
set_option linter.unusedSimpArgs false
set_option maxRecDepth 100000


set_option maxHeartbeats 4000000 in
theorem either_a_int {w : World} {B c cap : Nat} {t : List Value} {y : Value} (hA : BoxS w B c cap (y :: t)) (pb : Value) :
    Calls Try.prog 45 #[.pointer (some ⟨B, 0, none⟩), pb] w fun e w' => e = .returned (.tuple #[y, .int .i64 0]) ∧ BoxS w' B c cap t ∧ FrB (fun k => k = c) w w' := by
  have HA := Lib.hid hA
  obtain ⟨R, hR⟩ : ∃ R : Ending → World → Prop, (fun e w' => e = .returned (.tuple #[y, .int .i64 0]) ∧ BoxS w' B c cap t ∧ FrB (fun k => k = c) w w') = R := ⟨_, rfl⟩
  rw [hR]
  replace hR := Lib.hid hR
  clear hA
  refine calls_of_wpB Try.func45 rfl ?_
  simp only [Try.ntmps45, List.size_toArray, List.length_cons, List.length_nil, Nat.reduceAdd, Nat.reduceSub, Array.replicate_succ, Array.replicate_zero, List.push_toArray, List.append_toArray, List.nil_append, List.cons_append]
  refine wpB_seq_wp (fun K hK => ?_)
  go_wp2
  obtain ⟨s, r, hch⟩ := HA.out.ch
  replace hch := Lib.hid hch
  have hp := HA.out.p.1
  refine wpB_seq ?_
  refine wpB_seq_wp (fun K hK => ?_)
  go_wp2
  refine wpB_seq ?_
  refine wpB_region ?_
  show opB _ _ _ _ [0, 1, 2] _ _
  refine opB_tryRecv (c := c) (z := .int .i64 0) rfl rfl (by decide) (by first | (simp [go_sem, execOp, rcase, Act.eval]; done) | (simp [go_sem, execOp, rcase, Act.eval]; rfl)) hch.out (fun hsome => ?_) (fun hnone => ?_)
  · clear hsome hch hp
    refine opB_op rfl rfl (fun K hK => ?_)
    unfold valB
    go_simp
    refine hK _ _ ?_
    clear hK K
    refine opB_op rfl rfl (fun K hK => ?_)
    unfold valB
    go_simp
    refine hK _ _ ?_
    clear hK K
    refine opB_nil ?_
    show wpB _ _ _ _ _ _
    refine wpB_of_wp ?_
    go_wp2
    rw [← hR.out]
    have hle := HA.out.le.2
    exact ⟨by simp, HA.out.set (buf' := t) (by simp at hle; omega) _ _, frb_setChan _ _ _ _ _ _ _ _⟩
  · exact absurd hnone (by simp)

set_option maxHeartbeats 4000000 in
theorem either_b_int {w : World} {B c cap B2 c2 cap2 : Nat} {t : List Value} {y : Value} (hA : BoxS w B c cap []) (hB : BoxS w B2 c2 cap2 (y :: t)) :
    Calls Try.prog 45 #[.pointer (some ⟨B, 0, none⟩), .pointer (some ⟨B2, 0, none⟩)] w fun e w' => e = .returned (.tuple #[y, .int .i64 1]) ∧ BoxS w' B2 c2 cap2 t ∧ FrB (fun k => k = c2) w w' := by
  have HA := Lib.hid hA
  have HB := Lib.hid hB
  obtain ⟨R, hR⟩ : ∃ R : Ending → World → Prop, (fun e w' => e = .returned (.tuple #[y, .int .i64 1]) ∧ BoxS w' B2 c2 cap2 t ∧ FrB (fun k => k = c2) w w') = R := ⟨_, rfl⟩
  rw [hR]
  replace hR := Lib.hid hR
  clear hA hB
  refine calls_of_wpB Try.func45 rfl ?_
  simp only [Try.ntmps45, List.size_toArray, List.length_cons, List.length_nil, Nat.reduceAdd, Nat.reduceSub, Array.replicate_succ, Array.replicate_zero, List.push_toArray, List.append_toArray, List.nil_append, List.cons_append]
  refine wpB_seq_wp (fun K hK => ?_)
  go_wp2
  obtain ⟨s, r, hch⟩ := HA.out.ch
  replace hch := Lib.hid hch
  have hp := HA.out.p.1
  refine wpB_seq ?_
  refine wpB_seq_wp (fun K hK => ?_)
  go_wp2
  refine wpB_seq ?_
  refine wpB_region ?_
  show opB _ _ _ _ [0, 1, 2] _ _
  refine opB_tryRecv (c := c) (z := .int .i64 0) rfl rfl (by decide) (by first | (simp [go_sem, execOp, rcase, Act.eval]; done) | (simp [go_sem, execOp, rcase, Act.eval]; rfl)) hch.out (fun hsome => ?_) (fun hnone => ?_)
  · exact absurd hsome (by simp)
  · clear hnone hch hp
    clear s r
    refine opB_op rfl rfl (fun K hK => ?_)
    unfold valB
    go_simp
    refine hK _ _ ?_
    clear hK K
    refine opB_op rfl rfl (fun K hK => ?_)
    unfold valB
    go_simp
    refine hK _ _ ?_
    clear hK K
    refine opB_nil ?_
    show wpB _ _ _ _ _ _
    refine wpB_of_wp ?_
    go_wp2
    show wpB _ _ _ _ _ _
    obtain ⟨s, r, hch⟩ := HB.out.ch
    replace hch := Lib.hid hch
    have hp := HB.out.p.1
    refine wpB_seq ?_
    refine wpB_seq_wp (fun K hK => ?_)
    go_wp2
    refine wpB_seq ?_
    refine wpB_region ?_
    show opB _ _ _ _ [0, 1, 2] _ _
    refine opB_tryRecv (c := c2) (z := .int .i64 0) rfl rfl (by decide) (by first | (simp [go_sem, execOp, rcase, Act.eval]; done) | (simp [go_sem, execOp, rcase, Act.eval]; rfl)) hch.out (fun hsome => ?_) (fun hnone => ?_)
    · clear hsome hch hp
      refine opB_op rfl rfl (fun K hK => ?_)
      unfold valB
      go_simp
      refine hK _ _ ?_
      clear hK K
      refine opB_op rfl rfl (fun K hK => ?_)
      unfold valB
      go_simp
      refine hK _ _ ?_
      clear hK K
      refine opB_nil ?_
      show wpB _ _ _ _ _ _
      refine wpB_of_wp ?_
      go_wp2
      rw [← hR.out]
      have hle := HB.out.le.2
      exact ⟨by simp, HB.out.set (buf' := t) (by simp at hle; omega) _ _, frb_setChan _ _ _ _ _ _ _ _⟩
    · exact absurd hnone (by simp)

set_option maxHeartbeats 4000000 in
theorem either_n_int {w : World} {B c cap B2 c2 cap2 : Nat} (hA : BoxS w B c cap []) (hB : BoxS w B2 c2 cap2 []) :
    Calls Try.prog 45 #[.pointer (some ⟨B, 0, none⟩), .pointer (some ⟨B2, 0, none⟩)] w fun e w' => e = .returned (.tuple #[.int .i64 0, .int .i64 (-1)]) ∧ Below w.heap.size w w' := by
  have HA := Lib.hid hA
  have HB := Lib.hid hB
  obtain ⟨R, hR⟩ : ∃ R : Ending → World → Prop, (fun e w' => e = .returned (.tuple #[.int .i64 0, .int .i64 (-1)]) ∧ Below w.heap.size w w') = R := ⟨_, rfl⟩
  rw [hR]
  replace hR := Lib.hid hR
  clear hA hB
  refine calls_of_wpB Try.func45 rfl ?_
  simp only [Try.ntmps45, List.size_toArray, List.length_cons, List.length_nil, Nat.reduceAdd, Nat.reduceSub, Array.replicate_succ, Array.replicate_zero, List.push_toArray, List.append_toArray, List.nil_append, List.cons_append]
  refine wpB_seq_wp (fun K hK => ?_)
  go_wp2
  obtain ⟨s, r, hch⟩ := HA.out.ch
  replace hch := Lib.hid hch
  have hp := HA.out.p.1
  refine wpB_seq ?_
  refine wpB_seq_wp (fun K hK => ?_)
  go_wp2
  refine wpB_seq ?_
  refine wpB_region ?_
  show opB _ _ _ _ [0, 1, 2] _ _
  refine opB_tryRecv (c := c) (z := .int .i64 0) rfl rfl (by decide) (by first | (simp [go_sem, execOp, rcase, Act.eval]; done) | (simp [go_sem, execOp, rcase, Act.eval]; rfl)) hch.out (fun hsome => ?_) (fun hnone => ?_)
  · exact absurd hsome (by simp)
  · clear hnone hch hp
    clear s r
    refine opB_op rfl rfl (fun K hK => ?_)
    unfold valB
    go_simp
    refine hK _ _ ?_
    clear hK K
    refine opB_op rfl rfl (fun K hK => ?_)
    unfold valB
    go_simp
    refine hK _ _ ?_
    clear hK K
    refine opB_nil ?_
    show wpB _ _ _ _ _ _
    refine wpB_of_wp ?_
    go_wp2
    show wpB _ _ _ _ _ _
    obtain ⟨s, r, hch⟩ := HB.out.ch
    replace hch := Lib.hid hch
    have hp := HB.out.p.1
    refine wpB_seq ?_
    refine wpB_seq_wp (fun K hK => ?_)
    go_wp2
    refine wpB_seq ?_
    refine wpB_region ?_
    show opB _ _ _ _ [0, 1, 2] _ _
    refine opB_tryRecv (c := c2) (z := .int .i64 0) rfl rfl (by decide) (by first | (simp [go_sem, execOp, rcase, Act.eval]; done) | (simp [go_sem, execOp, rcase, Act.eval]; rfl)) hch.out (fun hsome => ?_) (fun hnone => ?_)
    · exact absurd hsome (by simp)
    · clear hnone hch hp
      refine opB_op rfl rfl (fun K hK => ?_)
      unfold valB
      go_simp
      refine hK _ _ ?_
      clear hK K
      refine opB_op rfl rfl (fun K hK => ?_)
      unfold valB
      go_simp
      refine hK _ _ ?_
      clear hK K
      refine opB_nil ?_
      show wpB _ _ _ _ _ _
      refine wpB_of_wp ?_
      go_wp2
      show wpB _ _ _ _ _ _
      refine wpB_of_wp ?_
      go_wp2
      rw [← hR.out]
      exact ⟨by simp, Below.refl _ _⟩
end Go.Proofs.Ytkpiphihmmhhpaa
