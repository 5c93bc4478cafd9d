/- Boxes in memory; what is done with them. No condition. -/
import Derived.Test.YtkpiphihmmhhpaaComm
import Derived.Test.YtkpiphihmmhhpaaOwnE
import Derived.Conc.LoneSelectN
namespace Go.Proofs.Ytkpiphihmmhhpaa
open Go.RowKit Go.Conc
set_option linter.unusedVariables false
set_option linter.unusedSimpArgs false
set_option maxRecDepth 100000

/-- A box: its variable B, its channel c, what waits. -/
structure BoxS (w : World) (B c cap : Nat) (buf : List Value) : Prop where
  p : Cel w B 0 (.chan (some c))
  ch : ∃ s r, w.heap[c]? = some (.chan cap buf.toArray false s r false)
  ne : B ≠ c
  le : cap ≤ 4096 ∧ buf.length ≤ cap
theorem BoxS.lt {w : World} {B c cap : Nat} {buf : List Value} (h : BoxS w B c cap buf) : B < w.heap.size ∧ c < w.heap.size := by
  obtain ⟨s, r, hc⟩ := h.ch
  exact ⟨h.p.lt, lt_of_block hc⟩
theorem BoxS.frb {S : Nat → Prop} {w w' : World} {B c cap : Nat} {buf : List Value} (h : BoxS w B c cap buf) (F : FrB S w w') (hB : ¬ S B) (hc : ¬ S c) : BoxS w' B c cap buf := by
  have hl := h.lt
  obtain ⟨s, r, hch⟩ := h.ch
  exact ⟨h.p.frb F hB, ⟨s, r, (F.block c hl.2 hc).trans hch⟩, h.ne, h.le⟩
theorem BoxS.below {w w' : World} {B c cap : Nat} {buf : List Value} (h : BoxS w B c cap buf) (F : Below w.heap.size w w') : BoxS w' B c cap buf :=
  h.frb (FrB.of_below (S := fun _ => False) F (Nat.le_refl _)) (fun h => h) (fun h => h)
theorem frb_setChan (w : World) (c cap : Nat) (buf : Array Value) (cl : Bool) (s r : Nat) (tm : Bool) : FrB (fun k => k = c) w (w.setChan c cap buf cl s r tm) :=
  ⟨rfl, rfl, rfl, by rw [size_setChan]; exact Nat.le_refl _, fun k hk hn => by simp only [World.setChan]; exact Array.getElem?_setIfInBounds_ne (fun e => hn e.symm)⟩
theorem BoxS.set {w : World} {B c cap : Nat} {buf buf' : List Value} (h : BoxS w B c cap buf) (hl : buf'.length ≤ cap) (s r : Nat) : BoxS (w.setChan c cap buf'.toArray false s r false) B c cap buf' :=
  ⟨h.p.frb (frb_setChan _ _ _ _ _ _ _ _) h.ne, ⟨s, r, heap_setChan _ _ _ _ _ _ _ _ h.lt.2⟩, h.ne, ⟨h.le.1, hl⟩⟩

theorem BoxS.setc {w : World} {B c cap k o : Nat} {buf : List Value} (h : BoxS w B c cap buf) (hB : k ≠ B) (hc : k ≠ c) (u : Value) : BoxS (w.setCell ⟨k, o, none⟩ u) B c cap buf :=
  h.frb (FrB.set _ _ _) (fun e => hB e.symm) (fun e => hc e.symm)
theorem BoxS.alloc {w : World} {B c cap : Nat} {buf : List Value} (h : BoxS w B c cap buf) (ob : Obj) : BoxS (w.alloc ob) B c cap buf := h.below ((Below.refl _ _).alloc (Nat.le_refl _) ob)
theorem FrB.setc {S : Nat → Prop} {w W : World} {k o : Nat} (h : FrB S w W) (hk : w.heap.size ≤ k) (u : Value) : FrB S w (W.setCell ⟨k, o, none⟩ u) :=
  h.then_ (FrB.set W ⟨k, o, none⟩ u) (fun i hi e => absurd e (by simp only; omega))
theorem FrB.allc {S : Nat → Prop} {w W : World} (h : FrB S w W) (o : Obj) : FrB S w (W.alloc o) := h.then_ (FrB.alloc S W o) (fun _ _ h => h)

set_option maxHeartbeats 4000000 in
theorem post_int {w : World} {B c cap : Nat} {buf : List Value} (h : BoxS w B c cap buf) (x : Int) :
    Calls Try.prog 20 #[.pointer (some ⟨B, 0, none⟩), .int .i64 x] w fun e w' => e = .returned (.bool (decide (buf.length < cap))) ∧ BoxS w' B c cap (if buf.length < cap then buf ++ [.int .i64 x] else buf) ∧ FrB (fun k => k = c) w w' := by
  obtain ⟨s, r, hch⟩ := h.ch
  have hp := h.p.1
  have H := Lib.hid h
  obtain ⟨R, hR⟩ : ∃ R : Ending → World → Prop, (fun e w' => e = .returned (.bool (decide (buf.length < cap))) ∧ BoxS w' B c cap (if buf.length < cap then buf ++ [.int .i64 x] else buf) ∧ FrB (fun k => k = c) w w') = R := ⟨_, rfl⟩
  rw [hR]
  replace hR := Lib.hid hR
  clear h
  refine calls_of_wpB Try.func20 rfl ?_
  simp only [Try.ntmps20, List.size_toArray, List.length_cons, List.length_nil, Nat.reduceAdd, Nat.reduceSub, Array.replicate_succ, Array.replicate_zero, List.push_toArray, List.append_toArray, List.nil_append, List.cons_append]
  refine wpB_seq_wp (fun K hK => ?_)
  go_wp2
  refine wpB_seq_wp (fun K hK => ?_)
  go_wp2
  refine wpB_seq ?_
  refine wpB_region ?_
  show opB _ _ _ _ [0, 1, 2] _ _
  refine opB_trySend (c := c) (v := .int .i64 x) rfl rfl (by decide) (by first | (simp [go_sem, execOp, scase, Act.eval]; done) | (simp [go_sem, execOp, scase, Act.eval]; rfl)) hch (fun hroom => ?_) (fun hfull => ?_)
  · have hl : buf.length < cap := by simpa using hroom
    clear hroom hch hp
    refine opB_op rfl rfl (fun K hK => ?_)
    unfold valB
    go_simp
    refine hK _ _ ?_
    clear hK K
    refine opB_op rfl rfl (fun K hK => ?_)
    unfold valB
    go_simp
    refine hK _ _ ?_
    clear hK K
    refine opB_nil ?_
    show wpB _ _ _ _ _ _
    refine wpB_of_wp ?_
    go_wp2
    rw [← hR.out, if_pos hl, decide_eq_true hl]
    exact ⟨rfl, H.out.set (buf' := buf ++ [.int .i64 x]) (by simp; omega) _ _, frb_setChan _ _ _ _ _ _ _ _⟩
  · have hl : ¬ buf.length < cap := by
      have : cap ≤ buf.length := by simpa using hfull
      omega
    clear hfull hch hp
    refine opB_op rfl rfl (fun K hK => ?_)
    unfold valB
    go_simp
    refine hK _ _ ?_
    clear hK K
    refine opB_op rfl rfl (fun K hK => ?_)
    unfold valB
    go_simp
    refine hK _ _ ?_
    clear hK K
    refine opB_nil ?_
    show wpB _ _ _ _ _ _
    refine wpB_of_wp ?_
    go_wp2
    rw [← hR.out, if_neg hl, decide_eq_false hl]
    exact ⟨rfl, H.out, FrB.refl _ _⟩

set_option maxHeartbeats 4000000 in
theorem post_string {w : World} {B c cap : Nat} {buf : List Value} (h : BoxS w B c cap buf) (x : ByteArray) :
    Calls Try.prog 43 #[.pointer (some ⟨B, 0, none⟩), .string x] w fun e w' => e = .returned (.bool (decide (buf.length < cap))) ∧ BoxS w' B c cap (if buf.length < cap then buf ++ [.string x] else buf) ∧ FrB (fun k => k = c) w w' := by
  obtain ⟨s, r, hch⟩ := h.ch
  have hp := h.p.1
  have H := Lib.hid h
  obtain ⟨R, hR⟩ : ∃ R : Ending → World → Prop, (fun e w' => e = .returned (.bool (decide (buf.length < cap))) ∧ BoxS w' B c cap (if buf.length < cap then buf ++ [.string x] else buf) ∧ FrB (fun k => k = c) w w') = R := ⟨_, rfl⟩
  rw [hR]
  replace hR := Lib.hid hR
  clear h
  refine calls_of_wpB Try.func43 rfl ?_
  simp only [Try.ntmps43, List.size_toArray, List.length_cons, List.length_nil, Nat.reduceAdd, Nat.reduceSub, Array.replicate_succ, Array.replicate_zero, List.push_toArray, List.append_toArray, List.nil_append, List.cons_append]
  refine wpB_seq_wp (fun K hK => ?_)
  go_wp2
  refine wpB_seq_wp (fun K hK => ?_)
  go_wp2
  refine wpB_seq ?_
  refine wpB_region ?_
  show opB _ _ _ _ [0, 1, 2] _ _
  refine opB_trySend (c := c) (v := .string x) rfl rfl (by decide) (by first | (simp [go_sem, execOp, scase, Act.eval]; done) | (simp [go_sem, execOp, scase, Act.eval]; rfl)) hch (fun hroom => ?_) (fun hfull => ?_)
  · have hl : buf.length < cap := by simpa using hroom
    clear hroom hch hp
    refine opB_op rfl rfl (fun K hK => ?_)
    unfold valB
    go_simp
    refine hK _ _ ?_
    clear hK K
    refine opB_op rfl rfl (fun K hK => ?_)
    unfold valB
    go_simp
    refine hK _ _ ?_
    clear hK K
    refine opB_nil ?_
    show wpB _ _ _ _ _ _
    refine wpB_of_wp ?_
    go_wp2
    rw [← hR.out, if_pos hl, decide_eq_true hl]
    exact ⟨rfl, H.out.set (buf' := buf ++ [.string x]) (by simp; omega) _ _, frb_setChan _ _ _ _ _ _ _ _⟩
  · have hl : ¬ buf.length < cap := by
      have : cap ≤ buf.length := by simpa using hfull
      omega
    clear hfull hch hp
    refine opB_op rfl rfl (fun K hK => ?_)
    unfold valB
    go_simp
    refine hK _ _ ?_
    clear hK K
    refine opB_op rfl rfl (fun K hK => ?_)
    unfold valB
    go_simp
    refine hK _ _ ?_
    clear hK K
    refine opB_nil ?_
    show wpB _ _ _ _ _ _
    refine wpB_of_wp ?_
    go_wp2
    rw [← hR.out, if_neg hl, decide_eq_false hl]
    exact ⟨rfl, H.out, FrB.refl _ _⟩

set_option maxHeartbeats 4000000 in
theorem post_thing {w : World} {B c cap : Nat} {buf : List Value} (h : BoxS w B c cap buf) (x : ByteArray) (y : Int) :
    Calls Try.prog 16 #[.pointer (some ⟨B, 0, none⟩), .agg #[.string x, .int .u64 y]] w fun e w' => e = .returned (.bool (decide (buf.length < cap))) ∧ BoxS w' B c cap (if buf.length < cap then buf ++ [.agg #[.string x, .int .u64 y]] else buf) ∧ FrB (fun k => k = c) w w' := by
  obtain ⟨s, r, hch⟩ := h.ch
  have hp := h.p.1
  have H := Lib.hid h
  obtain ⟨R, hR⟩ : ∃ R : Ending → World → Prop, (fun e w' => e = .returned (.bool (decide (buf.length < cap))) ∧ BoxS w' B c cap (if buf.length < cap then buf ++ [.agg #[.string x, .int .u64 y]] else buf) ∧ FrB (fun k => k = c) w w') = R := ⟨_, rfl⟩
  rw [hR]
  replace hR := Lib.hid hR
  have h0 := Lib.hid h
  clear h
  refine calls_of_wpB Try.func16 rfl ?_
  simp only [Try.ntmps16, List.size_toArray, List.length_cons, List.length_nil, Nat.reduceAdd, Nat.reduceSub, Array.replicate_succ, Array.replicate_zero, List.push_toArray, List.append_toArray, List.nil_append, List.cons_append]
  have hB := h0.out.lt
  refine wpB_seq_wp (fun K hK => ?_)
  go_wp2
  have H1 := Lib.hid (H.out.below (Below.alloc (Below.refl w.heap.size w) (Nat.le_refl _) (.cells #[.string x, .int .u64 y] 30)))
  have x0 := (Cel.new w #[.string x, .int .u64 y] 30 0 (.string x) rfl).1
  have x1 := (Cel.new w #[.string x, .int .u64 y] 30 1 (.int .u64 y) rfl).1
  have F0 := Lib.hid (FrB.alloc (fun k => k = c) w (.cells #[.string x, .int .u64 y] 30))
  clear H hp hch hB h0 s r
  generalize w.alloc (.cells #[.string x, .int .u64 y] 30) = W at *
  generalize w.heap.size = Z at *
  have H := H1
  obtain ⟨s, r, hch⟩ := H.out.ch
  have hp := H.out.p.1
  refine wpB_seq_wp (fun K hK => ?_)
  go_wp2
  refine wpB_seq ?_
  refine wpB_region ?_
  show opB _ _ _ _ [0, 1, 2] _ _
  refine opB_trySend (c := c) (v := .agg #[.string x, .int .u64 y]) rfl rfl (by decide) (by first | (simp [go_sem, execOp, scase, Act.eval]; done) | (simp [go_sem, execOp, scase, Act.eval]; rfl)) hch (fun hroom => ?_) (fun hfull => ?_)
  · have hl : buf.length < cap := by simpa using hroom
    clear hroom hch hp
    refine opB_op rfl rfl (fun K hK => ?_)
    unfold valB
    go_simp
    refine hK _ _ ?_
    clear hK K
    refine opB_op rfl rfl (fun K hK => ?_)
    unfold valB
    go_simp
    refine hK _ _ ?_
    clear hK K
    refine opB_nil ?_
    show wpB _ _ _ _ _ _
    refine wpB_of_wp ?_
    go_wp2
    rw [← hR.out, if_pos hl, decide_eq_true hl]
    exact ⟨rfl, H.out.set (buf' := buf ++ [.agg #[.string x, .int .u64 y]]) (by simp; omega) _ _, F0.out.then_ (frb_setChan _ _ _ _ _ _ _ _) (fun _ _ h => h)⟩
  · have hl : ¬ buf.length < cap := by
      have : cap ≤ buf.length := by simpa using hfull
      omega
    clear hfull hch hp
    refine opB_op rfl rfl (fun K hK => ?_)
    unfold valB
    go_simp
    refine hK _ _ ?_
    clear hK K
    refine opB_op rfl rfl (fun K hK => ?_)
    unfold valB
    go_simp
    refine hK _ _ ?_
    clear hK K
    refine opB_nil ?_
    show wpB _ _ _ _ _ _
    refine wpB_of_wp ?_
    go_wp2
    rw [← hR.out, if_neg hl, decide_eq_false hl]
    exact ⟨rfl, H.out, F0.out⟩

set_option maxHeartbeats 4000000 in
theorem fetch_int {w : World} {B c cap : Nat} {buf : List Value} (h : BoxS w B c cap buf) :
    Calls Try.prog 21 #[.pointer (some ⟨B, 0, none⟩)] w fun e w' => e = .returned (.tuple #[buf.headD (.int .i64 0), .bool (decide (buf ≠ []))]) ∧ BoxS w' B c cap buf.tail ∧ FrB (fun k => k = c) w w' := by
  obtain ⟨s, r, hch⟩ := h.ch
  have hp := h.p.1
  have H := Lib.hid h
  obtain ⟨R, hR⟩ : ∃ R : Ending → World → Prop, (fun e w' => e = .returned (.tuple #[buf.headD (.int .i64 0), .bool (decide (buf ≠ []))]) ∧ BoxS w' B c cap buf.tail ∧ FrB (fun k => k = c) w w') = R := ⟨_, rfl⟩
  rw [hR]
  replace hR := Lib.hid hR
  clear h
  refine calls_of_wpB Try.func21 rfl ?_
  simp only [Try.ntmps21, List.size_toArray, List.length_cons, List.length_nil, Nat.reduceAdd, Nat.reduceSub, Array.replicate_succ, Array.replicate_zero, List.push_toArray, List.append_toArray, List.nil_append, List.cons_append]
  refine wpB_seq_wp (fun K hK => ?_)
  go_wp2
  refine wpB_seq_wp (fun K hK => ?_)
  go_wp2
  refine wpB_seq ?_
  refine wpB_region ?_
  show opB _ _ _ _ [0, 1, 2] _ _
  refine opB_tryRecv (c := c) (z := .int .i64 0) rfl rfl (by decide) (by first | (simp [go_sem, execOp, rcase, Act.eval]; done) | (simp [go_sem, execOp, rcase, Act.eval]; rfl)) hch (fun hsome => ?_) (fun hnone => ?_)
  · obtain ⟨y, t, rfl⟩ : ∃ y t, buf = y :: t := by
      cases buf with
      | nil => simp at hsome
      | cons y t => exact ⟨y, t, rfl⟩
    clear hsome hch hp
    refine opB_op rfl rfl (fun K hK => ?_)
    unfold valB
    go_simp
    refine hK _ _ ?_
    clear hK K
    refine opB_op rfl rfl (fun K hK => ?_)
    unfold valB
    go_simp
    refine hK _ _ ?_
    clear hK K
    refine opB_nil ?_
    show wpB _ _ _ _ _ _
    refine wpB_of_wp ?_
    go_wp2
    rw [← hR.out]
    have hle := H.out.le.2
    refine ⟨by simp, ?_, frb_setChan _ _ _ _ _ _ _ _⟩
    exact H.out.set (buf' := t) (by simp at hle; omega) _ _
  · have hb : buf = [] := by simpa using hnone
    subst hb
    clear hnone hch hp
    refine opB_op rfl rfl (fun K hK => ?_)
    unfold valB
    go_simp
    refine hK _ _ ?_
    clear hK K
    refine opB_op rfl rfl (fun K hK => ?_)
    unfold valB
    go_simp
    refine hK _ _ ?_
    clear hK K
    refine opB_nil ?_
    show wpB _ _ _ _ _ _
    refine wpB_of_wp ?_
    go_wp2
    rw [← hR.out]
    exact ⟨rfl, H.out, FrB.refl _ _⟩

set_option maxHeartbeats 4000000 in
theorem fetch_string {w : World} {B c cap : Nat} {buf : List Value} (h : BoxS w B c cap buf) :
    Calls Try.prog 44 #[.pointer (some ⟨B, 0, none⟩)] w fun e w' => e = .returned (.tuple #[buf.headD (.string ByteArray.empty), .bool (decide (buf ≠ []))]) ∧ BoxS w' B c cap buf.tail ∧ FrB (fun k => k = c) w w' := by
  obtain ⟨s, r, hch⟩ := h.ch
  have hp := h.p.1
  have H := Lib.hid h
  obtain ⟨R, hR⟩ : ∃ R : Ending → World → Prop, (fun e w' => e = .returned (.tuple #[buf.headD (.string ByteArray.empty), .bool (decide (buf ≠ []))]) ∧ BoxS w' B c cap buf.tail ∧ FrB (fun k => k = c) w w') = R := ⟨_, rfl⟩
  rw [hR]
  replace hR := Lib.hid hR
  clear h
  refine calls_of_wpB Try.func44 rfl ?_
  simp only [Try.ntmps44, List.size_toArray, List.length_cons, List.length_nil, Nat.reduceAdd, Nat.reduceSub, Array.replicate_succ, Array.replicate_zero, List.push_toArray, List.append_toArray, List.nil_append, List.cons_append]
  refine wpB_seq_wp (fun K hK => ?_)
  go_wp2
  refine wpB_seq_wp (fun K hK => ?_)
  go_wp2
  refine wpB_seq ?_
  refine wpB_region ?_
  show opB _ _ _ _ [0, 1, 2] _ _
  refine opB_tryRecv (c := c) (z := .string ByteArray.empty) rfl rfl (by decide) (by first | (simp [go_sem, execOp, rcase, Act.eval]; done) | (simp [go_sem, execOp, rcase, Act.eval]; rfl)) hch (fun hsome => ?_) (fun hnone => ?_)
  · obtain ⟨y, t, rfl⟩ : ∃ y t, buf = y :: t := by
      cases buf with
      | nil => simp at hsome
      | cons y t => exact ⟨y, t, rfl⟩
    clear hsome hch hp
    refine opB_op rfl rfl (fun K hK => ?_)
    unfold valB
    go_simp
    refine hK _ _ ?_
    clear hK K
    refine opB_op rfl rfl (fun K hK => ?_)
    unfold valB
    go_simp
    refine hK _ _ ?_
    clear hK K
    refine opB_nil ?_
    show wpB _ _ _ _ _ _
    refine wpB_of_wp ?_
    go_wp2
    rw [← hR.out]
    have hle := H.out.le.2
    refine ⟨by simp, ?_, frb_setChan _ _ _ _ _ _ _ _⟩
    exact H.out.set (buf' := t) (by simp at hle; omega) _ _
  · have hb : buf = [] := by simpa using hnone
    subst hb
    clear hnone hch hp
    refine opB_op rfl rfl (fun K hK => ?_)
    unfold valB
    go_simp
    refine hK _ _ ?_
    clear hK K
    refine opB_op rfl rfl (fun K hK => ?_)
    unfold valB
    go_simp
    refine hK _ _ ?_
    clear hK K
    refine opB_nil ?_
    show wpB _ _ _ _ _ _
    refine wpB_of_wp ?_
    go_wp2
    rw [← hR.out]
    exact ⟨rfl, H.out, FrB.refl _ _⟩
end Go.Proofs.Ytkpiphihmmhhpaa
