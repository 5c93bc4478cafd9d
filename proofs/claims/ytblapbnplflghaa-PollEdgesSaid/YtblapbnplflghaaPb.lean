/- Boxes in memory; what is done with them. No condition. -/
import Derived.Test.YtblapbnplflghaaComm
import Derived.Test.YtblapbnplflghaaOwnE
import Derived.Conc.LoneSelectN
namespace Go.Proofs.Ytblapbnplflghaa
open Go.RowKit Go.Conc
set_option linter.unusedVariables false
set_option linter.unusedSimpArgs false
set_option maxRecDepth 100000

/-- A box: its variable B, its channel c, what waits. -/
structure BoxS (w : World) (B c cap : Nat) (buf : List Value) : Prop where
  p : Cel w B 0 (.chan (some c))
  ch : ∃ s r, w.heap[c]? = some (.chan cap buf.toArray false s r false)
  ne : B ≠ c
  le : cap ≤ 4096 ∧ buf.length ≤ cap
theorem BoxS.lt {w : World} {B c cap : Nat} {buf : List Value} (h : BoxS w B c cap buf) : B < w.heap.size ∧ c < w.heap.size := by
  obtain ⟨s, r, hc⟩ := h.ch
  exact ⟨h.p.lt, lt_of_block hc⟩
theorem BoxS.frb {S : Nat → Prop} {w w' : World} {B c cap : Nat} {buf : List Value} (h : BoxS w B c cap buf) (F : FrB S w w') (hB : ¬ S B) (hc : ¬ S c) : BoxS w' B c cap buf := by
  have hl := h.lt
  obtain ⟨s, r, hch⟩ := h.ch
  exact ⟨h.p.frb F hB, ⟨s, r, (F.block c hl.2 hc).trans hch⟩, h.ne, h.le⟩
theorem BoxS.below {w w' : World} {B c cap : Nat} {buf : List Value} (h : BoxS w B c cap buf) (F : Below w.heap.size w w') : BoxS w' B c cap buf :=
  h.frb (FrB.of_below (S := fun _ => False) F (Nat.le_refl _)) (fun h => h) (fun h => h)
theorem frb_setChan (w : World) (c cap : Nat) (buf : Array Value) (cl : Bool) (s r : Nat) (tm : Bool) : FrB (fun k => k = c) w (w.setChan c cap buf cl s r tm) :=
  ⟨rfl, rfl, rfl, by rw [size_setChan]; exact Nat.le_refl _, fun k hk hn => by simp only [World.setChan]; exact Array.getElem?_setIfInBounds_ne (fun e => hn e.symm)⟩
theorem BoxS.set {w : World} {B c cap : Nat} {buf buf' : List Value} (h : BoxS w B c cap buf) (hl : buf'.length ≤ cap) (s r : Nat) : BoxS (w.setChan c cap buf'.toArray false s r false) B c cap buf' :=
  ⟨h.p.frb (frb_setChan _ _ _ _ _ _ _ _) h.ne, ⟨s, r, heap_setChan _ _ _ _ _ _ _ _ h.lt.2⟩, h.ne, ⟨h.le.1, hl⟩⟩

theorem BoxS.setc {w : World} {B c cap k o : Nat} {buf : List Value} (h : BoxS w B c cap buf) (hB : k ≠ B) (hc : k ≠ c) (u : Value) : BoxS (w.setCell ⟨k, o, none⟩ u) B c cap buf :=
  h.frb (FrB.set _ _ _) (fun e => hB e.symm) (fun e => hc e.symm)
theorem BoxS.alloc {w : World} {B c cap : Nat} {buf : List Value} (h : BoxS w B c cap buf) (ob : Obj) : BoxS (w.alloc ob) B c cap buf := h.below ((Below.refl _ _).alloc (Nat.le_refl _) ob)
theorem FrB.setc {S : Nat → Prop} {w W : World} {k o : Nat} (h : FrB S w W) (hk : w.heap.size ≤ k) (u : Value) : FrB S w (W.setCell ⟨k, o, none⟩ u) :=
  h.then_ (FrB.set W ⟨k, o, none⟩ u) (fun i hi e => absurd e (by simp only; omega))
theorem FrB.allc {S : Nat → Prop} {w W : World} (h : FrB S w W) (o : Obj) : FrB S w (W.alloc o) := h.then_ (FrB.alloc S W o) (fun _ _ h => h)

set_option maxHeartbeats 4000000 in
theorem post_note {w : World} {B c cap : Nat} {buf : List Value} (h : BoxS w B c cap buf) (x y : Int) :
    Calls Try.prog 34 #[.pointer (some ⟨B, 0, none⟩), .agg #[.int .i64 x, .int .i64 y]] w fun e w' => e = .returned (.bool (decide (buf.length < cap))) ∧ BoxS w' B c cap (if buf.length < cap then buf ++ [.agg #[.int .i64 x, .int .i64 y]] else buf) ∧ FrB (fun k => k = c) w w' := by
  obtain ⟨s, r, hch⟩ := h.ch
  have hp := h.p.1
  have H := Lib.hid h
  obtain ⟨R, hR⟩ : ∃ R : Ending → World → Prop, (fun e w' => e = .returned (.bool (decide (buf.length < cap))) ∧ BoxS w' B c cap (if buf.length < cap then buf ++ [.agg #[.int .i64 x, .int .i64 y]] else buf) ∧ FrB (fun k => k = c) w w') = R := ⟨_, rfl⟩
  rw [hR]
  replace hR := Lib.hid hR
  have h0 := Lib.hid h
  clear h
  refine calls_of_wpB Try.func34 rfl ?_
  simp only [Try.ntmps34, List.size_toArray, List.length_cons, List.length_nil, Nat.reduceAdd, Nat.reduceSub, Array.replicate_succ, Array.replicate_zero, List.push_toArray, List.append_toArray, List.nil_append, List.cons_append]
  have hB := h0.out.lt
  refine wpB_seq_wp (fun K hK => ?_)
  go_wp2
  have H1 := Lib.hid (H.out.below (Below.alloc (Below.refl w.heap.size w) (Nat.le_refl _) (.cells #[.int .i64 x, .int .i64 y] 67)))
  have x0 := (Cel.new w #[.int .i64 x, .int .i64 y] 67 0 (.int .i64 x) rfl).1
  have x1 := (Cel.new w #[.int .i64 x, .int .i64 y] 67 1 (.int .i64 y) rfl).1
  have F0 := Lib.hid (FrB.alloc (fun k => k = c) w (.cells #[.int .i64 x, .int .i64 y] 67))
  clear H hp hch hB h0 s r
  generalize w.alloc (.cells #[.int .i64 x, .int .i64 y] 67) = W at *
  generalize w.heap.size = Z at *
  have H := H1
  obtain ⟨s, r, hch⟩ := H.out.ch
  have hp := H.out.p.1
  refine wpB_seq_wp (fun K hK => ?_)
  go_wp2
  refine wpB_seq ?_
  refine wpB_region ?_
  show opB _ _ _ _ [0, 1, 2] _ _
  refine opB_trySend (c := c) (v := .agg #[.int .i64 x, .int .i64 y]) rfl rfl (by decide) (by first | (simp [go_sem, execOp, scase, Act.eval]; done) | (simp [go_sem, execOp, scase, Act.eval]; rfl)) hch (fun hroom => ?_) (fun hfull => ?_)
  · have hl : buf.length < cap := by simpa using hroom
    clear hroom hch hp
    refine opB_op rfl rfl (fun K hK => ?_)
    unfold valB
    go_simp
    refine hK _ _ ?_
    clear hK K
    refine opB_op rfl rfl (fun K hK => ?_)
    unfold valB
    go_simp
    refine hK _ _ ?_
    clear hK K
    refine opB_nil ?_
    show wpB _ _ _ _ _ _
    refine wpB_of_wp ?_
    go_wp2
    rw [← hR.out, if_pos hl, decide_eq_true hl]
    exact ⟨rfl, H.out.set (buf' := buf ++ [.agg #[.int .i64 x, .int .i64 y]]) (by simp; omega) _ _, F0.out.then_ (frb_setChan _ _ _ _ _ _ _ _) (fun _ _ h => h)⟩
  · have hl : ¬ buf.length < cap := by
      have : cap ≤ buf.length := by simpa using hfull
      omega
    clear hfull hch hp
    refine opB_op rfl rfl (fun K hK => ?_)
    unfold valB
    go_simp
    refine hK _ _ ?_
    clear hK K
    refine opB_op rfl rfl (fun K hK => ?_)
    unfold valB
    go_simp
    refine hK _ _ ?_
    clear hK K
    refine opB_nil ?_
    show wpB _ _ _ _ _ _
    refine wpB_of_wp ?_
    go_wp2
    rw [← hR.out, if_neg hl, decide_eq_false hl]
    exact ⟨rfl, H.out, F0.out⟩

abbrev ntV (x : Int × Int) : Value := .agg #[.int .i64 x.1, .int .i64 x.2]
set_option maxHeartbeats 4000000 in
theorem fetch_note {w : World} {B c cap : Nat} {ns : List (Int × Int)} (hA : BoxS w B c cap (ns.map ntV)) :
    Calls Try.prog 37 #[.pointer (some ⟨B, 0, none⟩)] w fun e w' => e = .returned (.tuple #[ntV (ns.headD (0, 0)), .bool (decide (ns ≠ []))]) ∧ BoxS w' B c cap (ns.tail.map ntV) ∧ FrB (fun k => k = c) w w' := by
  have HA := Lib.hid hA
  obtain ⟨R, hR⟩ : ∃ R : Ending → World → Prop, (fun e w' => e = .returned (.tuple #[ntV (ns.headD (0, 0)), .bool (decide (ns ≠ []))]) ∧ BoxS w' B c cap (ns.tail.map ntV) ∧ FrB (fun k => k = c) w w') = R := ⟨_, rfl⟩
  rw [hR]
  replace hR := Lib.hid hR
  clear hA
  refine calls_of_wpB Try.func37 rfl ?_
  simp only [Try.ntmps37, List.size_toArray, List.length_cons, List.length_nil, Nat.reduceAdd, Nat.reduceSub, Array.replicate_succ, Array.replicate_zero, List.push_toArray, List.append_toArray, List.nil_append, List.cons_append]
  refine wpB_seq_wp (fun K hK => ?_)
  go_wp2
  have hZ : Hid (w.heap.size ≠ B ∧ w.heap.size ≠ c) := Lib.hid (by have := HA.out.lt; omega)
  have G0 := Lib.hid (Below.alloc (Below.refl w.heap.size w) (Nat.le_refl _) (.cells #[.int .i64 0, .int .i64 0] 67))
  have q0 := Cel.new w #[.int .i64 0, .int .i64 0] 67 0 (.int .i64 0) rfl
  have q1 := Cel.new w #[.int .i64 0, .int .i64 0] 67 1 (.int .i64 0) rfl
  replace q0 := Lib.hid q0; replace q1 := Lib.hid q1
  replace HA := Lib.hid (HA.out.below G0.out)
  have hzl : w.heap.size < (w.alloc (.cells #[.int .i64 0, .int .i64 0] 67)).heap.size := by simp
  generalize w.alloc (.cells #[.int .i64 0, .int .i64 0] 67) = W at *
  obtain ⟨s, r, hch⟩ := HA.out.ch
  replace hch := Lib.hid hch
  have hp := HA.out.p.1
  refine wpB_seq_wp (fun K hK => ?_)
  go_wp2
  refine wpB_seq ?_
  refine wpB_region ?_
  show opB _ _ _ _ [0, 1, 2] _ _
  refine opB_tryRecv (c := c) (z := .agg #[.int .i64 0, .int .i64 0]) rfl rfl (by decide) (by first | (simp [go_sem, execOp, rcase, Act.eval]; done) | (simp [go_sem, execOp, rcase, Act.eval]; rfl)) hch.out (fun hsome => ?_) (fun hnone => ?_)
  · obtain ⟨y, t, rfl⟩ : ∃ y t, ns = y :: t := by
      cases ns with
      | nil => simp at hsome
      | cons y t => exact ⟨y, t, rfl⟩
    obtain ⟨y1, y2⟩ := y
    clear hsome hch hp
    have e9 : ((((y1, y2) :: t).map ntV).toArray).extract 1 ((((y1, y2) :: t).map ntV).toArray).size = (t.map ntV).toArray := by simp; exact List.take_of_length_le (by simp)
    rw [e9]
    have hle := HA.out.le.2
    have HA1 := Lib.hid (HA.out.set (buf' := t.map ntV) (by simp at hle ⊢; omega) s (r + 1))
    have F1 := Lib.hid (frb_setChan W c cap (t.map ntV).toArray false s (r + 1) false)
    have GF := Lib.hid ((FrB.of_below (S := fun k => k = c) G0.out (Nat.le_refl _)).then_ F1.out (fun _ _ h => h))
    have u0 := q0.out.frb F1.out hZ.out.2
    have u1 := q1.out.frb F1.out hZ.out.2
    have hz1 := Nat.lt_of_lt_of_le hzl F1.out.size
    clear e9 hle q0 q1 hzl F1
    generalize W.setChan c cap (t.map ntV).toArray false s (r + 1) false = W1 at *
    refine opB_op rfl rfl (fun K hK => ?_)
    unfold valB
    go_simp
    refine hK _ _ ?_
    clear hK K
    refine opB_op rfl rfl (fun K hK => ?_)
    unfold valB
    go_simp
    refine hK _ _ ?_
    clear hK K
    refine opB_nil ?_
    show wpB _ _ _ _ _ _
    refine wpB_of_wp ?_
    have HA2 := HA1
    have GF2 := GF
    have n0 := (Cel.new W1 #[.int .i64 y1, .int .i64 y2] 67 0 (.int .i64 y1) rfl).1
    have n1 := (Cel.new W1 #[.int .i64 y1, .int .i64 y2] 67 1 (.int .i64 y2) rfl).1
    clear HA1 GF
    obtain ⟨v0a, v0b⟩ := u0
    obtain ⟨v1a, v1b⟩ := u1
    go_wp2
    rw [← hR.out]
    refine bodyPost_ret (v := .tuple #[.agg #[.int .i64 y1, .int .i64 y2], .bool true]) (by simp [results, Try.results37, go_sem, *]) rfl ⟨rfl, ((HA2.out.setc hZ.out.1 hZ.out.2 _).setc hZ.out.1 hZ.out.2 _).alloc _, ((GF2.out.setc (Nat.le_refl _) _).setc (Nat.le_refl _) _).allc _⟩
  · have hb : ns = [] := by
      cases ns with
      | nil => rfl
      | cons y t => simp at hnone
    subst hb
    clear hnone hch hp
    refine opB_op rfl rfl (fun K hK => ?_)
    unfold valB
    go_simp
    refine hK _ _ ?_
    clear hK K
    refine opB_op rfl rfl (fun K hK => ?_)
    unfold valB
    go_simp
    refine hK _ _ ?_
    clear hK K
    refine opB_nil ?_
    show wpB _ _ _ _ _ _
    refine wpB_of_wp ?_
    have HA2 := HA
    have GF2 := Lib.hid ((FrB.of_below (S := fun k => k = c) G0.out (Nat.le_refl _)))
    have n0 := (Cel.new W #[.int .i64 0, .int .i64 0] 67 0 (.int .i64 0) rfl).1
    have n1 := (Cel.new W #[.int .i64 0, .int .i64 0] 67 1 (.int .i64 0) rfl).1
    obtain ⟨v0a, v0b⟩ := q0.out
    obtain ⟨v1a, v1b⟩ := q1.out
    clear q0 q1 HA
    go_wp2
    rw [← hR.out]
    refine bodyPost_ret (v := .tuple #[.agg #[.int .i64 0, .int .i64 0], .bool false]) (by simp [results, Try.results37, go_sem, *]) rfl ⟨rfl, ((HA2.out.setc hZ.out.1 hZ.out.2 _).setc hZ.out.1 hZ.out.2 _).alloc _, ((GF2.out.setc (Nat.le_refl _) _).setc (Nat.le_refl _) _).allc _⟩

def capN (room : Int) : Nat := (max 0 (min room 4096)).toNat

theorem mk_note (w : World) (n : Nat) (hn : n ≤ 4096) : (Instr.makeChan 95 (.int .i64 (n : Int))).run Try.prog w = .ok (.chan (some w.heap.size)) (w.alloc (.chan n #[] false 0 0 false)) := by
  have h : (Try.prog.info? 67).map (·.bytes) = some 16 := by kernel_rfl
  obtain ⟨i, hi, hb⟩ := Option.map_eq_some_iff.1 h
  simpa using run_makeChan (P := Try.prog) (w := w) Try.underlying95 hi .i64 n (by omega) (by rw [hb]; omega)
set_option maxHeartbeats 4000000 in
theorem new_note (w : World) (room : Int) {cap : Nat} (hcap : cap = capN room) :
    Calls Try.prog 26 #[.int .i64 room] w fun e w' => ∃ B c, e = .returned (.pointer (some ⟨B, 0, none⟩)) ∧ BoxS w' B c cap [] ∧ w.heap.size ≤ B ∧ w.heap.size ≤ c ∧ Below w.heap.size w w' := by
  have hc : cap ≤ 4096 := by rw [hcap]; unfold capN; omega
  have three : (room ≤ 0 ∧ cap = 0) ∨ (0 < room ∧ room ≤ 4096 ∧ room = (cap : Int)) ∨ (4096 < room ∧ cap = 4096) := by rw [hcap]; unfold capN; omega
  have HC := Lib.hid hc
  have fin : Hid (∃ B c, Ending.returned (.pointer (some ⟨w.heap.size + 1, 0, none⟩)) = .returned (.pointer (some ⟨B, 0, none⟩)) ∧ BoxS ((w.alloc (.chan cap #[] false 0 0 false)).alloc (.cells #[.chan (some w.heap.size)] 97)) B c cap [] ∧ w.heap.size ≤ B ∧ w.heap.size ≤ c ∧ Below w.heap.size w ((w.alloc (.chan cap #[] false 0 0 false)).alloc (.cells #[.chan (some w.heap.size)] 97))) := Lib.hid (by
    refine ⟨w.heap.size + 1, w.heap.size, rfl, ⟨?_, ⟨0, 0, ?_⟩, by omega, ⟨HC.out, Nat.zero_le _⟩⟩, by omega, Nat.le_refl _, ?_⟩
    · have := Cel.new (w.alloc (.chan cap #[] false 0 0 false)) #[.chan (some w.heap.size)] 97 0 (.chan (some w.heap.size)) rfl
      rw [World.size_alloc] at this
      exact this
    · rw [Below.heap_alloc _ _ _ (by simp)]
      exact heap_alloc_new w _
    · exact ((Below.refl w.heap.size w).alloc (Nat.le_refl _) _).alloc (by simp) _)
  clear hcap hc
  rcases three with ⟨h1, rfl⟩ | ⟨h0, h1, rfl⟩ | ⟨h1, rfl⟩
  · have hmk : ∀ w : World, (Instr.makeChan 95 (.int .i64 0)).run Try.prog w = .ok (.chan (some w.heap.size)) (w.alloc (.chan 0 #[] false 0 0 false)) := fun w => mk_note w 0 (by omega)
    have h2 : room ≤ 4096 := by omega
    have h3 : ¬ 0 < room := by omega
    by_cases h4 : room = 0
    · subst h4
      go_enter Try.func26, Try.ntmps26
      go_wp2
      go_ret
      obtain ⟨B, c, k1, k2⟩ := fin.out; exact ⟨B, k1, c, k2⟩
    have h5 : room < 0 := by omega
    have h6 : ¬ 0 ≤ room := by omega
    go_enter Try.func26, Try.ntmps26
    go_wp2
    go_ret
    obtain ⟨B, c, k1, k2⟩ := fin.out; exact ⟨B, k1, c, k2⟩
  · have hmk := fun w => mk_note w cap HC.out
    have h2 := HC.out
    have h3 : ¬ ((cap : Int) < 0) := by omega
    have h4 : 0 < cap := by omega
    have h5 : ¬ cap = 0 := by omega
    have h6 : ¬ ((cap : Int) ≤ 0) := by omega
    go_enter Try.func26, Try.ntmps26
    go_wp2
    go_ret
    obtain ⟨B, c, k1, k2⟩ := fin.out; exact ⟨B, k1, c, k2⟩
  · have hmk : ∀ w : World, (Instr.makeChan 95 (.int .i64 4096)).run Try.prog w = .ok (.chan (some w.heap.size)) (w.alloc (.chan 4096 #[] false 0 0 false)) := fun w => mk_note w 4096 (by omega)
    have h2 : ¬ room ≤ 4096 := by omega
    go_enter Try.func26, Try.ntmps26
    go_wp2
    go_ret
    obtain ⟨B, c, k1, k2⟩ := fin.out; exact ⟨B, k1, c, k2⟩
end Go.Proofs.Ytblapbnplflghaa
