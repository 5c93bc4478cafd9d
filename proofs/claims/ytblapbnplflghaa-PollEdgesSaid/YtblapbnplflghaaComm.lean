/- Walks of functions that talk over channels, nobody else being there: what a walk is at one frame, and the rules of communications. No condition. -/
import Derived.Test.YtblapbnplflghaaMem
import Derived.Conc.LoneCalls
import Derived.Conc.LoneSelect
namespace Go.Proofs.Ytblapbnplflghaa
open Go.RowKit Go.Conc
set_option linter.unusedVariables false
set_option linter.unusedSimpArgs false

/-- From this code on, at this frame, a way out that satisfies Q is come to. -/
def wpB (P : Program) (b : Frame) (c : Code) (Q : Exit → Act → World → Prop) (a : Act) (w : World) : Prop :=
  ∀ (k : List Item) (cs : List Frame), ∃ e a' w', Q e a' w' ∧ Arrives P (lone (b.at a (.code c :: k)) cs w) b k cs e a' w'
/-- The same from the operations l of a region on. -/
def opB (P : Program) (b : Frame) (ops : Array Oper) (Q : Exit → Act → World → Prop) (l : List Nat) (a : Act) (w : World) : Prop :=
  ∀ (k : List Item) (cs : List Frame), ∃ e a' w', Q e a' w' ∧ Arrives P (lone (b.at a (.inRegion ops l :: k)) cs w) b k cs e a' w'
section
variable {P : Program} {b : Frame} {Q : Exit → Act → World → Prop} {a : Act} {w : World}
theorem wpB_of_wp {c : Code} (h : c.wp P Q a w) : wpB P b c Q a w := h b
theorem wpB_seq {x y : Code} (h : wpB P b x (Exit.then (wpB P b y Q) Q) a w) : wpB P b (.seq x y) Q a w := by
  intro k cs
  obtain ⟨e, a₁, w₁, hq, harr⟩ := h (.code y :: k) cs
  cases e
  case normal =>
    obtain ⟨e₂, a₂, w₂, hq₂, harr₂⟩ := hq k cs
    exact ⟨e₂, a₂, w₂, hq₂, .of_steps (.head step_seq harr) harr₂⟩
  all_goals exact ⟨_, a₁, w₁, hq, .of_steps (.one step_seq) (.pass (x := .code y) rfl (fun _ _ => .inl (by simp)) harr)⟩
/-- The first part without a communication: the kit's walk. -/
theorem wpB_seq_wp {x y : Code} (h : ∀ K : Act → World → Prop, (∀ a w, wpB P b y Q a w → K a w) → x.wp P (Exit.then K Q) a w) : wpB P b (.seq x y) Q a w :=
  wpB_seq (wpB_of_wp (h _ fun _ _ h => h))
theorem wpB_cond {c : Operand} {x y : Code} {t : Bool} (hc : a.eval c = .bool t) (h : wpB P b (if t then x else y) Q a w) : wpB P b (.cond c x y) Q a w :=
  fun k cs => let ⟨e, a', w', q, r⟩ := h k cs; ⟨e, a', w', q, .of_steps (.one (step_cond hc)) r⟩
theorem wpB_block {id : Nat} {c : Code} (h : wpB P b c (Exit.inBlock id Q) a w) : wpB P b (.block id c) Q a w := by
  intro k cs
  obtain ⟨e, a₁, w₁, hq, harr⟩ := h (.inBlock id :: k) cs
  cases e
  case normal => exact ⟨.normal, a₁, w₁, hq, .head step_block (Steps.trans harr (.one step_inBlock))⟩
  case exit id' =>
    by_cases hid : id' = id
    · simp only [Exit.inBlock, hid, if_true] at hq
      exact ⟨.normal, a₁, w₁, hq, .head step_block (harr k (by simp [exitTo, hid]))⟩
    · simp only [Exit.inBlock, hid, if_false] at hq
      have hne : (id == id') = false := beq_eq_false_iff_ne.mpr (fun h => hid h.symm)
      exact ⟨.exit id', a₁, w₁, hq, fun k' hk => .head step_block (harr k' (by simp [exitTo, hne, hk]))⟩
  case goto l => exact ⟨_, a₁, w₁, hq, fun k' hk => .head step_block (harr k' (by simp [gotoIn, hk]))⟩
  case ret => exact ⟨_, a₁, w₁, hq, .of_steps (.one step_block) harr⟩
  case panic ch => exact ⟨_, a₁, w₁, hq, .of_steps (.one step_block) harr⟩
  case outgrown => exact ⟨_, a₁, w₁, hq, .of_steps (b := b) (k := k) (cs := cs) (e := .outgrown) (.one step_block) harr⟩
theorem wpB_loop {c : Code} (I : Act → World → Prop) (μ : Act → World → Nat) (h₀ : I a w)
    (round : ∀ a w, I a w → wpB P b c (Exit.then (fun a' w' => I a' w' ∧ μ a' w' < μ a w) Q) a w) : wpB P b (.loop c) Q a w := by
  intro k cs
  have key : ∀ n a w, μ a w = n → I a w → ∃ e a' w', Q e a' w' ∧ Arrives P (lone (b.at a (.code c :: .inLoop c :: k)) cs w) b k cs e a' w' := by
    intro n
    induction n using Nat.strongRecOn with
    | _ n ih =>
      intro a w hn hI
      obtain ⟨e, a₁, w₁, hq, harr⟩ := round a w hI (.inLoop c :: k) cs
      cases e
      case normal =>
        obtain ⟨e₂, a₂, w₂, hq₂, harr₂⟩ := ih (μ a₁ w₁) (hn ▸ hq.2) a₁ w₁ rfl hq.1
        exact ⟨e₂, a₂, w₂, hq₂, .of_steps (Steps.trans harr (.one step_inLoop)) harr₂⟩
      all_goals exact ⟨_, a₁, w₁, hq, .pass (x := .inLoop c) rfl (fun _ _ => .inl (by simp)) harr⟩
  obtain ⟨e, a', w', hq, harr⟩ := key _ a w rfl h₀
  exact ⟨e, a', w', hq, .of_steps (.one step_loop) harr⟩
theorem wpB_region {id : Nat} {ops : Array Oper} (h : opB P b ops Q (List.range ops.size) a w) : wpB P b (.region id ops false) Q a w :=
  fun k cs => let ⟨e, a', w', q, r⟩ := h k cs; ⟨e, a', w', q, .of_steps (.one step_region) r⟩

/-- A function's contract out of the walk at its own frame. -/
theorem calls_of_wpB {f : FuncId} {fn : Func} {c : Code} {args : Array Value} {R : Ending → World → Prop} (hf : P.funcs[f]? = some fn) (hb : fn.body = some c)
    (h : wpB P (base f) c (bodyPost P fn R) { tmps := args ++ Array.replicate (fn.ntmps - args.size) undef, defers := [] } w) : Calls P f args w R := by
  intro cs
  have henter := enter_at (P := P) args hf hb
  obtain ⟨e, a', w', hq, harr⟩ := h [] cs
  rw [← henter] at harr
  cases e with
  | normal =>
    obtain ⟨hd, v, hr, hR⟩ := hq
    exact ⟨.returned v, w', _, hR, Steps.trans harr (.one step_end), rfl, rfl, hd, rfl, fn, hf, hr⟩
  | ret =>
    obtain ⟨hd, v, hr, hR⟩ := hq
    obtain ⟨todo, hs⟩ := harr
    exact ⟨.returned v, w', _, hR, hs, rfl, rfl, hd, rfl, fn, hf, hr⟩
  | panic chain =>
    obtain ⟨hd, hR⟩ := hq
    obtain ⟨todo, hs⟩ := harr
    exact ⟨.panicked chain, w', _, hR, hs, rfl, rfl, hd, fn, hf⟩
  | exit id => exact hq.elim
  | goto l => exact hq.elim
  | outgrown => exact ⟨.outgrown, w', base f, hq, harr.resolve_left (by simp [base]), rfl, trivial⟩

variable {ops : Array Oper} {i : Nat} {rest : List Nat} {o : Oper}
theorem opB_nil (h : Q .normal a w) : opB P b ops Q [] a w := fun k cs => ⟨.normal, a, w, h, .one step_region_end⟩
/-- One operation that yields a value. -/
def valB (P : Program) (o : Oper) (a : Act) (w : World) (K : Act → World → Prop) : Prop :=
  match (execOp a.eval o).run P w with
  | .ok (.value v) w' => K (a.put o.dst v) w'
  | .ok .skip w' => K (a.put o.dst undef) w'
  | _ => False
theorem opB_step {k : List Item} {cs : List Frame} {v : Value} {w' : World} (ho : ops[i]? = some o)
    (h : ∃ e a' w'', Q e a' w'' ∧ Arrives P (lone (b.at (a.put o.dst v) (.inRegion ops rest :: k)) cs w') b k cs e a' w'')
    (hs : step P (lone (b.at a (.inRegion ops (i :: rest) :: k)) cs w) = .next (lone ((b.at a (.inRegion ops (i :: rest) :: k)).finish v) cs w')) :
    ∃ e a' w'', Q e a' w'' ∧ Arrives P (lone (b.at a (.inRegion ops (i :: rest) :: k)) cs w) b k cs e a' w'' := by
  obtain ⟨e, a', w'', hq, harr⟩ := h
  have hfin : (b.at a (.inRegion ops (i :: rest) :: k)).finish v = b.at (a.put o.dst v) (.inRegion ops rest :: k) := by rw [Frame.finish_at, ho]; rfl
  rw [hfin] at hs
  exact ⟨e, a', w'', hq, .of_steps (.one hs) harr⟩
theorem opB_op (ho : ops[i]? = some o) (hw : Region.wanted o (yielded ops a.tmps) = true) (h : ∀ K : Act → World → Prop, (∀ a w, opB P b ops Q rest a w → K a w) → valB P o a w K) : opB P b ops Q (i :: rest) a w := by
  intro k cs
  have h2 := h _ (fun _ _ h => h)
  unfold valB at h2
  have hg := stepG_op (P := P) (b := b) (k := k) (cs := cs) (w := w) (rest := rest) ho hw
  split at h2
  · rename_i v w' hr
    exact opB_step ho (h2 k cs) (step_lone_go (by rw [hg]; simp [stepG.apply, hr]))
  · rename_i w' hr
    exact opB_step ho (h2 k cs) (step_lone_go (by rw [hg]; simp [stepG.apply, hr]))
  · exact h2.elim

variable {c cap s r : Nat} {buf : Array Value} {v z : Value}
/-- A send with room. -/
theorem opB_send (ho : ops[i]? = some o) (hw : Region.wanted o (yielded ops a.tmps) = true) (hk : b.kind ≠ .early) (hr : (execOp a.eval o).run P w = .ok (.comm #[scase c v z] true .send) w)
    (hc : w.heap[c]? = some (.chan cap buf false s r false)) (hroom : buf.size < cap) (h : opB P b ops Q rest (a.put o.dst (.tuple #[])) (w.setChan c cap (buf.push v) false (s + 1) r false)) : opB P b ops Q (i :: rest) a w := by
  intro k cs
  exact opB_step ho (h k cs) (step_lone_send_room (stepG_comm ho hw hk hr) hc hroom)
/-- A receive from the buffer. -/
theorem opB_recv (ho : ops[i]? = some o) (hw : Region.wanted o (yielded ops a.tmps) = true) (hk : b.kind ≠ .early) (hr : (execOp a.eval o).run P w = .ok (.comm #[rcase c z] true (.recv false)) w)
    (hc : w.heap[c]? = some (.chan cap buf false s r false)) (hsome : 0 < buf.size) (h : opB P b ops Q rest (a.put o.dst (buf.getD 0 undef)) (w.setChan c cap (buf.extract 1 buf.size) false s (r + 1) false)) : opB P b ops Q (i :: rest) a w := by
  intro k cs
  exact opB_step ho (h k cs) (step_lone_recv_buf false (stepG_comm ho hw hk hr) hc hsome)
/-- A select of one send, with a default. -/
theorem opB_trySend (ho : ops[i]? = some o) (hw : Region.wanted o (yielded ops a.tmps) = true) (hk : b.kind ≠ .early) (hr : (execOp a.eval o).run P w = .ok (.comm #[scase c v z] false .select) w)
    (hc : w.heap[c]? = some (.chan cap buf false s r false)) (h1 : buf.size < cap → opB P b ops Q rest (a.put o.dst (.tuple #[goInt 0, .bool false])) (w.setChan c cap (buf.push v) false (s + 1) r false))
    (h2 : cap ≤ buf.size → opB P b ops Q rest (a.put o.dst (.tuple #[goInt (-1), .bool false])) w) : opB P b ops Q (i :: rest) a w := by
  intro k cs
  rcases Nat.lt_or_ge buf.size cap with hl | hl
  · exact opB_step ho (h1 hl k cs) (step_lone_select_send_room (stepG_comm ho hw hk hr) hc hl)
  · exact opB_step ho (h2 hl k cs) (step_lone_select_send_full (stepG_comm ho hw hk hr) hc hl)
/-- A select of one receive, with a default. -/
theorem opB_tryRecv (ho : ops[i]? = some o) (hw : Region.wanted o (yielded ops a.tmps) = true) (hk : b.kind ≠ .early) (hr : (execOp a.eval o).run P w = .ok (.comm #[rcase c z] false .select) w)
    (hc : w.heap[c]? = some (.chan cap buf false s r false)) (h1 : 0 < buf.size → opB P b ops Q rest (a.put o.dst (.tuple #[goInt 0, .bool true, buf.getD 0 undef])) (w.setChan c cap (buf.extract 1 buf.size) false s (r + 1) false))
    (h2 : buf = #[] → opB P b ops Q rest (a.put o.dst (.tuple #[goInt (-1), .bool false, z])) w) : opB P b ops Q (i :: rest) a w := by
  intro k cs
  rcases Nat.eq_zero_or_pos buf.size with hl | hl
  · have hb : buf = #[] := Array.eq_empty_of_size_eq_zero hl
    subst hb
    exact opB_step ho (h2 rfl k cs) (step_lone_select_default (stepG_comm ho hw hk hr) hc)
  · exact opB_step ho (h1 hl k cs) (step_lone_select_recv_buf (stepG_comm ho hw hk hr) hc hl)
end
end Go.Proofs.Ytblapbnplflghaa
