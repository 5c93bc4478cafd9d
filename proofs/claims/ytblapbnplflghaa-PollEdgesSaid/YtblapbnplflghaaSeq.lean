/- A region that draws its order, walked in ONE order: reads that hold in every world of S are taken first, all else comes up alone; behind the operation m, for which all reads are waited, S need no longer hold. The order is checked once, by the kernel. No condition. -/
import Derived.Test.YtblapbnplflghaaMem
import Derived.Deep.RegionHeld3
import Derived.Deep.RegionWith
namespace Go.Proofs.Ytblapbnplflghaa
open Go.RowKit
set_option linter.unusedVariables false
set_option linter.unusedSimpArgs false

/-- Does m wait for i, at once or through others? -/
def waitsN (md : Region.Mode) (ops : Array Oper) : Nat → Nat → Nat → Bool
  | 0, _, _ => false
  | n + 1, m, i => match ops[m]? with
    | none => false
    | some o => (o.after.toList.any fun e => Region.binds md e && e.on == i) || o.after.toList.any fun e => Region.binds md e && waitsN md ops n e.on i
def waitsFor (md : Region.Mode) (ops : Array Oper) (m i : Nat) : Bool := match ops[m]? with
  | none => true
  | some o => waitsN md ops 3 m i
/-- What has come up had all come up that it waited for. -/
def closedL (md : Region.Mode) (ops : Array Oper) (listed : Array Bool) : Prop :=
  ∀ j oj, ops[j]? = some oj → listed.getD j false = true → ∀ e ∈ oj.after, Region.binds md e = true → listed.getD e.on false = true
/-- May the region be walked in this order? (true: a read, taken first; false: the only one that may come up) -/
def seqOK (md : Region.Mode) (ops : Array Oper) (m : Nat) : Array Bool → List (Nat × Bool) → Bool
  | listed, [] => (Region.ready md ops listed).isEmpty
  | listed, (i, r) :: L => (match r with
      | true => (Region.ready md ops listed).contains i && Region.free md ops listed i && waitsFor md ops m i
      | false => Region.ready md ops listed == [i]) && seqOK md ops m (listed.setIfInBounds i true) L

section
variable {P : Program} {ops : Array Oper} {Q : Exit → Act → World → Prop} {md : Region.Mode} {S : World → Prop} {m : Nat}
/-- Whatever order is picked: S holds behind every operation but m. -/
def wpAnyM (P : Program) (md : Region.Mode) (ops : Array Oper) (Q : Exit → Act → World → Prop) (S : World → Prop) (m : Nat) : Nat → Array Bool → Act → World → Prop
  | 0, listed, a, w => Region.ready md ops listed = [] ∧ Q .normal a w
  | fuel + 1, listed, a, w =>
    (Region.ready md ops listed = [] → Q .normal a w) ∧
    ∀ i ∈ Region.ready md ops listed, wpOp P ops Q i (fun a' w' => (i ≠ m → S w') ∧ wpAnyM P md ops Q S m fuel (listed.setIfInBounds i true) a' w') a w
theorem wpAny_of_M : ∀ (fuel : Nat) (listed : Array Bool) (a : Act) (w : World), wpAnyM P md ops Q S m fuel listed a w → wpAny P md ops Q fuel listed a w
  | 0, _, _, _, h => h
  | fuel + 1, _, _, _, h => ⟨h.1, fun i hi => wpOp_mono (fun a' w' h' => wpAny_of_M fuel _ a' w' h'.2) (h.2 i hi)⟩
theorem closedL_set {listed : Array Bool} {j : Nat} (hc : closedL md ops listed) (hj : j ∈ Region.ready md ops listed) : closedL md ops (listed.setIfInBounds j true) := by
  obtain ⟨hjun, oj, hoj, hall⟩ := mem_ready.1 hj
  intro k ok hk hl e he hb
  by_cases hjk : j = k
  · subst hjk
    rw [hoj] at hk
    injection hk with hk; subst hk
    exact getD_set_true (hall e he hb)
  · rw [getD_set_ne false hjk] at hl
    exact getD_set_true (hc k ok hk hl e he hb)
theorem closedL_start (n : Nat) : closedL md ops (Array.replicate n false) := by
  intro j oj hj hl
  rw [Array.getD_eq_getD_getElem?, Array.getElem?_replicate] at hl
  split at hl <;> simp at hl
theorem waitsN_not {listed : Array Bool} (hc : closedL md ops listed) {i : Nat} (hi : listed.getD i false = false) : ∀ n m om, ops[m]? = some om → waitsN md ops n m i = true → ∃ e ∈ om.after, Region.binds md e = true ∧ listed.getD e.on false = false
  | 0, m, om, hm, h => by simp [waitsN] at h
  | n + 1, m, om, hm, h => by
    simp only [waitsN, hm] at h
    rw [Bool.or_eq_true] at h
    rcases h with h | h
    · obtain ⟨e, he, hb⟩ := List.any_eq_true.1 h
      simp only [Bool.and_eq_true, beq_iff_eq] at hb
      exact ⟨e, by simpa using he, hb.1, by rw [hb.2]; exact hi⟩
    · obtain ⟨e, he, hb⟩ := List.any_eq_true.1 h
      rw [Bool.and_eq_true] at hb
      refine ⟨e, by simpa using he, hb.1, ?_⟩
      have h1 := hb.2
      cases ho : ops[e.on]? with
      | none => 
        cases n with
        | zero => simp [waitsN] at h1
        | succ n => simp [waitsN, ho] at h1
      | some oe =>
        obtain ⟨e2, he2, hb2, hl2⟩ := waitsN_not hc hi n e.on oe ho h1
        by_cases hl : listed.getD e.on false = true
        · have := hc e.on oe ho hl e2 he2 hb2
          rw [hl2] at this; cases this
        · simpa using hl
theorem wpAnyM_first {i : Nat} {oi : Oper} {v : Value} (hi : ops[i]? = some oi) (hsel : ∀ (j : Nat) (o : Oper) cs b, ops[j]? = some o → o.op ≠ .select cs b)
    (hQ : ∀ c a w, Q (.panic c) (a.put oi.dst v) w → Q (.panic c) a w) (hmi : waitsFor md ops m i = true) :
    ∀ (fuel : Nat) (listed : Array Bool) (a : Act) (w : World), closedL md ops listed →
      (∀ j oj, ops[j]? = some oj → j ≠ i → listed.getD j true = false → (∀ e ∈ oj.after, Region.binds md e = true → e.on ≠ i) → oi.apart ops oj = true) →
      i ∈ Region.ready md ops listed → YieldsIf P ops S oi v a → S w →
      wpAnyM P md ops Q S m fuel (listed.setIfInBounds i true) (a.put oi.dst v) w → wpAnyM P md ops Q S m (fuel + 1) listed a w := by
  intro fuel
  induction fuel with
  | zero =>
    intro listed a w hcl _ hr hy hS H
    refine ⟨fun h => (by rw [h] at hr; cases hr), fun j hj => ?_⟩
    by_cases hji : j = i
    · subst hji; exact hy.wpOp hi hS ⟨fun _ => hS, H⟩
    · have := ready_mono hj hji
      rw [H.1] at this
      cases this
  | succ fuel ih =>
    intro listed a w hcl hfree hr hy hS H
    refine ⟨fun h => (by rw [h] at hr; cases hr), fun j hj => ?_⟩
    by_cases hji : j = i
    · subst hji; exact hy.wpOp hi hS ⟨fun _ => hS, H⟩
    · have h1 := H.2 j (ready_mono hj hji)
      obtain ⟨hjun, oj, hoj, hall⟩ := mem_ready.1 hj
      have hnot : ∀ e ∈ oj.after, Region.binds md e = true → e.on ≠ i := fun e he hb heq => by
        have h1 := hall e he hb
        have h0 := (mem_ready.1 hr).1
        rw [heq] at h1
        rcases Nat.lt_or_ge i listed.size with h' | h'
        · simp [h'] at h0 h1; rw [h0] at h1; cases h1
        · simp [Array.getElem?_eq_none h'] at h1
      have hjm : j ≠ m := fun e => by
        subst e
        unfold waitsFor at hmi
        rw [hoj] at hmi
        have h0 : listed.getD i false = false := by
          have h0 := (mem_ready.1 hr).1
          rcases Nat.lt_or_ge i listed.size with h' | h'
          · simp [h'] at h0 ⊢; exact h0
          · simp [Array.getElem?_eq_none h']
        obtain ⟨e, he, hb, hl⟩ := waitsN_not hcl h0 _ _ _ hoj hmi
        have := hall e he hb
        rw [hl] at this; cases this
      have h2 := wpOp_putIf hoj (hfree j oj hoj hji hjun hnot) (fun cs b => hsel i oi cs b hi) (fun cs b => hsel j oj cs b hoj) hQ hy h1
      have hfree' : ∀ k ok, ops[k]? = some ok → k ≠ i → (listed.setIfInBounds j true).getD k true = false →
          (∀ e ∈ ok.after, Region.binds md e = true → e.on ≠ i) → oi.apart ops ok = true := fun k ok hk hki hun hno => by
        refine hfree k ok hk hki ?_ hno
        by_cases hjk : j = k
        · subst hjk; exact hjun
        · rw [getD_set_ne true hjk] at hun; exact hun
      refine wpOp_mono (fun a' w' h3 => ⟨h3.2.1, ih (listed.setIfInBounds j true) a' w' (closedL_set hcl hj) hfree' (ready_mono hr (Ne.symm hji)) h3.1 (h3.2.1 hjm) ?_⟩) h2
      rw [Array.setIfInBounds_comm _ _ hji]
      exact h3.2.2
theorem wpAnyM_done {listed : Array Bool} {a : Act} {w : World} (hr : Region.ready md ops listed = []) (h : Q .normal a w) : ∀ fuel, wpAnyM P md ops Q S m fuel listed a w
  | 0 => ⟨hr, h⟩
  | _ + 1 => ⟨fun _ => h, by rw [hr]; simp⟩
theorem anyM_up {S' : World → Prop} (h : ∀ w, S' w → S w) : ∀ (fuel : Nat) (listed : Array Bool) (a : Act) (w : World), wpAnyM P md ops Q S' m fuel listed a w → wpAnyM P md ops Q S m fuel listed a w
  | 0, _, _, _, hh => hh
  | fuel + 1, listed, a, w, hh => ⟨hh.1, fun i hi => wpOp_mono (fun a' w' hx => ⟨fun hm => h w' (hx.1 hm), anyM_up h fuel _ a' w' hx.2⟩) (hh.2 i hi)⟩
end

section
variable {P : Program} {l : List Oper} {Q : Exit → Act → World → Prop} {md : Region.Mode} {S : World → Prop} {L : List (Nat × Bool)} {i m : Nat} {a : Act} {w : World} {o : Oper} {v : Value}
/-- From here on the region goes in the order L. -/
def SeqH (P : Program) (md : Region.Mode) (l : List Oper) (m : Nat) (Q : Exit → Act → World → Prop) (S : World → Prop) (L : List (Nat × Bool)) (a : Act) (w : World) : Prop :=
  S w → Region.noSelect l.toArray = true → (∀ c d v a w, Q (.panic c) (a.put d v) w → Q (.panic c) a w) → ∀ listed, closedL md l.toArray listed → seqOK md l.toArray m listed L = true → wpAnyM P md l.toArray Q S m L.length listed a w
theorem seq_startM {id : Nat} (m : Nat) (L : List (Nat × Bool)) (S : World → Prop) (hm : P.follows .mixedOrders = true) (hs : Region.noSelect l.toArray = true)
    (hn : L.length = l.length) (hok : seqOK .any l.toArray m (Array.replicate l.length false) L = true) (hS : S w.drew) (h : SeqH P .any l m (NoPanic Q) S L a w.drew) : (Code.region id l.toArray true).wp P Q a w := by
  refine wp_region_noPanic (wp_region_any hm (wpAny_of_M (S := S) (m := m) _ _ _ _ ?_))
  have := h hS hs (fun _ _ _ _ _ h => h) _ (closedL_start _) hok
  rw [hn] at this
  simpa using this
theorem seq_start {id : Nat} (L : List (Nat × Bool)) (S : World → Prop) (hm : P.follows .mixedOrders = true) (hs : Region.noSelect l.toArray = true)
    (hn : L.length = l.length) (hok : seqOK .any l.toArray l.length (Array.replicate l.length false) L = true) (hS : S w.drew) (h : SeqH P .any l l.length (NoPanic Q) S L a w.drew) : (Code.region id l.toArray true).wp P Q a w :=
  seq_startM l.length L S hm hs hn hok hS h
theorem seq_read (ho : l[i]? = some o) (hw : Region.wanted o (yielded l.toArray a.tmps) = true) (hv : ∀ w, S w → (execOp a.eval o).run P w = .ok (.value v) w)
    (h : SeqH P md l m Q S L (a.put o.dst v) w) : SeqH P md l m Q S ((i, true) :: L) a w := by
  intro hS hs hQ listed hcl hok
  simp only [seqOK, Bool.and_eq_true] at hok
  exact wpAnyM_first (by simpa using ho) (Region.noSelect_spec hs) (fun c a w => hQ c _ _ a w) hok.1.2 _ _ _ _ hcl (Region.free_spec (by simpa using ho) hok.1.1.2) (by simpa using hok.1.1.1) (.inl ⟨hw, hv⟩) hS (h hS hs hQ _ (closedL_set hcl (by simpa using hok.1.1.1)) hok.2)
theorem seq_skip (ho : l[i]? = some o) (hw : Region.wanted o (yielded l.toArray a.tmps) = false) (h : SeqH P md l m Q S L (a.put o.dst undef) w) : SeqH P md l m Q S ((i, true) :: L) a w := by
  intro hS hs hQ listed hcl hok
  simp only [seqOK, Bool.and_eq_true] at hok
  exact wpAnyM_first (by simpa using ho) (Region.noSelect_spec hs) (fun c a w => hQ c _ _ a w) hok.1.2 _ _ _ _ hcl (Region.free_spec (by simpa using ho) hok.1.1.2) (by simpa using hok.1.1.1) (.inr ⟨hw, rfl⟩) hS (h hS hs hQ _ (closedL_set hcl (by simpa using hok.1.1.1)) hok.2)
theorem seq_call (ho : l[i]? = some o)
    (h : ∀ K' : Act → World → Prop, Shut (∀ a w, S w → SeqH P md l m Q S L a w → K' a w) → if Region.wanted o (yielded l.toArray a.tmps) = true then Oper.wp P o a w K' Q else K' (a.put o.dst undef) w) : SeqH P md l m Q S ((i, false) :: L) a w := by
  intro hS hs hQ listed hcl hok
  have hok0 := hok
  simp only [seqOK, Bool.and_eq_true, beq_iff_eq] at hok
  refine ⟨fun h0 => (by rw [hok.1] at h0; cases h0), fun j hj => ?_⟩
  rw [hok.1] at hj
  have : j = i := by simpa using hj
  subst this
  exact wpOp_step (by simpa using ho) (fun K' hK => h K' (fun a w h1 h3 => hK a w ⟨fun _ => h1, h3 h1 hs hQ _ (closedL_set hcl (by rw [hok.1]; simp)) hok.2⟩))
/-- The last operation, for which all reads were waited: S need not hold behind it. -/
theorem seq_last (ho : l[m]? = some o)
    (h : ∀ K' : Act → World → Prop, Shut (∀ a w, Q .normal a w → K' a w) → if Region.wanted o (yielded l.toArray a.tmps) = true then Oper.wp P o a w K' (NoPanic Q) else K' (a.put o.dst undef) w) : SeqH P md l m (NoPanic Q) S [(m, false)] a w := by
  intro hS hs hQ listed hcl hok
  simp only [seqOK, Bool.and_eq_true, beq_iff_eq] at hok
  refine ⟨fun h0 => (by rw [hok.1] at h0; cases h0), fun j hj => ?_⟩
  rw [hok.1] at hj
  have : j = m := by simpa using hj
  subst this
  exact wpOp_step (by simpa using ho) (fun K' hK => h K' (fun a w h1 => hK a w ⟨fun h => absurd rfl h, wpAnyM_done (by simpa using hok.2) (NoPanic.normal h1) _⟩))
theorem seq_out (ho : l[i]? = some o) (hw : Region.wanted o (yielded l.toArray a.tmps) = false) (h : SeqH P md l m Q S L (a.put o.dst undef) w) : SeqH P md l m Q S ((i, false) :: L) a w := by
  intro hS
  exact seq_call ho (fun K' hK => by rw [hw]; exact hK.out _ _ hS h) hS
theorem seq_done (h : Q .normal a w) : SeqH P md l m (NoPanic Q) S [] a w := by
  intro hS hs hQ listed hcl hok
  exact wpAnyM_done (by simpa [seqOK] using hok) (NoPanic.normal h) _
/-- More is known of the world from here on. -/
theorem seq_up (S' : World → Prop) (h : ∀ w, S' w → S w) (hS' : S' w) (hh : SeqH P md l m Q S' L a w) : SeqH P md l m Q S L a w :=
  fun hS hs hQ listed hcl hok => anyM_up h _ _ _ _ (hh hS' hs hQ listed hcl hok)
end
end Go.Proofs.Ytblapbnplflghaa
