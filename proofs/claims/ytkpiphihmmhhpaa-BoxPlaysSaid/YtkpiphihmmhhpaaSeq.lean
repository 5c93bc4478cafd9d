/- A region that draws its order, walked in ONE order: reads that hold in every world of S are taken first, all else comes up alone. The order is checked once, by the kernel. No condition. -/
import Derived.Test.YtkpiphihmmhhpaaMem
import Derived.Deep.RegionHeld3
import Derived.Deep.RegionWith
namespace Go.Proofs.Ytkpiphihmmhhpaa
open Go.RowKit
set_option linter.unusedVariables false
set_option linter.unusedSimpArgs false

/-- May the region be walked in this order? (true: a read, taken first; false: the only one that may come up) -/
def seqOK (md : Region.Mode) (ops : Array Oper) : Array Bool → List (Nat × Bool) → Bool
  | listed, [] => (Region.ready md ops listed).isEmpty
  | listed, (i, r) :: L => (match r with
      | true => (Region.ready md ops listed).contains i && Region.free md ops listed i
      | false => Region.ready md ops listed == [i]) && seqOK md ops (listed.setIfInBounds i true) L

section
variable {P : Program} {l : List Oper} {Q : Exit → Act → World → Prop} {md : Region.Mode} {S : World → Prop} {L : List (Nat × Bool)} {i : Nat} {a : Act} {w : World} {o : Oper} {v : Value}
/-- From here on the region goes in the order L. -/
def SeqH (P : Program) (md : Region.Mode) (l : List Oper) (Q : Exit → Act → World → Prop) (S : World → Prop) (L : List (Nat × Bool)) (a : Act) (w : World) : Prop :=
  S w → Region.noSelect l.toArray = true → (∀ c d v a w, Q (.panic c) (a.put d v) w → Q (.panic c) a w) → ∀ listed, seqOK md l.toArray listed L = true → wpAnyH P md l.toArray Q S L.length listed a w
theorem seq_start {id : Nat} (L : List (Nat × Bool)) (S : World → Prop) (hm : P.follows .mixedOrders = true) (hs : Region.noSelect l.toArray = true)
    (hn : L.length = l.length) (hok : seqOK .any l.toArray (Array.replicate l.length false) L = true) (hS : S w.drew) (h : SeqH P .any l (NoPanic Q) S L a w.drew) : (Code.region id l.toArray true).wp P Q a w := by
  refine wp_region_noPanic (wp_region_held (S := S) hm ?_)
  have := h hS hs (fun _ _ _ _ _ h => h) _ hok
  rw [hn] at this
  simpa using this
theorem seq_read (ho : l[i]? = some o) (hw : Region.wanted o (yielded l.toArray a.tmps) = true) (hv : ∀ w, S w → (execOp a.eval o).run P w = .ok (.value v) w)
    (h : SeqH P md l Q S L (a.put o.dst v) w) : SeqH P md l Q S ((i, true) :: L) a w := by
  intro hS hs hQ listed hok
  simp only [seqOK, Bool.and_eq_true] at hok
  exact wpAnyH_take (by simpa using ho) hs hok.1.2 hok.1.1 (fun c a w => hQ c _ _ a w) (.inl ⟨hw, hv⟩) hS (h hS hs hQ _ hok.2)
theorem seq_skip (ho : l[i]? = some o) (hw : Region.wanted o (yielded l.toArray a.tmps) = false) (h : SeqH P md l Q S L (a.put o.dst undef) w) : SeqH P md l Q S ((i, true) :: L) a w := by
  intro hS hs hQ listed hok
  simp only [seqOK, Bool.and_eq_true] at hok
  exact wpAnyH_take (by simpa using ho) hs hok.1.2 hok.1.1 (fun c a w => hQ c _ _ a w) (.inr ⟨hw, rfl⟩) hS (h hS hs hQ _ hok.2)
theorem seq_call (ho : l[i]? = some o)
    (h : ∀ K' : Act → World → Prop, Shut (∀ a w, S w → SeqH P md l Q S L a w → K' a w) → if Region.wanted o (yielded l.toArray a.tmps) = true then Oper.wp P o a w K' Q else K' (a.put o.dst undef) w) : SeqH P md l Q S ((i, false) :: L) a w := by
  intro hS hs hQ listed hok
  simp only [seqOK, Bool.and_eq_true, beq_iff_eq] at hok
  exact wpAnyH_ready hok.1 (by simp) (AllReadyH.cons (by simpa using ho) (fun K' hK => h K' (fun a w hS' hW => hK.out a w hS' (fun _ => hW hS' hs hQ _ hok.2))) AllReadyH.nil)
theorem seq_out (ho : l[i]? = some o) (hw : Region.wanted o (yielded l.toArray a.tmps) = false) (h : SeqH P md l Q S L (a.put o.dst undef) w) : SeqH P md l Q S ((i, false) :: L) a w := by
  intro hS
  exact seq_call ho (fun K' hK => by rw [hw]; exact hK.out _ _ hS h) hS
theorem seq_done (h : Q .normal a w) : SeqH P md l (NoPanic Q) S [] a w := by
  intro hS hs hQ listed hok
  exact wpAnyH_done (by simpa [seqOK] using hok) (NoPanic.normal h) _
theorem wpOp_up {ops : Array Oper} {K K' : Act → World → Prop} (h : ∀ a w, K a w → K' a w) {i : Nat} (hh : wpOp P ops Q i K a w) : wpOp P ops Q i K' a w := wpOp_mono h hh
theorem anyH_up {ops : Array Oper} {S' : World → Prop} (h : ∀ w, S' w → S w) : ∀ (fuel : Nat) (listed : Array Bool) (a : Act) (w : World), wpAnyH P md ops Q S' fuel listed a w → wpAnyH P md ops Q S fuel listed a w
  | 0, _, _, _, hh => hh
  | fuel + 1, listed, a, w, hh => ⟨hh.1, fun i hi => wpOp_mono (fun a' w' hx => ⟨h w' hx.1, anyH_up h fuel _ a' w' hx.2⟩) (hh.2 i hi)⟩
/-- More is known of the world from here on. -/
theorem seq_up (S' : World → Prop) (h : ∀ w, S' w → S w) (hS' : S' w) (hh : SeqH P md l Q S' L a w) : SeqH P md l Q S L a w :=
  fun hS hs hQ listed hok => anyH_up h _ _ _ _ (hh hS' hs hQ listed hok)
end
end Go.Proofs.Ytkpiphihmmhhpaa
