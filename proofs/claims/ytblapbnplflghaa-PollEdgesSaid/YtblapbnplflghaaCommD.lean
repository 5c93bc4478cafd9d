/- Walks over channels: a region that draws its order, whichever order it is. No condition. -/
import Derived.Test.YtblapbnplflghaaComm
import Derived.Orders
namespace Go.Proofs.Ytblapbnplflghaa
open Go.RowKit Go.Conc
set_option linter.unusedVariables false
set_option linter.unusedSimpArgs false

/-- All orders that a region may draw. -/
def allOrders (md : Region.Mode) (ops : Array Oper) : Nat → Array Bool → List (List Nat)
  | 0, _ => [[]]
  | n + 1, listed => match Region.ready md ops listed with
    | [] => [[]]
    | i :: L => (i :: L).flatMap fun j => (allOrders md ops n (listed.setIfInBounds j true)).map (j :: ·)
theorem mem_orders {md : Region.Mode} {ops : Array Oper} : ∀ (n t : Nat) (listed : Array Bool), Region.linearise.go md ops n t listed [] ∈ allOrders md ops n listed := by
  intro n
  induction n with
  | zero => intro t listed; simp [Region.linearise.go, allOrders]
  | succ n ih =>
    intro t listed
    simp only [Region.linearise.go, allOrders]
    change (match (Region.ready md ops listed)[t % (Region.ready md ops listed).length]? with
      | some i => Region.linearise.go md ops n (t / (Region.ready md ops listed).length) (listed.setIfInBounds i true) [i]
      | none => [].reverse) ∈ _
    cases hr : Region.ready md ops listed with
    | nil => simp
    | cons x xs =>
      have hlt : t % (x :: xs).length < (x :: xs).length := Nat.mod_lt _ (by simp)
      rw [List.getElem?_eq_getElem hlt]
      simp only []
      rw [linearise_go_acc, List.reverse_singleton, List.singleton_append, List.mem_flatMap]
      exact ⟨_, List.getElem_mem hlt, List.mem_map.2 ⟨_, ih _ _, rfl⟩⟩
section
variable {P : Program} {b : Frame} {Q Q' : Exit → Act → World → Prop} {a : Act} {w : World} {ops : Array Oper}
theorem opB_mono {l : List Nat} (h : opB P b ops Q l a w) (hq : ∀ e a w, Q e a w → Q' e a w) : opB P b ops Q' l a w := fun k cs => by
  obtain ⟨e, a', w', h1, h2⟩ := h k cs
  exact ⟨e, a', w', hq _ _ _ h1, h2⟩
theorem wpB_regionD {id : Nat} (hm : P.follows .mixedOrders = true) (L : List (List Nat)) (hL : allOrders .any ops ops.size (Array.replicate ops.size false) = L) (h : ∀ l ∈ L, opB P b ops Q l a w.drew) : wpB P b (.region id ops true) Q a w := by
  intro k cs
  have hmem : Region.schedule (P.follows .mixedOrders) ops (w.tape w.drawn (.order b.fn id)) ∈ L := by
    rw [← hL, hm]
    simp only [Region.schedule, Bool.true_or, if_true]
    exact mem_orders _ _ _
  obtain ⟨e, a', w', q, r⟩ := h _ hmem k cs
  exact ⟨e, a', w', q, .of_steps (.one step_region_draw) r⟩
/-- The frame behind some results. -/
def putsA (a : Act) (l : List (Option Nat × Value)) : Act := l.foldl (fun a p => a.put p.1 p.2) a
/-- Whichever order it is, it comes to the same. -/
theorem wpB_regionD1 {id : Nat} {w5 : World} (W : World) (ps : List (Option Nat × Value)) (hw : w.drew = w5) (hm : P.follows .mixedOrders = true) (L : List (List Nat)) (hL : allOrders .any ops ops.size (Array.replicate ops.size false) = L)
    (h : ∀ l ∈ L, opB P b ops (fun e a' w' => e = .normal ∧ a' = putsA a ps ∧ w' = W) l a w5) (k : Q .normal (putsA a ps) W) : wpB P b (.region id ops true) Q a w := by
  subst hw
  exact wpB_regionD hm L hL fun l hl => opB_mono (h l hl) (fun e a w hx => by obtain ⟨rfl, rfl, rfl⟩ := hx; exact k)
end
end Go.Proofs.Ytblapbnplflghaa
