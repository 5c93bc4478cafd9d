/- A region that draws its order, whose operations read, and whose callees leave a world of one kind: one walk serves every order. No condition. -/
import Derived.Test.YtblapbnplflghaaMem
import Derived.BigQuiet
namespace Go.Proofs.Ytblapbnplflghaa
open Go.RowKit
set_option linter.unusedVariables false
set_option linter.unusedSimpArgs false
set_option maxRecDepth 100000

/-- A world of a kind. -/
structure Sin (p : World → Prop) where
  X : World
  h : p X
/-- The class of the worlds of a kind. -/
abbrev sinC (p : World → Prop) : World → Prop := fun X => ∃ t : Sin p, X = t.X
theorem wp_region_sin {P : Program} {id : Nat} {Q : Exit → Act → World → Prop} {a : Act} {w : World} {l : List Oper} (p : World → Prop) (hp : p w.drew) (hm : P.follows .mixedOrders = true) (hB : Region.lexB .any l.toArray = true)
    (h : wpQuiet P l.toArray (fun X => ∃ t : Sin p, X = t.X) (fun a' => ∀ w', (∃ t : Sin p, w' = t.X) → Q .normal a' w') l a) : (Code.region id l.toArray true).wp P Q a w :=
  wp_region_quiet (C := fun X => ∃ t : Sin p, X = t.X) hm hB ⟨⟨w.drew, hp⟩, rfl⟩ (by simpa using h)
/-- What a callee leaves is of the kind. -/
theorem Calls.sin {P : Program} {f : FuncId} {args : Array Value} {w : World} {p : World → Prop} {v : Value} {R : Ending → World → Prop} (h : Calls P f args w R) (hR : ∀ e w', R e w' → e = .returned v ∧ p w') :
    Calls P f args w fun e w'' => e = .returned v ∧ ∃ t : Sin p, w'' = t.X :=
  h.mono fun e w' hr => ⟨(hR e w' hr).1, ⟨w', (hR e w' hr).2⟩, rfl⟩
theorem blA {w a : World} (h : Below w.heap.size w a) (o : Obj) : Below w.heap.size w (a.alloc o) := h.alloc h.size o
theorem blD {w a : World} (h : Below w.heap.size w a) : Below w.heap.size w a.drew := ⟨h.os, h.tape, h.output, h.size, h.block⟩
theorem blN {w a : World} (h : Below w.heap.size w a) (n : Nat) : Below w.heap.size w (a.drewN n) := ⟨h.os, h.tape, h.output, h.size, h.block⟩
theorem blT {w a b : World} (h : Below w.heap.size w a) (k : Below a.heap.size a b) : Below w.heap.size w b := h.trans (k.mono h.size)
theorem blS {w a : World} (h : Below w.heap.size w a) {k o : Nat} (hk : w.heap.size ≤ k) (v : Value) : Below w.heap.size w (a.setCell ⟨k, o, none⟩ v) := h.setCell (p := ⟨k, o, none⟩) hk v
end Go.Proofs.Ytblapbnplflghaa
