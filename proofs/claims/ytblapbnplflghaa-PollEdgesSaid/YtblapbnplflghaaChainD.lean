/- All of package chain, and Same. -/
import Derived.Test.YtblapbnplflghaaChainC
import Derived.Test.YtblapbnplflghaaOwn
import Derived.Deep.LoopGhost
namespace Go.Proofs.Ytblapbnplflghaa
open Go.RowKit
set_option linter.unusedVariables false
set_option linter.unusedSimpArgs false

/-- From number h on, by next, come the numbers ks. -/
def Ch.Seq (s : Ch) : Int → List Nat → Prop
  | h, [] => h = -1
  | h, x :: t => h = x ∧ x < s.n ∧ Ch.Seq s (s.lk x 2) t

/-- The list j is the numbers ks. -/
def Ch.Row (s : Ch) (j : Int) (ks : List Nat) : Prop := (s.firstB j = false ∧ ks = []) ∨ (s.firstB j = true ∧ ks ≠ [] ∧ s.Seq (s.firstV j) ks)

def natsI (ks : List Nat) : List Int := ks.map Int.ofNat

end Go.Proofs.Ytblapbnplflghaa
