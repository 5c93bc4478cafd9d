/-
  No cell of these rows narrows 'for every input' (looked for: loops, veiled, ifaces, maps, wideKeys, modest, calm, conditions, laid).
  DERIVED. THE GIVEN ROWS OF THIS SEAT. 4 by the template 'for every input the law returns true; each argument reads behind the call as it read before'; 0 by the template 'total and deterministic' (their statements: YtblapbnplflghaaTotals.lean).
  GIVEN WITH THE SEED: the statements are not yours to turn. If you find one false, say at which input.
  Laid BY PROGRAM, IN A SANDBOX (cutbox-rows.mjs): the forced cells as the released guide's own fill.sh prints them over the translation c84da63f63fe59da… (all of the seat's roots in one cut). By AI agents, Wed Nov 11 2026. No macro, syntax, notation, axiom, sorry.
-/
import Derived.Test.YtblapbnplflghaaChecked
import GoSem.Claim
import GoSem.ClaimJoined
import GoSem.ClaimMapViews
import Derived.JoinedTies
import Derived.KernelRfl
namespace Go.Proofs.Ytblapbnplflghaa
/- THE CELL 'sum', in the pinned program and in every row, IS THE sha256 OF THE DUMP (.gsa) THAT YtblapbnplflghaaProg.lean LOADS. Nothing in Lean hashes anything: it is a label: what it is worth is what the hold of that sum in a sandbox is worth. -/
noncomputable def Try.pinned : Pinned := { name := "ytblapbnplflghaa", sum := "c84da63f63fe59dae8a04efb44335fec9cb12b9f178d5e758a1b5a3be6f98ce4", checked := Try.checked }
namespace Rows
def none {H : Type} : Left H := { results := [], args := [] }

/-- 'nightjarlaw13.PollKeeps': WHATEVER THE INPUT: true; the input reads as it did. -/
def pollKeepsSpec : ChangeSpec := { name := "pollKeeps", fn := fun _ => fun
  | [d1, d2] => { results := [.lit (.bool true)], args := [d1, d2] }
  | _ => none }
def pollKeepsRow : OpenClaim := { program := "ytblapbnplflghaa", sum := "c84da63f63fe59dae8a04efb44335fec9cb12b9f178d5e758a1b5a3be6f98ce4", func := "nightjar/nightjarlaw13.PollKeeps", spec := "pollKeeps", unfollowed := true, recurses := true, apart := false }
def PollKeepsSaid : Prop := pollKeepsRow.holds Try.pinned (OpenSpec.ofChange pollKeepsSpec)

/-- ITS FALSE NEIGHBOUR: 'it returns false'. Refute it at one input. -/
def pollKeepsWrong : ChangeSpec := { name := "pollKeeps", fn := fun _ => fun
  | [d1, d2] => { results := [.lit (.bool false)], args := [d1, d2] }
  | _ => none }
def PollKeepsWrongFalsely : Prop := pollKeepsRow.holds Try.pinned (OpenSpec.ofChange pollKeepsWrong)

/-- 'nightjarlaw13.PollEdges': WHATEVER THE INPUT: true; the input reads as it did. -/
def pollEdgesSpec : ChangeSpec := { name := "pollEdges", fn := fun _ => fun
  | [d1, d2, d3] => { results := [.lit (.bool true)], args := [d1, d2, d3] }
  | _ => none }
def pollEdgesRow : OpenClaim := { program := "ytblapbnplflghaa", sum := "c84da63f63fe59dae8a04efb44335fec9cb12b9f178d5e758a1b5a3be6f98ce4", func := "nightjar/nightjarlaw13.PollEdges", spec := "pollEdges", unfollowed := true, recurses := true, apart := false }
def PollEdgesSaid : Prop := pollEdgesRow.holds Try.pinned (OpenSpec.ofChange pollEdgesSpec)

/-- ITS FALSE NEIGHBOUR: 'it returns false'. Refute it at one input. -/
def pollEdgesWrong : ChangeSpec := { name := "pollEdges", fn := fun _ => fun
  | [d1, d2, d3] => { results := [.lit (.bool false)], args := [d1, d2, d3] }
  | _ => none }
def PollEdgesWrongFalsely : Prop := pollEdgesRow.holds Try.pinned (OpenSpec.ofChange pollEdgesWrong)

/-- 'nightjarlaw13.PollTurns': WHATEVER THE INPUT: true; the input reads as it did. -/
def pollTurnsSpec : ChangeSpec := { name := "pollTurns", fn := fun _ => fun
  | [d1, d2, d3] => { results := [.lit (.bool true)], args := [d1, d2, d3] }
  | _ => none }
def pollTurnsRow : OpenClaim := { program := "ytblapbnplflghaa", sum := "c84da63f63fe59dae8a04efb44335fec9cb12b9f178d5e758a1b5a3be6f98ce4", func := "nightjar/nightjarlaw13.PollTurns", spec := "pollTurns", unfollowed := true, recurses := true, apart := false }
def PollTurnsSaid : Prop := pollTurnsRow.holds Try.pinned (OpenSpec.ofChange pollTurnsSpec)

/-- ITS FALSE NEIGHBOUR: 'it returns false'. Refute it at one input. -/
def pollTurnsWrong : ChangeSpec := { name := "pollTurns", fn := fun _ => fun
  | [d1, d2, d3] => { results := [.lit (.bool false)], args := [d1, d2, d3] }
  | _ => none }
def PollTurnsWrongFalsely : Prop := pollTurnsRow.holds Try.pinned (OpenSpec.ofChange pollTurnsWrong)

/-- 'nightjarlaw13.PollApart': WHATEVER THE INPUT: true; the input reads as it did. -/
def pollApartSpec : ChangeSpec := { name := "pollApart", fn := fun _ => fun
  | [d] => { results := [.lit (.bool true)], args := [d] }
  | _ => none }
def pollApartRow : OpenClaim := { program := "ytblapbnplflghaa", sum := "c84da63f63fe59dae8a04efb44335fec9cb12b9f178d5e758a1b5a3be6f98ce4", func := "nightjar/nightjarlaw13.PollApart", spec := "pollApart", unfollowed := true, recurses := true, apart := false }
def PollApartSaid : Prop := pollApartRow.holds Try.pinned (OpenSpec.ofChange pollApartSpec)

/-- ITS FALSE NEIGHBOUR: 'it returns false'. Refute it at one input. -/
def pollApartWrong : ChangeSpec := { name := "pollApart", fn := fun _ => fun
  | [d] => { results := [.lit (.bool false)], args := [d] }
  | _ => none }
def PollApartWrongFalsely : Prop := pollApartRow.holds Try.pinned (OpenSpec.ofChange pollApartWrong)

/- THE SECOND FORM. 'bulk': how many values and letters a reading holds, each counted each time it is reached (what is shared counts as often as it is met; a slice's spare places count too). A statement '..UptoSaid' is the law's where the arguments, and the package variables that the reading takes, are together of bulk at most 1048576: NARROWER than '..Said'. Prove '..Said' where nothing that the law and all that it calls make is longer than what came in: it says more and counts as full. Else prove '..UptoSaid'. A law counts once. -/
mutual
def uptoBulk {H : Type} : DataW H → Nat
  | .lit (.string bytes) => bytes.length + 1
  | .lit _ => 1
  | .nil => 1
  | .ptr d => uptoBulk d + 1
  | .slice elems spare => uptoBulkAll elems + uptoBulkAll spare + 1
  | .agg parts => uptoBulkAll parts + 1
  | .iface _ d => uptoBulk d + 1
  | .map entries => uptoBulkEntries entries + 1
  | .held _ => 1
def uptoBulkAll {H : Type} : List (DataW H) → Nat
  | [] => 0
  | d :: r => uptoBulk d + uptoBulkAll r
def uptoBulkEntries {H : Type} : List (Lit × DataW H) → Nat
  | [] => 0
  | x :: r => uptoBulkEntry x + uptoBulkEntries r
def uptoBulkEntry {H : Type} : Lit × DataW H → Nat
  | (.string bytes, d) => bytes.length + uptoBulk d + 1
  | (_, d) => uptoBulk d + 1
 end
def uptoSmall : (H : Type) → List (DataW H) → Bool := fun _ ds => decide (uptoBulkAll ds ≤ 1048576)
def OpenSpec.upto (s : _root_.Go.ChangeSpec) : _root_.Go.OpenSpec := { _root_.Go.OpenSpec.ofChange s with cond := some uptoSmall }

/-- 'nightjarlaw13.PollKeeps', WHERE WHAT IT READS IS OF BULK AT MOST 1048576: true; the input reads as it did. -/
def pollKeepsUptoRow : OpenClaim := { program := "ytblapbnplflghaa", sum := "c84da63f63fe59dae8a04efb44335fec9cb12b9f178d5e758a1b5a3be6f98ce4", func := "nightjar/nightjarlaw13.PollKeeps", spec := "pollKeeps", unfollowed := true, recurses := true, apart := false, narrowed := true }
def PollKeepsUptoSaid : Prop := pollKeepsUptoRow.holds Try.pinned (OpenSpec.upto pollKeepsSpec)

/-- 'nightjarlaw13.PollEdges', WHERE WHAT IT READS IS OF BULK AT MOST 1048576: true; the input reads as it did. -/
def pollEdgesUptoRow : OpenClaim := { program := "ytblapbnplflghaa", sum := "c84da63f63fe59dae8a04efb44335fec9cb12b9f178d5e758a1b5a3be6f98ce4", func := "nightjar/nightjarlaw13.PollEdges", spec := "pollEdges", unfollowed := true, recurses := true, apart := false, narrowed := true }
def PollEdgesUptoSaid : Prop := pollEdgesUptoRow.holds Try.pinned (OpenSpec.upto pollEdgesSpec)

/-- 'nightjarlaw13.PollTurns', WHERE WHAT IT READS IS OF BULK AT MOST 1048576: true; the input reads as it did. -/
def pollTurnsUptoRow : OpenClaim := { program := "ytblapbnplflghaa", sum := "c84da63f63fe59dae8a04efb44335fec9cb12b9f178d5e758a1b5a3be6f98ce4", func := "nightjar/nightjarlaw13.PollTurns", spec := "pollTurns", unfollowed := true, recurses := true, apart := false, narrowed := true }
def PollTurnsUptoSaid : Prop := pollTurnsUptoRow.holds Try.pinned (OpenSpec.upto pollTurnsSpec)

/-- 'nightjarlaw13.PollApart', WHERE WHAT IT READS IS OF BULK AT MOST 1048576: true; the input reads as it did. -/
def pollApartUptoRow : OpenClaim := { program := "ytblapbnplflghaa", sum := "c84da63f63fe59dae8a04efb44335fec9cb12b9f178d5e758a1b5a3be6f98ce4", func := "nightjar/nightjarlaw13.PollApart", spec := "pollApart", unfollowed := true, recurses := true, apart := false, narrowed := true }
def PollApartUptoSaid : Prop := pollApartUptoRow.holds Try.pinned (OpenSpec.upto pollApartSpec)

end Rows
end Go.Proofs.Ytblapbnplflghaa
