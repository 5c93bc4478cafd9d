/-
  No cell of these rows narrows 'for every input' (looked for: loops, veiled, ifaces, maps, wideKeys, modest, calm, conditions, laid).
  DERIVED. THE GIVEN ROWS OF THIS SEAT. 11 by the template 'for every input the law returns true; each argument reads behind the call as it read before'; 0 by the template 'total and deterministic' (their statements: YtkpiphihmmhhpaaTotals.lean).
  GIVEN WITH THE SEED: the statements are not yours to turn. If you find one false, say at which input.
  Laid BY PROGRAM, IN A SANDBOX (cutbox-rows.mjs): the forced cells as the released guide's own fill.sh prints them over the translation b26bd9e3caf6d104… (all of the seat's roots in one cut). By AI agents, Wed Nov 11 2026. No macro, syntax, notation, axiom, sorry.
-/
import Derived.Test.YtkpiphihmmhhpaaChecked
import GoSem.Claim
import GoSem.ClaimJoined
import GoSem.ClaimMapViews
import Derived.JoinedTies
import Derived.KernelRfl
namespace Go.Proofs.Ytkpiphihmmhhpaa
/- THE CELL 'sum', in the pinned program and in every row, IS THE sha256 OF THE DUMP (.gsa) THAT YtkpiphihmmhhpaaProg.lean LOADS. Nothing in Lean hashes anything: it is a label: what it is worth is what the hold of that sum in a sandbox is worth. -/
noncomputable def Try.pinned : Pinned := { name := "ytkpiphihmmhhpaa", sum := "b26bd9e3caf6d1041091d0db6c7a08795f2e9875fdbfb550d7f82ee92d594e30", checked := Try.checked }
namespace Rows
def none {H : Type} : Left H := { results := [], args := [] }

/-- 'nightjarlaw10.BoxKinds': WHATEVER THE INPUT: true; the input reads as it did. -/
def boxKindsSpec : ChangeSpec := { name := "boxKinds", fn := fun _ => fun
  | [d1, d2, d3, d4] => { results := [.lit (.bool true)], args := [d1, d2, d3, d4] }
  | _ => none }
def boxKindsRow : OpenClaim := { program := "ytkpiphihmmhhpaa", sum := "b26bd9e3caf6d1041091d0db6c7a08795f2e9875fdbfb550d7f82ee92d594e30", func := "nightjar/nightjarlaw10.BoxKinds", spec := "boxKinds", apart := false }
def BoxKindsSaid : Prop := boxKindsRow.holds Try.pinned (OpenSpec.ofChange boxKindsSpec)

/-- ITS FALSE NEIGHBOUR: 'it returns false'. Refute it at one input. -/
def boxKindsWrong : ChangeSpec := { name := "boxKinds", fn := fun _ => fun
  | [d1, d2, d3, d4] => { results := [.lit (.bool false)], args := [d1, d2, d3, d4] }
  | _ => none }
def BoxKindsWrongFalsely : Prop := boxKindsRow.holds Try.pinned (OpenSpec.ofChange boxKindsWrong)

/-- 'nightjarlaw10.BoxOrders': WHATEVER THE INPUT: true; the input reads as it did. -/
def boxOrdersSpec : ChangeSpec := { name := "boxOrders", fn := fun _ => fun
  | [d1, d2, d3] => { results := [.lit (.bool true)], args := [d1, d2, d3] }
  | _ => none }
def boxOrdersRow : OpenClaim := { program := "ytkpiphihmmhhpaa", sum := "b26bd9e3caf6d1041091d0db6c7a08795f2e9875fdbfb550d7f82ee92d594e30", func := "nightjar/nightjarlaw10.BoxOrders", spec := "boxOrders", apart := false }
def BoxOrdersSaid : Prop := boxOrdersRow.holds Try.pinned (OpenSpec.ofChange boxOrdersSpec)

/-- ITS FALSE NEIGHBOUR: 'it returns false'. Refute it at one input. -/
def boxOrdersWrong : ChangeSpec := { name := "boxOrders", fn := fun _ => fun
  | [d1, d2, d3] => { results := [.lit (.bool false)], args := [d1, d2, d3] }
  | _ => none }
def BoxOrdersWrongFalsely : Prop := boxOrdersRow.holds Try.pinned (OpenSpec.ofChange boxOrdersWrong)

/-- 'nightjarlaw01.NumSums': WHATEVER THE INPUT: true; the input reads as it did. -/
def numSumsSpec : ChangeSpec := { name := "numSums", fn := fun _ => fun
  | [d1, d2, d3, d4, d5] => { results := [.lit (.bool true)], args := [d1, d2, d3, d4, d5] }
  | _ => none }
def numSumsRow : OpenClaim := { program := "ytkpiphihmmhhpaa", sum := "b26bd9e3caf6d1041091d0db6c7a08795f2e9875fdbfb550d7f82ee92d594e30", func := "nightjar/nightjarlaw01.NumSums", spec := "numSums", apart := false }
def NumSumsSaid : Prop := numSumsRow.holds Try.pinned (OpenSpec.ofChange numSumsSpec)

/-- ITS FALSE NEIGHBOUR: 'it returns false'. Refute it at one input. -/
def numSumsWrong : ChangeSpec := { name := "numSums", fn := fun _ => fun
  | [d1, d2, d3, d4, d5] => { results := [.lit (.bool false)], args := [d1, d2, d3, d4, d5] }
  | _ => none }
def NumSumsWrongFalsely : Prop := numSumsRow.holds Try.pinned (OpenSpec.ofChange numSumsWrong)

/-- 'nightjarlaw01.NumProducts': WHATEVER THE INPUT: true; the input reads as it did. -/
def numProductsSpec : ChangeSpec := { name := "numProducts", fn := fun _ => fun
  | [d1, d2] => { results := [.lit (.bool true)], args := [d1, d2] }
  | _ => none }
def numProductsRow : OpenClaim := { program := "ytkpiphihmmhhpaa", sum := "b26bd9e3caf6d1041091d0db6c7a08795f2e9875fdbfb550d7f82ee92d594e30", func := "nightjar/nightjarlaw01.NumProducts", spec := "numProducts", apart := false }
def NumProductsSaid : Prop := numProductsRow.holds Try.pinned (OpenSpec.ofChange numProductsSpec)

/-- ITS FALSE NEIGHBOUR: 'it returns false'. Refute it at one input. -/
def numProductsWrong : ChangeSpec := { name := "numProducts", fn := fun _ => fun
  | [d1, d2] => { results := [.lit (.bool false)], args := [d1, d2] }
  | _ => none }
def NumProductsWrongFalsely : Prop := numProductsRow.holds Try.pinned (OpenSpec.ofChange numProductsWrong)

/-- 'nightjarlaw01.NumNexts': WHATEVER THE INPUT: true; the input reads as it did. -/
def numNextsSpec : ChangeSpec := { name := "numNexts", fn := fun _ => fun
  | [d1, d2, d3] => { results := [.lit (.bool true)], args := [d1, d2, d3] }
  | _ => none }
def numNextsRow : OpenClaim := { program := "ytkpiphihmmhhpaa", sum := "b26bd9e3caf6d1041091d0db6c7a08795f2e9875fdbfb550d7f82ee92d594e30", func := "nightjar/nightjarlaw01.NumNexts", spec := "numNexts", apart := false }
def NumNextsSaid : Prop := numNextsRow.holds Try.pinned (OpenSpec.ofChange numNextsSpec)

/-- ITS FALSE NEIGHBOUR: 'it returns false'. Refute it at one input. -/
def numNextsWrong : ChangeSpec := { name := "numNexts", fn := fun _ => fun
  | [d1, d2, d3] => { results := [.lit (.bool false)], args := [d1, d2, d3] }
  | _ => none }
def NumNextsWrongFalsely : Prop := numNextsRow.holds Try.pinned (OpenSpec.ofChange numNextsWrong)

/-- 'nightjarlaw01.NumFirst': WHATEVER THE INPUT: true; the input reads as it did. -/
def numFirstSpec : ChangeSpec := { name := "numFirst", fn := fun _ => fun
  | [d1, d2, d3] => { results := [.lit (.bool true)], args := [d1, d2, d3] }
  | _ => none }
def numFirstRow : OpenClaim := { program := "ytkpiphihmmhhpaa", sum := "b26bd9e3caf6d1041091d0db6c7a08795f2e9875fdbfb550d7f82ee92d594e30", func := "nightjar/nightjarlaw01.NumFirst", spec := "numFirst", apart := false }
def NumFirstSaid : Prop := numFirstRow.holds Try.pinned (OpenSpec.ofChange numFirstSpec)

/-- ITS FALSE NEIGHBOUR: 'it returns false'. Refute it at one input. -/
def numFirstWrong : ChangeSpec := { name := "numFirst", fn := fun _ => fun
  | [d1, d2, d3] => { results := [.lit (.bool false)], args := [d1, d2, d3] }
  | _ => none }
def NumFirstWrongFalsely : Prop := numFirstRow.holds Try.pinned (OpenSpec.ofChange numFirstWrong)

/-- 'nightjarlaw01.NumCeils': WHATEVER THE INPUT: true; the input reads as it did. -/
def numCeilsSpec : ChangeSpec := { name := "numCeils", fn := fun _ => fun
  | [d1, d2] => { results := [.lit (.bool true)], args := [d1, d2] }
  | _ => none }
def numCeilsRow : OpenClaim := { program := "ytkpiphihmmhhpaa", sum := "b26bd9e3caf6d1041091d0db6c7a08795f2e9875fdbfb550d7f82ee92d594e30", func := "nightjar/nightjarlaw01.NumCeils", spec := "numCeils", apart := false }
def NumCeilsSaid : Prop := numCeilsRow.holds Try.pinned (OpenSpec.ofChange numCeilsSpec)

/-- ITS FALSE NEIGHBOUR: 'it returns false'. Refute it at one input. -/
def numCeilsWrong : ChangeSpec := { name := "numCeils", fn := fun _ => fun
  | [d1, d2] => { results := [.lit (.bool false)], args := [d1, d2] }
  | _ => none }
def NumCeilsWrongFalsely : Prop := numCeilsRow.holds Try.pinned (OpenSpec.ofChange numCeilsWrong)

/-- 'nightjarlaw01.NumTurns': WHATEVER THE INPUT: true; the input reads as it did. -/
def numTurnsSpec : ChangeSpec := { name := "numTurns", fn := fun _ => fun
  | [d1, d2, d3] => { results := [.lit (.bool true)], args := [d1, d2, d3] }
  | _ => none }
def numTurnsRow : OpenClaim := { program := "ytkpiphihmmhhpaa", sum := "b26bd9e3caf6d1041091d0db6c7a08795f2e9875fdbfb550d7f82ee92d594e30", func := "nightjar/nightjarlaw01.NumTurns", spec := "numTurns", apart := false }
def NumTurnsSaid : Prop := numTurnsRow.holds Try.pinned (OpenSpec.ofChange numTurnsSpec)

/-- ITS FALSE NEIGHBOUR: 'it returns false'. Refute it at one input. -/
def numTurnsWrong : ChangeSpec := { name := "numTurns", fn := fun _ => fun
  | [d1, d2, d3] => { results := [.lit (.bool false)], args := [d1, d2, d3] }
  | _ => none }
def NumTurnsWrongFalsely : Prop := numTurnsRow.holds Try.pinned (OpenSpec.ofChange numTurnsWrong)

/-- 'nightjarlaw01.NumSteps': WHATEVER THE INPUT: true; the input reads as it did. -/
def numStepsSpec : ChangeSpec := { name := "numSteps", fn := fun _ => fun
  | [d1, d2, d3] => { results := [.lit (.bool true)], args := [d1, d2, d3] }
  | _ => none }
def numStepsRow : OpenClaim := { program := "ytkpiphihmmhhpaa", sum := "b26bd9e3caf6d1041091d0db6c7a08795f2e9875fdbfb550d7f82ee92d594e30", func := "nightjar/nightjarlaw01.NumSteps", spec := "numSteps", apart := false }
def NumStepsSaid : Prop := numStepsRow.holds Try.pinned (OpenSpec.ofChange numStepsSpec)

/-- ITS FALSE NEIGHBOUR: 'it returns false'. Refute it at one input. -/
def numStepsWrong : ChangeSpec := { name := "numSteps", fn := fun _ => fun
  | [d1, d2, d3] => { results := [.lit (.bool false)], args := [d1, d2, d3] }
  | _ => none }
def NumStepsWrongFalsely : Prop := numStepsRow.holds Try.pinned (OpenSpec.ofChange numStepsWrong)

/-- 'nightjarlaw10.BoxPlays': WHATEVER THE INPUT: true; the input reads as it did. -/
def boxPlaysSpec : ChangeSpec := { name := "boxPlays", fn := fun _ => fun
  | [d1, d2, d3] => { results := [.lit (.bool true)], args := [d1, d2, d3] }
  | _ => none }
def boxPlaysRow : OpenClaim := { program := "ytkpiphihmmhhpaa", sum := "b26bd9e3caf6d1041091d0db6c7a08795f2e9875fdbfb550d7f82ee92d594e30", func := "nightjar/nightjarlaw10.BoxPlays", spec := "boxPlays", unfollowed := true, recurses := true, apart := false }
def BoxPlaysSaid : Prop := boxPlaysRow.holds Try.pinned (OpenSpec.ofChange boxPlaysSpec)

/-- ITS FALSE NEIGHBOUR: 'it returns false'. Refute it at one input. -/
def boxPlaysWrong : ChangeSpec := { name := "boxPlays", fn := fun _ => fun
  | [d1, d2, d3] => { results := [.lit (.bool false)], args := [d1, d2, d3] }
  | _ => none }
def BoxPlaysWrongFalsely : Prop := boxPlaysRow.holds Try.pinned (OpenSpec.ofChange boxPlaysWrong)

/-- 'nightjarlaw10.BoxSifts': WHATEVER THE INPUT: true; the input reads as it did. -/
def boxSiftsSpec : ChangeSpec := { name := "boxSifts", fn := fun _ => fun
  | [d1, d2] => { results := [.lit (.bool true)], args := [d1, d2] }
  | _ => none }
def boxSiftsRow : OpenClaim := { program := "ytkpiphihmmhhpaa", sum := "b26bd9e3caf6d1041091d0db6c7a08795f2e9875fdbfb550d7f82ee92d594e30", func := "nightjar/nightjarlaw10.BoxSifts", spec := "boxSifts", unfollowed := true, recurses := true, apart := false }
def BoxSiftsSaid : Prop := boxSiftsRow.holds Try.pinned (OpenSpec.ofChange boxSiftsSpec)

/-- ITS FALSE NEIGHBOUR: 'it returns false'. Refute it at one input. -/
def boxSiftsWrong : ChangeSpec := { name := "boxSifts", fn := fun _ => fun
  | [d1, d2] => { results := [.lit (.bool false)], args := [d1, d2] }
  | _ => none }
def BoxSiftsWrongFalsely : Prop := boxSiftsRow.holds Try.pinned (OpenSpec.ofChange boxSiftsWrong)

/- THE SECOND FORM. 'bulk': how many values and letters a reading holds, each counted each time it is reached (what is shared counts as often as it is met; a slice's spare places count too). A statement '..UptoSaid' is the law's where the arguments, and the package variables that the reading takes, are together of bulk at most 1048576: NARROWER than '..Said'. Prove '..Said' where nothing that the law and all that it calls make is longer than what came in: it says more and counts as full. Else prove '..UptoSaid'. A law counts once. -/
mutual
def uptoBulk {H : Type} : DataW H → Nat
  | .lit (.string bytes) => bytes.length + 1
  | .lit _ => 1
  | .nil => 1
  | .ptr d => uptoBulk d + 1
  | .slice elems spare => uptoBulkAll elems + uptoBulkAll spare + 1
  | .agg parts => uptoBulkAll parts + 1
  | .iface _ d => uptoBulk d + 1
  | .map entries => uptoBulkEntries entries + 1
  | .held _ => 1
def uptoBulkAll {H : Type} : List (DataW H) → Nat
  | [] => 0
  | d :: r => uptoBulk d + uptoBulkAll r
def uptoBulkEntries {H : Type} : List (Lit × DataW H) → Nat
  | [] => 0
  | x :: r => uptoBulkEntry x + uptoBulkEntries r
def uptoBulkEntry {H : Type} : Lit × DataW H → Nat
  | (.string bytes, d) => bytes.length + uptoBulk d + 1
  | (_, d) => uptoBulk d + 1
 end
def uptoSmall : (H : Type) → List (DataW H) → Bool := fun _ ds => decide (uptoBulkAll ds ≤ 1048576)
def OpenSpec.upto (s : _root_.Go.ChangeSpec) : _root_.Go.OpenSpec := { _root_.Go.OpenSpec.ofChange s with cond := some uptoSmall }

/-- 'nightjarlaw10.BoxKinds', WHERE WHAT IT READS IS OF BULK AT MOST 1048576: true; the input reads as it did. -/
def boxKindsUptoRow : OpenClaim := { program := "ytkpiphihmmhhpaa", sum := "b26bd9e3caf6d1041091d0db6c7a08795f2e9875fdbfb550d7f82ee92d594e30", func := "nightjar/nightjarlaw10.BoxKinds", spec := "boxKinds", apart := false, narrowed := true }
def BoxKindsUptoSaid : Prop := boxKindsUptoRow.holds Try.pinned (OpenSpec.upto boxKindsSpec)

/-- 'nightjarlaw10.BoxOrders', WHERE WHAT IT READS IS OF BULK AT MOST 1048576: true; the input reads as it did. -/
def boxOrdersUptoRow : OpenClaim := { program := "ytkpiphihmmhhpaa", sum := "b26bd9e3caf6d1041091d0db6c7a08795f2e9875fdbfb550d7f82ee92d594e30", func := "nightjar/nightjarlaw10.BoxOrders", spec := "boxOrders", apart := false, narrowed := true }
def BoxOrdersUptoSaid : Prop := boxOrdersUptoRow.holds Try.pinned (OpenSpec.upto boxOrdersSpec)

/-- 'nightjarlaw01.NumSums', WHERE WHAT IT READS IS OF BULK AT MOST 1048576: true; the input reads as it did. -/
def numSumsUptoRow : OpenClaim := { program := "ytkpiphihmmhhpaa", sum := "b26bd9e3caf6d1041091d0db6c7a08795f2e9875fdbfb550d7f82ee92d594e30", func := "nightjar/nightjarlaw01.NumSums", spec := "numSums", apart := false, narrowed := true }
def NumSumsUptoSaid : Prop := numSumsUptoRow.holds Try.pinned (OpenSpec.upto numSumsSpec)

/-- 'nightjarlaw01.NumProducts', WHERE WHAT IT READS IS OF BULK AT MOST 1048576: true; the input reads as it did. -/
def numProductsUptoRow : OpenClaim := { program := "ytkpiphihmmhhpaa", sum := "b26bd9e3caf6d1041091d0db6c7a08795f2e9875fdbfb550d7f82ee92d594e30", func := "nightjar/nightjarlaw01.NumProducts", spec := "numProducts", apart := false, narrowed := true }
def NumProductsUptoSaid : Prop := numProductsUptoRow.holds Try.pinned (OpenSpec.upto numProductsSpec)

/-- 'nightjarlaw01.NumNexts', WHERE WHAT IT READS IS OF BULK AT MOST 1048576: true; the input reads as it did. -/
def numNextsUptoRow : OpenClaim := { program := "ytkpiphihmmhhpaa", sum := "b26bd9e3caf6d1041091d0db6c7a08795f2e9875fdbfb550d7f82ee92d594e30", func := "nightjar/nightjarlaw01.NumNexts", spec := "numNexts", apart := false, narrowed := true }
def NumNextsUptoSaid : Prop := numNextsUptoRow.holds Try.pinned (OpenSpec.upto numNextsSpec)

/-- 'nightjarlaw01.NumFirst', WHERE WHAT IT READS IS OF BULK AT MOST 1048576: true; the input reads as it did. -/
def numFirstUptoRow : OpenClaim := { program := "ytkpiphihmmhhpaa", sum := "b26bd9e3caf6d1041091d0db6c7a08795f2e9875fdbfb550d7f82ee92d594e30", func := "nightjar/nightjarlaw01.NumFirst", spec := "numFirst", apart := false, narrowed := true }
def NumFirstUptoSaid : Prop := numFirstUptoRow.holds Try.pinned (OpenSpec.upto numFirstSpec)

/-- 'nightjarlaw01.NumCeils', WHERE WHAT IT READS IS OF BULK AT MOST 1048576: true; the input reads as it did. -/
def numCeilsUptoRow : OpenClaim := { program := "ytkpiphihmmhhpaa", sum := "b26bd9e3caf6d1041091d0db6c7a08795f2e9875fdbfb550d7f82ee92d594e30", func := "nightjar/nightjarlaw01.NumCeils", spec := "numCeils", apart := false, narrowed := true }
def NumCeilsUptoSaid : Prop := numCeilsUptoRow.holds Try.pinned (OpenSpec.upto numCeilsSpec)

/-- 'nightjarlaw01.NumTurns', WHERE WHAT IT READS IS OF BULK AT MOST 1048576: true; the input reads as it did. -/
def numTurnsUptoRow : OpenClaim := { program := "ytkpiphihmmhhpaa", sum := "b26bd9e3caf6d1041091d0db6c7a08795f2e9875fdbfb550d7f82ee92d594e30", func := "nightjar/nightjarlaw01.NumTurns", spec := "numTurns", apart := false, narrowed := true }
def NumTurnsUptoSaid : Prop := numTurnsUptoRow.holds Try.pinned (OpenSpec.upto numTurnsSpec)

/-- 'nightjarlaw01.NumSteps', WHERE WHAT IT READS IS OF BULK AT MOST 1048576: true; the input reads as it did. -/
def numStepsUptoRow : OpenClaim := { program := "ytkpiphihmmhhpaa", sum := "b26bd9e3caf6d1041091d0db6c7a08795f2e9875fdbfb550d7f82ee92d594e30", func := "nightjar/nightjarlaw01.NumSteps", spec := "numSteps", apart := false, narrowed := true }
def NumStepsUptoSaid : Prop := numStepsUptoRow.holds Try.pinned (OpenSpec.upto numStepsSpec)

/-- 'nightjarlaw10.BoxPlays', WHERE WHAT IT READS IS OF BULK AT MOST 1048576: true; the input reads as it did. -/
def boxPlaysUptoRow : OpenClaim := { program := "ytkpiphihmmhhpaa", sum := "b26bd9e3caf6d1041091d0db6c7a08795f2e9875fdbfb550d7f82ee92d594e30", func := "nightjar/nightjarlaw10.BoxPlays", spec := "boxPlays", unfollowed := true, recurses := true, apart := false, narrowed := true }
def BoxPlaysUptoSaid : Prop := boxPlaysUptoRow.holds Try.pinned (OpenSpec.upto boxPlaysSpec)

/-- 'nightjarlaw10.BoxSifts', WHERE WHAT IT READS IS OF BULK AT MOST 1048576: true; the input reads as it did. -/
def boxSiftsUptoRow : OpenClaim := { program := "ytkpiphihmmhhpaa", sum := "b26bd9e3caf6d1041091d0db6c7a08795f2e9875fdbfb550d7f82ee92d594e30", func := "nightjar/nightjarlaw10.BoxSifts", spec := "boxSifts", unfollowed := true, recurses := true, apart := false, narrowed := true }
def BoxSiftsUptoSaid : Prop := boxSiftsUptoRow.holds Try.pinned (OpenSpec.upto boxSiftsSpec)

end Rows
end Go.Proofs.Ytkpiphihmmhhpaa
