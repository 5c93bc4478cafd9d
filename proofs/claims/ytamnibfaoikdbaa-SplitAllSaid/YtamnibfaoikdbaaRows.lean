/-
  No cell of these rows narrows 'for every input' (looked for: loops, veiled, ifaces, maps, wideKeys, modest, calm, conditions, laid).
  DERIVED. THE GIVEN ROWS OF THIS SEAT. 9 by the template 'for every input the law returns true; each argument reads behind the call as it read before'; 0 by the template 'total and deterministic' (their statements: YtamnibfaoikdbaaTotals.lean).
  GIVEN WITH THE SEED: the statements are not yours to turn. If you find one false, say at which input.
  Laid BY PROGRAM, IN A SANDBOX (cutbox-rows.mjs): the forced cells as the released guide's own fill.sh prints them over the translation dc7752d9efee4a40… (all of the seat's roots in one cut). By AI agents, Wed Nov 11 2026. No macro, syntax, notation, axiom, sorry.
-/
import Derived.Test.YtamnibfaoikdbaaChecked
import GoSem.Claim
import GoSem.ClaimJoined
import GoSem.ClaimMapViews
import Derived.JoinedTies
import Derived.KernelRfl
namespace Go.Proofs.Ytamnibfaoikdbaa
/- THE CELL 'sum', in the pinned program and in every row, IS THE sha256 OF THE DUMP (.gsa) THAT YtamnibfaoikdbaaProg.lean LOADS. Nothing in Lean hashes anything: it is a label: what it is worth is what the hold of that sum in a sandbox is worth. -/
noncomputable def Try.pinned : Pinned := { name := "ytamnibfaoikdbaa", sum := "dc7752d9efee4a408e1860fea770073358557369a5c913b67cee358f67b4b1ac", checked := Try.checked }
namespace Rows
def none {H : Type} : Left H := { results := [], args := [] }

/-- 'nightjarlaw11.GateOnces': WHATEVER THE INPUT: true; the input reads as it did. -/
def gateOncesSpec : ChangeSpec := { name := "gateOnces", fn := fun _ => fun
  | [d1, d2] => { results := [.lit (.bool true)], args := [d1, d2] }
  | _ => none }
def gateOncesRow : OpenClaim := { program := "ytamnibfaoikdbaa", sum := "dc7752d9efee4a408e1860fea770073358557369a5c913b67cee358f67b4b1ac", func := "nightjar/nightjarlaw11.GateOnces", spec := "gateOnces", apart := false }
def GateOncesSaid : Prop := gateOncesRow.holds Try.pinned (OpenSpec.ofChange gateOncesSpec)

/-- ITS FALSE NEIGHBOUR: 'it returns false'. Refute it at one input. -/
def gateOncesWrong : ChangeSpec := { name := "gateOnces", fn := fun _ => fun
  | [d1, d2] => { results := [.lit (.bool false)], args := [d1, d2] }
  | _ => none }
def GateOncesWrongFalsely : Prop := gateOncesRow.holds Try.pinned (OpenSpec.ofChange gateOncesWrong)

/-- 'nightjarlaw11.GateLevels': WHATEVER THE INPUT: true; the input reads as it did. -/
def gateLevelsSpec : ChangeSpec := { name := "gateLevels", fn := fun _ => fun
  | [d1, d2, d3] => { results := [.lit (.bool true)], args := [d1, d2, d3] }
  | _ => none }
def gateLevelsRow : OpenClaim := { program := "ytamnibfaoikdbaa", sum := "dc7752d9efee4a408e1860fea770073358557369a5c913b67cee358f67b4b1ac", func := "nightjar/nightjarlaw11.GateLevels", spec := "gateLevels", apart := false }
def GateLevelsSaid : Prop := gateLevelsRow.holds Try.pinned (OpenSpec.ofChange gateLevelsSpec)

/-- ITS FALSE NEIGHBOUR: 'it returns false'. Refute it at one input. -/
def gateLevelsWrong : ChangeSpec := { name := "gateLevels", fn := fun _ => fun
  | [d1, d2, d3] => { results := [.lit (.bool false)], args := [d1, d2, d3] }
  | _ => none }
def GateLevelsWrongFalsely : Prop := gateLevelsRow.holds Try.pinned (OpenSpec.ofChange gateLevelsWrong)

/-- 'nightjarlaw11.GateTells': WHATEVER THE INPUT: true; the input reads as it did. -/
def gateTellsSpec : ChangeSpec := { name := "gateTells", fn := fun _ => fun
  | [d] => { results := [.lit (.bool true)], args := [d] }
  | _ => none }
def gateTellsRow : OpenClaim := { program := "ytamnibfaoikdbaa", sum := "dc7752d9efee4a408e1860fea770073358557369a5c913b67cee358f67b4b1ac", func := "nightjar/nightjarlaw11.GateTells", spec := "gateTells", apart := false }
def GateTellsSaid : Prop := gateTellsRow.holds Try.pinned (OpenSpec.ofChange gateTellsSpec)

/-- ITS FALSE NEIGHBOUR: 'it returns false'. Refute it at one input. -/
def gateTellsWrong : ChangeSpec := { name := "gateTells", fn := fun _ => fun
  | [d] => { results := [.lit (.bool false)], args := [d] }
  | _ => none }
def GateTellsWrongFalsely : Prop := gateTellsRow.holds Try.pinned (OpenSpec.ofChange gateTellsWrong)

/-- 'nightjarlaw18.SplitTells': WHATEVER THE INPUT: true; the input reads as it did. -/
def splitTellsSpec : ChangeSpec := { name := "splitTells", fn := fun _ => fun
  | [d1, d2] => { results := [.lit (.bool true)], args := [d1, d2] }
  | _ => none }
def splitTellsRow : OpenClaim := { program := "ytamnibfaoikdbaa", sum := "dc7752d9efee4a408e1860fea770073358557369a5c913b67cee358f67b4b1ac", func := "nightjar/nightjarlaw18.SplitTells", spec := "splitTells", apart := false }
def SplitTellsSaid : Prop := splitTellsRow.holds Try.pinned (OpenSpec.ofChange splitTellsSpec)

/-- ITS FALSE NEIGHBOUR: 'it returns false'. Refute it at one input. -/
def splitTellsWrong : ChangeSpec := { name := "splitTells", fn := fun _ => fun
  | [d1, d2] => { results := [.lit (.bool false)], args := [d1, d2] }
  | _ => none }
def SplitTellsWrongFalsely : Prop := splitTellsRow.holds Try.pinned (OpenSpec.ofChange splitTellsWrong)

/-- 'nightjarlaw18.SplitWeaves': WHATEVER THE INPUT: true; the input reads as it did. -/
def splitWeavesSpec : ChangeSpec := { name := "splitWeaves", fn := fun _ => fun
  | [d1, d2, d3, d4] => { results := [.lit (.bool true)], args := [d1, d2, d3, d4] }
  | _ => none }
def splitWeavesRow : OpenClaim := { program := "ytamnibfaoikdbaa", sum := "dc7752d9efee4a408e1860fea770073358557369a5c913b67cee358f67b4b1ac", func := "nightjar/nightjarlaw18.SplitWeaves", spec := "splitWeaves", apart := false }
def SplitWeavesSaid : Prop := splitWeavesRow.holds Try.pinned (OpenSpec.ofChange splitWeavesSpec)

/-- ITS FALSE NEIGHBOUR: 'it returns false'. Refute it at one input. -/
def splitWeavesWrong : ChangeSpec := { name := "splitWeaves", fn := fun _ => fun
  | [d1, d2, d3, d4] => { results := [.lit (.bool false)], args := [d1, d2, d3, d4] }
  | _ => none }
def SplitWeavesWrongFalsely : Prop := splitWeavesRow.holds Try.pinned (OpenSpec.ofChange splitWeavesWrong)

/-- 'nightjarlaw18.SplitKeeps': WHATEVER THE INPUT: true; the input reads as it did. -/
def splitKeepsSpec : ChangeSpec := { name := "splitKeeps", fn := fun _ => fun
  | [d1, d2, d3] => { results := [.lit (.bool true)], args := [d1, d2, d3] }
  | _ => none }
def splitKeepsRow : OpenClaim := { program := "ytamnibfaoikdbaa", sum := "dc7752d9efee4a408e1860fea770073358557369a5c913b67cee358f67b4b1ac", func := "nightjar/nightjarlaw18.SplitKeeps", spec := "splitKeeps", apart := false }
def SplitKeepsSaid : Prop := splitKeepsRow.holds Try.pinned (OpenSpec.ofChange splitKeepsSpec)

/-- ITS FALSE NEIGHBOUR: 'it returns false'. Refute it at one input. -/
def splitKeepsWrong : ChangeSpec := { name := "splitKeeps", fn := fun _ => fun
  | [d1, d2, d3] => { results := [.lit (.bool false)], args := [d1, d2, d3] }
  | _ => none }
def SplitKeepsWrongFalsely : Prop := splitKeepsRow.holds Try.pinned (OpenSpec.ofChange splitKeepsWrong)

/-- 'nightjarlaw18.SplitAll': WHATEVER THE INPUT: true; the input reads as it did. -/
def splitAllSpec : ChangeSpec := { name := "splitAll", fn := fun _ => fun
  | [d] => { results := [.lit (.bool true)], args := [d] }
  | _ => none }
def splitAllRow : OpenClaim := { program := "ytamnibfaoikdbaa", sum := "dc7752d9efee4a408e1860fea770073358557369a5c913b67cee358f67b4b1ac", func := "nightjar/nightjarlaw18.SplitAll", spec := "splitAll", apart := false }
def SplitAllSaid : Prop := splitAllRow.holds Try.pinned (OpenSpec.ofChange splitAllSpec)

/-- ITS FALSE NEIGHBOUR: 'it returns false'. Refute it at one input. -/
def splitAllWrong : ChangeSpec := { name := "splitAll", fn := fun _ => fun
  | [d] => { results := [.lit (.bool false)], args := [d] }
  | _ => none }
def SplitAllWrongFalsely : Prop := splitAllRow.holds Try.pinned (OpenSpec.ofChange splitAllWrong)

/-- 'nightjarlaw11.GateEdges': WHATEVER THE INPUT: true; the input reads as it did. -/
def gateEdgesSpec : ChangeSpec := { name := "gateEdges", fn := fun _ => fun
  | [d1, d2, d3, d4] => { results := [.lit (.bool true)], args := [d1, d2, d3, d4] }
  | _ => none }
def gateEdgesRow : OpenClaim := { program := "ytamnibfaoikdbaa", sum := "dc7752d9efee4a408e1860fea770073358557369a5c913b67cee358f67b4b1ac", func := "nightjar/nightjarlaw11.GateEdges", spec := "gateEdges", apart := false }
def GateEdgesSaid : Prop := gateEdgesRow.holds Try.pinned (OpenSpec.ofChange gateEdgesSpec)

/-- ITS FALSE NEIGHBOUR: 'it returns false'. Refute it at one input. -/
def gateEdgesWrong : ChangeSpec := { name := "gateEdges", fn := fun _ => fun
  | [d1, d2, d3, d4] => { results := [.lit (.bool false)], args := [d1, d2, d3, d4] }
  | _ => none }
def GateEdgesWrongFalsely : Prop := gateEdgesRow.holds Try.pinned (OpenSpec.ofChange gateEdgesWrong)

/-- 'nightjarlaw11.GateKeeps': WHATEVER THE INPUT: true; the input reads as it did. -/
def gateKeepsSpec : ChangeSpec := { name := "gateKeeps", fn := fun _ => fun
  | [d1, d2, d3] => { results := [.lit (.bool true)], args := [d1, d2, d3] }
  | _ => none }
def gateKeepsRow : OpenClaim := { program := "ytamnibfaoikdbaa", sum := "dc7752d9efee4a408e1860fea770073358557369a5c913b67cee358f67b4b1ac", func := "nightjar/nightjarlaw11.GateKeeps", spec := "gateKeeps", apart := false }
def GateKeepsSaid : Prop := gateKeepsRow.holds Try.pinned (OpenSpec.ofChange gateKeepsSpec)

/-- ITS FALSE NEIGHBOUR: 'it returns false'. Refute it at one input. -/
def gateKeepsWrong : ChangeSpec := { name := "gateKeeps", fn := fun _ => fun
  | [d1, d2, d3] => { results := [.lit (.bool false)], args := [d1, d2, d3] }
  | _ => none }
def GateKeepsWrongFalsely : Prop := gateKeepsRow.holds Try.pinned (OpenSpec.ofChange gateKeepsWrong)

/- THE SECOND FORM. 'bulk': how many values and letters a reading holds, each counted each time it is reached (what is shared counts as often as it is met; a slice's spare places count too). A statement '..UptoSaid' is the law's where the arguments, and the package variables that the reading takes, are together of bulk at most 1048576: NARROWER than '..Said'. Prove '..Said' where nothing that the law and all that it calls make is longer than what came in: it says more and counts as full. Else prove '..UptoSaid'. A law counts once. -/
mutual
def uptoBulk {H : Type} : DataW H → Nat
  | .lit (.string bytes) => bytes.length + 1
  | .lit _ => 1
  | .nil => 1
  | .ptr d => uptoBulk d + 1
  | .slice elems spare => uptoBulkAll elems + uptoBulkAll spare + 1
  | .agg parts => uptoBulkAll parts + 1
  | .iface _ d => uptoBulk d + 1
  | .map entries => uptoBulkEntries entries + 1
  | .held _ => 1
def uptoBulkAll {H : Type} : List (DataW H) → Nat
  | [] => 0
  | d :: r => uptoBulk d + uptoBulkAll r
def uptoBulkEntries {H : Type} : List (Lit × DataW H) → Nat
  | [] => 0
  | x :: r => uptoBulkEntry x + uptoBulkEntries r
def uptoBulkEntry {H : Type} : Lit × DataW H → Nat
  | (.string bytes, d) => bytes.length + uptoBulk d + 1
  | (_, d) => uptoBulk d + 1
 end
def uptoSmall : (H : Type) → List (DataW H) → Bool := fun _ ds => decide (uptoBulkAll ds ≤ 1048576)
def OpenSpec.upto (s : _root_.Go.ChangeSpec) : _root_.Go.OpenSpec := { _root_.Go.OpenSpec.ofChange s with cond := some uptoSmall }

/-- 'nightjarlaw11.GateOnces', WHERE WHAT IT READS IS OF BULK AT MOST 1048576: true; the input reads as it did. -/
def gateOncesUptoRow : OpenClaim := { program := "ytamnibfaoikdbaa", sum := "dc7752d9efee4a408e1860fea770073358557369a5c913b67cee358f67b4b1ac", func := "nightjar/nightjarlaw11.GateOnces", spec := "gateOnces", apart := false, narrowed := true }
def GateOncesUptoSaid : Prop := gateOncesUptoRow.holds Try.pinned (OpenSpec.upto gateOncesSpec)

/-- 'nightjarlaw11.GateLevels', WHERE WHAT IT READS IS OF BULK AT MOST 1048576: true; the input reads as it did. -/
def gateLevelsUptoRow : OpenClaim := { program := "ytamnibfaoikdbaa", sum := "dc7752d9efee4a408e1860fea770073358557369a5c913b67cee358f67b4b1ac", func := "nightjar/nightjarlaw11.GateLevels", spec := "gateLevels", apart := false, narrowed := true }
def GateLevelsUptoSaid : Prop := gateLevelsUptoRow.holds Try.pinned (OpenSpec.upto gateLevelsSpec)

/-- 'nightjarlaw11.GateTells', WHERE WHAT IT READS IS OF BULK AT MOST 1048576: true; the input reads as it did. -/
def gateTellsUptoRow : OpenClaim := { program := "ytamnibfaoikdbaa", sum := "dc7752d9efee4a408e1860fea770073358557369a5c913b67cee358f67b4b1ac", func := "nightjar/nightjarlaw11.GateTells", spec := "gateTells", apart := false, narrowed := true }
def GateTellsUptoSaid : Prop := gateTellsUptoRow.holds Try.pinned (OpenSpec.upto gateTellsSpec)

/-- 'nightjarlaw18.SplitTells', WHERE WHAT IT READS IS OF BULK AT MOST 1048576: true; the input reads as it did. -/
def splitTellsUptoRow : OpenClaim := { program := "ytamnibfaoikdbaa", sum := "dc7752d9efee4a408e1860fea770073358557369a5c913b67cee358f67b4b1ac", func := "nightjar/nightjarlaw18.SplitTells", spec := "splitTells", apart := false, narrowed := true }
def SplitTellsUptoSaid : Prop := splitTellsUptoRow.holds Try.pinned (OpenSpec.upto splitTellsSpec)

/-- 'nightjarlaw18.SplitWeaves', WHERE WHAT IT READS IS OF BULK AT MOST 1048576: true; the input reads as it did. -/
def splitWeavesUptoRow : OpenClaim := { program := "ytamnibfaoikdbaa", sum := "dc7752d9efee4a408e1860fea770073358557369a5c913b67cee358f67b4b1ac", func := "nightjar/nightjarlaw18.SplitWeaves", spec := "splitWeaves", apart := false, narrowed := true }
def SplitWeavesUptoSaid : Prop := splitWeavesUptoRow.holds Try.pinned (OpenSpec.upto splitWeavesSpec)

/-- 'nightjarlaw18.SplitKeeps', WHERE WHAT IT READS IS OF BULK AT MOST 1048576: true; the input reads as it did. -/
def splitKeepsUptoRow : OpenClaim := { program := "ytamnibfaoikdbaa", sum := "dc7752d9efee4a408e1860fea770073358557369a5c913b67cee358f67b4b1ac", func := "nightjar/nightjarlaw18.SplitKeeps", spec := "splitKeeps", apart := false, narrowed := true }
def SplitKeepsUptoSaid : Prop := splitKeepsUptoRow.holds Try.pinned (OpenSpec.upto splitKeepsSpec)

/-- 'nightjarlaw18.SplitAll', WHERE WHAT IT READS IS OF BULK AT MOST 1048576: true; the input reads as it did. -/
def splitAllUptoRow : OpenClaim := { program := "ytamnibfaoikdbaa", sum := "dc7752d9efee4a408e1860fea770073358557369a5c913b67cee358f67b4b1ac", func := "nightjar/nightjarlaw18.SplitAll", spec := "splitAll", apart := false, narrowed := true }
def SplitAllUptoSaid : Prop := splitAllUptoRow.holds Try.pinned (OpenSpec.upto splitAllSpec)

/-- 'nightjarlaw11.GateEdges', WHERE WHAT IT READS IS OF BULK AT MOST 1048576: true; the input reads as it did. -/
def gateEdgesUptoRow : OpenClaim := { program := "ytamnibfaoikdbaa", sum := "dc7752d9efee4a408e1860fea770073358557369a5c913b67cee358f67b4b1ac", func := "nightjar/nightjarlaw11.GateEdges", spec := "gateEdges", apart := false, narrowed := true }
def GateEdgesUptoSaid : Prop := gateEdgesUptoRow.holds Try.pinned (OpenSpec.upto gateEdgesSpec)

/-- 'nightjarlaw11.GateKeeps', WHERE WHAT IT READS IS OF BULK AT MOST 1048576: true; the input reads as it did. -/
def gateKeepsUptoRow : OpenClaim := { program := "ytamnibfaoikdbaa", sum := "dc7752d9efee4a408e1860fea770073358557369a5c913b67cee358f67b4b1ac", func := "nightjar/nightjarlaw11.GateKeeps", spec := "gateKeeps", apart := false, narrowed := true }
def GateKeepsUptoSaid : Prop := gateKeepsUptoRow.holds Try.pinned (OpenSpec.upto gateKeepsSpec)

end Rows
end Go.Proofs.Ytamnibfaoikdbaa
