/-
  No cell of these rows narrows 'for every input' (looked for: loops, veiled, ifaces, maps, wideKeys, modest, calm, conditions, laid).
  DERIVED. THE GIVEN ROWS OF THIS SEAT. 9 by the template 'for every input the law returns true; each argument reads behind the call as it read before'; 0 by the template 'total and deterministic' (their statements: YtdgcppglpmlgkaaTotals.lean).
  GIVEN WITH THE SEED: the statements are not yours to turn. If you find one false, say at which input.
  Laid BY PROGRAM, IN A SANDBOX (cutbox-rows.mjs): the forced cells as the released guide's own fill.sh prints them over the translation 26af174146d6f7b7… (all of the seat's roots in one cut). By AI agents, Wed Nov 11 2026. No macro, syntax, notation, axiom, sorry.
-/
import Derived.Test.YtdgcppglpmlgkaaChecked
import GoSem.Claim
import GoSem.ClaimJoined
import GoSem.ClaimMapViews
import Derived.JoinedTies
import Derived.KernelRfl
namespace Go.Proofs.Ytdgcppglpmlgkaa
/- THE CELL 'sum', in the pinned program and in every row, IS THE sha256 OF THE DUMP (.gsa) THAT YtdgcppglpmlgkaaProg.lean LOADS. Nothing in Lean hashes anything: it is a label: what it is worth is what the hold of that sum in a sandbox is worth. -/
noncomputable def Try.pinned : Pinned := { name := "ytdgcppglpmlgkaa", sum := "26af174146d6f7b7f3f8168ae676a89adb7c4aa5db4b34943ad98e717dee5d03", checked := Try.checked }
namespace Rows
def none {H : Type} : Left H := { results := [], args := [] }

/-- 'nightjarlaw06.LedgerPlays': WHATEVER THE INPUT: true; the input reads as it did. -/
def ledgerPlaysSpec : ChangeSpec := { name := "ledgerPlays", fn := fun _ => fun
  | [d1, d2] => { results := [.lit (.bool true)], args := [d1, d2] }
  | _ => none }
def ledgerPlaysRow : OpenClaim := { program := "ytdgcppglpmlgkaa", sum := "26af174146d6f7b7f3f8168ae676a89adb7c4aa5db4b34943ad98e717dee5d03", func := "nightjar/nightjarlaw06.LedgerPlays", spec := "ledgerPlays", apart := false }
def LedgerPlaysSaid : Prop := ledgerPlaysRow.holds Try.pinned (OpenSpec.ofChange ledgerPlaysSpec)

/-- ITS FALSE NEIGHBOUR: 'it returns false'. Refute it at one input. -/
def ledgerPlaysWrong : ChangeSpec := { name := "ledgerPlays", fn := fun _ => fun
  | [d1, d2] => { results := [.lit (.bool false)], args := [d1, d2] }
  | _ => none }
def LedgerPlaysWrongFalsely : Prop := ledgerPlaysRow.holds Try.pinned (OpenSpec.ofChange ledgerPlaysWrong)

/-- 'nightjarlaw06.LedgerBounds': WHATEVER THE INPUT: true; the input reads as it did. -/
def ledgerBoundsSpec : ChangeSpec := { name := "ledgerBounds", fn := fun _ => fun
  | [d1, d2, d3] => { results := [.lit (.bool true)], args := [d1, d2, d3] }
  | _ => none }
def ledgerBoundsRow : OpenClaim := { program := "ytdgcppglpmlgkaa", sum := "26af174146d6f7b7f3f8168ae676a89adb7c4aa5db4b34943ad98e717dee5d03", func := "nightjar/nightjarlaw06.LedgerBounds", spec := "ledgerBounds", apart := false }
def LedgerBoundsSaid : Prop := ledgerBoundsRow.holds Try.pinned (OpenSpec.ofChange ledgerBoundsSpec)

/-- ITS FALSE NEIGHBOUR: 'it returns false'. Refute it at one input. -/
def ledgerBoundsWrong : ChangeSpec := { name := "ledgerBounds", fn := fun _ => fun
  | [d1, d2, d3] => { results := [.lit (.bool false)], args := [d1, d2, d3] }
  | _ => none }
def LedgerBoundsWrongFalsely : Prop := ledgerBoundsRow.holds Try.pinned (OpenSpec.ofChange ledgerBoundsWrong)

/-- 'nightjarlaw06.LedgerLowers': WHATEVER THE INPUT: true; the input reads as it did. -/
def ledgerLowersSpec : ChangeSpec := { name := "ledgerLowers", fn := fun _ => fun
  | [d1, d2, d3] => { results := [.lit (.bool true)], args := [d1, d2, d3] }
  | _ => none }
def ledgerLowersRow : OpenClaim := { program := "ytdgcppglpmlgkaa", sum := "26af174146d6f7b7f3f8168ae676a89adb7c4aa5db4b34943ad98e717dee5d03", func := "nightjar/nightjarlaw06.LedgerLowers", spec := "ledgerLowers", apart := false }
def LedgerLowersSaid : Prop := ledgerLowersRow.holds Try.pinned (OpenSpec.ofChange ledgerLowersSpec)

/-- ITS FALSE NEIGHBOUR: 'it returns false'. Refute it at one input. -/
def ledgerLowersWrong : ChangeSpec := { name := "ledgerLowers", fn := fun _ => fun
  | [d1, d2, d3] => { results := [.lit (.bool false)], args := [d1, d2, d3] }
  | _ => none }
def LedgerLowersWrongFalsely : Prop := ledgerLowersRow.holds Try.pinned (OpenSpec.ofChange ledgerLowersWrong)

/-- 'nightjarlaw06.LedgerParts': WHATEVER THE INPUT: true; the input reads as it did. -/
def ledgerPartsSpec : ChangeSpec := { name := "ledgerParts", fn := fun _ => fun
  | [d1, d2] => { results := [.lit (.bool true)], args := [d1, d2] }
  | _ => none }
def ledgerPartsRow : OpenClaim := { program := "ytdgcppglpmlgkaa", sum := "26af174146d6f7b7f3f8168ae676a89adb7c4aa5db4b34943ad98e717dee5d03", func := "nightjar/nightjarlaw06.LedgerParts", spec := "ledgerParts", apart := false }
def LedgerPartsSaid : Prop := ledgerPartsRow.holds Try.pinned (OpenSpec.ofChange ledgerPartsSpec)

/-- ITS FALSE NEIGHBOUR: 'it returns false'. Refute it at one input. -/
def ledgerPartsWrong : ChangeSpec := { name := "ledgerParts", fn := fun _ => fun
  | [d1, d2] => { results := [.lit (.bool false)], args := [d1, d2] }
  | _ => none }
def LedgerPartsWrongFalsely : Prop := ledgerPartsRow.holds Try.pinned (OpenSpec.ofChange ledgerPartsWrong)

/-- 'nightjarlaw06.LedgerKeys': WHATEVER THE INPUT: true; the input reads as it did. -/
def ledgerKeysSpec : ChangeSpec := { name := "ledgerKeys", fn := fun _ => fun
  | [d1, d2] => { results := [.lit (.bool true)], args := [d1, d2] }
  | _ => none }
def ledgerKeysRow : OpenClaim := { program := "ytdgcppglpmlgkaa", sum := "26af174146d6f7b7f3f8168ae676a89adb7c4aa5db4b34943ad98e717dee5d03", func := "nightjar/nightjarlaw06.LedgerKeys", spec := "ledgerKeys", apart := false }
def LedgerKeysSaid : Prop := ledgerKeysRow.holds Try.pinned (OpenSpec.ofChange ledgerKeysSpec)

/-- ITS FALSE NEIGHBOUR: 'it returns false'. Refute it at one input. -/
def ledgerKeysWrong : ChangeSpec := { name := "ledgerKeys", fn := fun _ => fun
  | [d1, d2] => { results := [.lit (.bool false)], args := [d1, d2] }
  | _ => none }
def LedgerKeysWrongFalsely : Prop := ledgerKeysRow.holds Try.pinned (OpenSpec.ofChange ledgerKeysWrong)

/-- 'nightjarlaw04.ChainPlays': WHATEVER THE INPUT: true; the input reads as it did. -/
def chainPlaysSpec : ChangeSpec := { name := "chainPlays", fn := fun _ => fun
  | [d1, d2, d3, d4] => { results := [.lit (.bool true)], args := [d1, d2, d3, d4] }
  | _ => none }
def chainPlaysRow : OpenClaim := { program := "ytdgcppglpmlgkaa", sum := "26af174146d6f7b7f3f8168ae676a89adb7c4aa5db4b34943ad98e717dee5d03", func := "nightjar/nightjarlaw04.ChainPlays", spec := "chainPlays", apart := false }
def ChainPlaysSaid : Prop := chainPlaysRow.holds Try.pinned (OpenSpec.ofChange chainPlaysSpec)

/-- ITS FALSE NEIGHBOUR: 'it returns false'. Refute it at one input. -/
def chainPlaysWrong : ChangeSpec := { name := "chainPlays", fn := fun _ => fun
  | [d1, d2, d3, d4] => { results := [.lit (.bool false)], args := [d1, d2, d3, d4] }
  | _ => none }
def ChainPlaysWrongFalsely : Prop := chainPlaysRow.holds Try.pinned (OpenSpec.ofChange chainPlaysWrong)

/-- 'nightjarlaw04.ChainMoves': WHATEVER THE INPUT: true; the input reads as it did. -/
def chainMovesSpec : ChangeSpec := { name := "chainMoves", fn := fun _ => fun
  | [d1, d2] => { results := [.lit (.bool true)], args := [d1, d2] }
  | _ => none }
def chainMovesRow : OpenClaim := { program := "ytdgcppglpmlgkaa", sum := "26af174146d6f7b7f3f8168ae676a89adb7c4aa5db4b34943ad98e717dee5d03", func := "nightjar/nightjarlaw04.ChainMoves", spec := "chainMoves", apart := false }
def ChainMovesSaid : Prop := chainMovesRow.holds Try.pinned (OpenSpec.ofChange chainMovesSpec)

/-- ITS FALSE NEIGHBOUR: 'it returns false'. Refute it at one input. -/
def chainMovesWrong : ChangeSpec := { name := "chainMoves", fn := fun _ => fun
  | [d1, d2] => { results := [.lit (.bool false)], args := [d1, d2] }
  | _ => none }
def ChainMovesWrongFalsely : Prop := chainMovesRow.holds Try.pinned (OpenSpec.ofChange chainMovesWrong)

/-- 'nightjarlaw04.ChainPulls': WHATEVER THE INPUT: true; the input reads as it did. -/
def chainPullsSpec : ChangeSpec := { name := "chainPulls", fn := fun _ => fun
  | [d1, d2] => { results := [.lit (.bool true)], args := [d1, d2] }
  | _ => none }
def chainPullsRow : OpenClaim := { program := "ytdgcppglpmlgkaa", sum := "26af174146d6f7b7f3f8168ae676a89adb7c4aa5db4b34943ad98e717dee5d03", func := "nightjar/nightjarlaw04.ChainPulls", spec := "chainPulls", apart := false }
def ChainPullsSaid : Prop := chainPullsRow.holds Try.pinned (OpenSpec.ofChange chainPullsSpec)

/-- ITS FALSE NEIGHBOUR: 'it returns false'. Refute it at one input. -/
def chainPullsWrong : ChangeSpec := { name := "chainPulls", fn := fun _ => fun
  | [d1, d2] => { results := [.lit (.bool false)], args := [d1, d2] }
  | _ => none }
def ChainPullsWrongFalsely : Prop := chainPullsRow.holds Try.pinned (OpenSpec.ofChange chainPullsWrong)

/-- 'nightjarlaw04.ChainApart': WHATEVER THE INPUT: true; the input reads as it did. -/
def chainApartSpec : ChangeSpec := { name := "chainApart", fn := fun _ => fun
  | [d] => { results := [.lit (.bool true)], args := [d] }
  | _ => none }
def chainApartRow : OpenClaim := { program := "ytdgcppglpmlgkaa", sum := "26af174146d6f7b7f3f8168ae676a89adb7c4aa5db4b34943ad98e717dee5d03", func := "nightjar/nightjarlaw04.ChainApart", spec := "chainApart", apart := false }
def ChainApartSaid : Prop := chainApartRow.holds Try.pinned (OpenSpec.ofChange chainApartSpec)

/-- ITS FALSE NEIGHBOUR: 'it returns false'. Refute it at one input. -/
def chainApartWrong : ChangeSpec := { name := "chainApart", fn := fun _ => fun
  | [d] => { results := [.lit (.bool false)], args := [d] }
  | _ => none }
def ChainApartWrongFalsely : Prop := chainApartRow.holds Try.pinned (OpenSpec.ofChange chainApartWrong)

/- THE SECOND FORM. 'bulk': how many values and letters a reading holds, each counted each time it is reached (what is shared counts as often as it is met; a slice's spare places count too). A statement '..UptoSaid' is the law's where the arguments, and the package variables that the reading takes, are together of bulk at most 1048576: NARROWER than '..Said'. Prove '..Said' where nothing that the law and all that it calls make is longer than what came in: it says more and counts as full. Else prove '..UptoSaid'. A law counts once. -/
mutual
def uptoBulk {H : Type} : DataW H → Nat
  | .lit (.string bytes) => bytes.length + 1
  | .lit _ => 1
  | .nil => 1
  | .ptr d => uptoBulk d + 1
  | .slice elems spare => uptoBulkAll elems + uptoBulkAll spare + 1
  | .agg parts => uptoBulkAll parts + 1
  | .iface _ d => uptoBulk d + 1
  | .map entries => uptoBulkEntries entries + 1
  | .held _ => 1
def uptoBulkAll {H : Type} : List (DataW H) → Nat
  | [] => 0
  | d :: r => uptoBulk d + uptoBulkAll r
def uptoBulkEntries {H : Type} : List (Lit × DataW H) → Nat
  | [] => 0
  | x :: r => uptoBulkEntry x + uptoBulkEntries r
def uptoBulkEntry {H : Type} : Lit × DataW H → Nat
  | (.string bytes, d) => bytes.length + uptoBulk d + 1
  | (_, d) => uptoBulk d + 1
 end
def uptoSmall : (H : Type) → List (DataW H) → Bool := fun _ ds => decide (uptoBulkAll ds ≤ 1048576)
def OpenSpec.upto (s : _root_.Go.ChangeSpec) : _root_.Go.OpenSpec := { _root_.Go.OpenSpec.ofChange s with cond := some uptoSmall }

/-- 'nightjarlaw06.LedgerPlays', WHERE WHAT IT READS IS OF BULK AT MOST 1048576: true; the input reads as it did. -/
def ledgerPlaysUptoRow : OpenClaim := { program := "ytdgcppglpmlgkaa", sum := "26af174146d6f7b7f3f8168ae676a89adb7c4aa5db4b34943ad98e717dee5d03", func := "nightjar/nightjarlaw06.LedgerPlays", spec := "ledgerPlays", apart := false, narrowed := true }
def LedgerPlaysUptoSaid : Prop := ledgerPlaysUptoRow.holds Try.pinned (OpenSpec.upto ledgerPlaysSpec)

/-- 'nightjarlaw06.LedgerBounds', WHERE WHAT IT READS IS OF BULK AT MOST 1048576: true; the input reads as it did. -/
def ledgerBoundsUptoRow : OpenClaim := { program := "ytdgcppglpmlgkaa", sum := "26af174146d6f7b7f3f8168ae676a89adb7c4aa5db4b34943ad98e717dee5d03", func := "nightjar/nightjarlaw06.LedgerBounds", spec := "ledgerBounds", apart := false, narrowed := true }
def LedgerBoundsUptoSaid : Prop := ledgerBoundsUptoRow.holds Try.pinned (OpenSpec.upto ledgerBoundsSpec)

/-- 'nightjarlaw06.LedgerLowers', WHERE WHAT IT READS IS OF BULK AT MOST 1048576: true; the input reads as it did. -/
def ledgerLowersUptoRow : OpenClaim := { program := "ytdgcppglpmlgkaa", sum := "26af174146d6f7b7f3f8168ae676a89adb7c4aa5db4b34943ad98e717dee5d03", func := "nightjar/nightjarlaw06.LedgerLowers", spec := "ledgerLowers", apart := false, narrowed := true }
def LedgerLowersUptoSaid : Prop := ledgerLowersUptoRow.holds Try.pinned (OpenSpec.upto ledgerLowersSpec)

/-- 'nightjarlaw06.LedgerParts', WHERE WHAT IT READS IS OF BULK AT MOST 1048576: true; the input reads as it did. -/
def ledgerPartsUptoRow : OpenClaim := { program := "ytdgcppglpmlgkaa", sum := "26af174146d6f7b7f3f8168ae676a89adb7c4aa5db4b34943ad98e717dee5d03", func := "nightjar/nightjarlaw06.LedgerParts", spec := "ledgerParts", apart := false, narrowed := true }
def LedgerPartsUptoSaid : Prop := ledgerPartsUptoRow.holds Try.pinned (OpenSpec.upto ledgerPartsSpec)

/-- 'nightjarlaw06.LedgerKeys', WHERE WHAT IT READS IS OF BULK AT MOST 1048576: true; the input reads as it did. -/
def ledgerKeysUptoRow : OpenClaim := { program := "ytdgcppglpmlgkaa", sum := "26af174146d6f7b7f3f8168ae676a89adb7c4aa5db4b34943ad98e717dee5d03", func := "nightjar/nightjarlaw06.LedgerKeys", spec := "ledgerKeys", apart := false, narrowed := true }
def LedgerKeysUptoSaid : Prop := ledgerKeysUptoRow.holds Try.pinned (OpenSpec.upto ledgerKeysSpec)

/-- 'nightjarlaw04.ChainPlays', WHERE WHAT IT READS IS OF BULK AT MOST 1048576: true; the input reads as it did. -/
def chainPlaysUptoRow : OpenClaim := { program := "ytdgcppglpmlgkaa", sum := "26af174146d6f7b7f3f8168ae676a89adb7c4aa5db4b34943ad98e717dee5d03", func := "nightjar/nightjarlaw04.ChainPlays", spec := "chainPlays", apart := false, narrowed := true }
def ChainPlaysUptoSaid : Prop := chainPlaysUptoRow.holds Try.pinned (OpenSpec.upto chainPlaysSpec)

/-- 'nightjarlaw04.ChainMoves', WHERE WHAT IT READS IS OF BULK AT MOST 1048576: true; the input reads as it did. -/
def chainMovesUptoRow : OpenClaim := { program := "ytdgcppglpmlgkaa", sum := "26af174146d6f7b7f3f8168ae676a89adb7c4aa5db4b34943ad98e717dee5d03", func := "nightjar/nightjarlaw04.ChainMoves", spec := "chainMoves", apart := false, narrowed := true }
def ChainMovesUptoSaid : Prop := chainMovesUptoRow.holds Try.pinned (OpenSpec.upto chainMovesSpec)

/-- 'nightjarlaw04.ChainPulls', WHERE WHAT IT READS IS OF BULK AT MOST 1048576: true; the input reads as it did. -/
def chainPullsUptoRow : OpenClaim := { program := "ytdgcppglpmlgkaa", sum := "26af174146d6f7b7f3f8168ae676a89adb7c4aa5db4b34943ad98e717dee5d03", func := "nightjar/nightjarlaw04.ChainPulls", spec := "chainPulls", apart := false, narrowed := true }
def ChainPullsUptoSaid : Prop := chainPullsUptoRow.holds Try.pinned (OpenSpec.upto chainPullsSpec)

/-- 'nightjarlaw04.ChainApart', WHERE WHAT IT READS IS OF BULK AT MOST 1048576: true; the input reads as it did. -/
def chainApartUptoRow : OpenClaim := { program := "ytdgcppglpmlgkaa", sum := "26af174146d6f7b7f3f8168ae676a89adb7c4aa5db4b34943ad98e717dee5d03", func := "nightjar/nightjarlaw04.ChainApart", spec := "chainApart", apart := false, narrowed := true }
def ChainApartUptoSaid : Prop := chainApartUptoRow.holds Try.pinned (OpenSpec.upto chainApartSpec)

end Rows
end Go.Proofs.Ytdgcppglpmlgkaa
