/-
  No cell of these rows narrows 'for every input' (looked for: loops, veiled, ifaces, maps, wideKeys, modest, calm, conditions, laid).
  DERIVED. THE GIVEN ROWS OF THIS SEAT. 6 by the template 'for every input the law returns true; each argument reads behind the call as it read before'; 0 by the template 'total and deterministic' (their statements: YtnlbcgonegeofaaTotals.lean).
  GIVEN WITH THE SEED: the statements are not yours to turn. If you find one false, say at which input.
  Laid BY PROGRAM, IN A SANDBOX (cutbox-rows.mjs): the forced cells as the released guide's own fill.sh prints them over the translation 39ad8d46877476e2… (all of the seat's roots in one cut). By AI agents, Wed Nov 11 2026. No macro, syntax, notation, axiom, sorry.
-/
import Derived.Test.YtnlbcgonegeofaaChecked
import GoSem.Claim
import GoSem.ClaimJoined
import GoSem.ClaimMapViews
import Derived.JoinedTies
import Derived.KernelRfl
namespace Go.Proofs.Ytnlbcgonegeofaa
/- THE CELL 'sum', in the pinned program and in every row, IS THE sha256 OF THE DUMP (.gsa) THAT YtnlbcgonegeofaaProg.lean LOADS. Nothing in Lean hashes anything: it is a label: what it is worth is what the hold of that sum in a sandbox is worth. -/
noncomputable def Try.pinned : Pinned := { name := "ytnlbcgonegeofaa", sum := "39ad8d46877476e2b76d433c60e0acc6bd4b6d02527d89b256fb276b26f3f63f", checked := Try.checked }
namespace Rows
def none {H : Type} : Left H := { results := [], args := [] }

/-- 'nightjarlaw09.PlanTells': WHATEVER THE INPUT: true; the input reads as it did. -/
def planTellsSpec : ChangeSpec := { name := "planTells", fn := fun _ => fun
  | [d1, d2, d3, d4, d5] => { results := [.lit (.bool true)], args := [d1, d2, d3, d4, d5] }
  | _ => none }
def planTellsRow : OpenClaim := { program := "ytnlbcgonegeofaa", sum := "39ad8d46877476e2b76d433c60e0acc6bd4b6d02527d89b256fb276b26f3f63f", func := "nightjar/nightjarlaw09.PlanTells", spec := "planTells", apart := false }
def PlanTellsSaid : Prop := planTellsRow.holds Try.pinned (OpenSpec.ofChange planTellsSpec)

/-- ITS FALSE NEIGHBOUR: 'it returns false'. Refute it at one input. -/
def planTellsWrong : ChangeSpec := { name := "planTells", fn := fun _ => fun
  | [d1, d2, d3, d4, d5] => { results := [.lit (.bool false)], args := [d1, d2, d3, d4, d5] }
  | _ => none }
def PlanTellsWrongFalsely : Prop := planTellsRow.holds Try.pinned (OpenSpec.ofChange planTellsWrong)

/-- 'nightjarlaw09.PlanTurns': WHATEVER THE INPUT: true; the input reads as it did. -/
def planTurnsSpec : ChangeSpec := { name := "planTurns", fn := fun _ => fun
  | [d1, d2, d3] => { results := [.lit (.bool true)], args := [d1, d2, d3] }
  | _ => none }
def planTurnsRow : OpenClaim := { program := "ytnlbcgonegeofaa", sum := "39ad8d46877476e2b76d433c60e0acc6bd4b6d02527d89b256fb276b26f3f63f", func := "nightjar/nightjarlaw09.PlanTurns", spec := "planTurns", apart := false }
def PlanTurnsSaid : Prop := planTurnsRow.holds Try.pinned (OpenSpec.ofChange planTurnsSpec)

/-- ITS FALSE NEIGHBOUR: 'it returns false'. Refute it at one input. -/
def planTurnsWrong : ChangeSpec := { name := "planTurns", fn := fun _ => fun
  | [d1, d2, d3] => { results := [.lit (.bool false)], args := [d1, d2, d3] }
  | _ => none }
def PlanTurnsWrongFalsely : Prop := planTurnsRow.holds Try.pinned (OpenSpec.ofChange planTurnsWrong)

/-- 'nightjarlaw09.PlanNexts': WHATEVER THE INPUT: true; the input reads as it did. -/
def planNextsSpec : ChangeSpec := { name := "planNexts", fn := fun _ => fun
  | [d1, d2, d3, d4] => { results := [.lit (.bool true)], args := [d1, d2, d3, d4] }
  | _ => none }
def planNextsRow : OpenClaim := { program := "ytnlbcgonegeofaa", sum := "39ad8d46877476e2b76d433c60e0acc6bd4b6d02527d89b256fb276b26f3f63f", func := "nightjar/nightjarlaw09.PlanNexts", spec := "planNexts", apart := false }
def PlanNextsSaid : Prop := planNextsRow.holds Try.pinned (OpenSpec.ofChange planNextsSpec)

/-- ITS FALSE NEIGHBOUR: 'it returns false'. Refute it at one input. -/
def planNextsWrong : ChangeSpec := { name := "planNexts", fn := fun _ => fun
  | [d1, d2, d3, d4] => { results := [.lit (.bool false)], args := [d1, d2, d3, d4] }
  | _ => none }
def PlanNextsWrongFalsely : Prop := planNextsRow.holds Try.pinned (OpenSpec.ofChange planNextsWrong)

/-- 'nightjarlaw09.PlanKths': WHATEVER THE INPUT: true; the input reads as it did. -/
def planKthsSpec : ChangeSpec := { name := "planKths", fn := fun _ => fun
  | [d1, d2, d3, d4, d5, d6] => { results := [.lit (.bool true)], args := [d1, d2, d3, d4, d5, d6] }
  | _ => none }
def planKthsRow : OpenClaim := { program := "ytnlbcgonegeofaa", sum := "39ad8d46877476e2b76d433c60e0acc6bd4b6d02527d89b256fb276b26f3f63f", func := "nightjar/nightjarlaw09.PlanKths", spec := "planKths", apart := false }
def PlanKthsSaid : Prop := planKthsRow.holds Try.pinned (OpenSpec.ofChange planKthsSpec)

/-- ITS FALSE NEIGHBOUR: 'it returns false'. Refute it at one input. -/
def planKthsWrong : ChangeSpec := { name := "planKths", fn := fun _ => fun
  | [d1, d2, d3, d4, d5, d6] => { results := [.lit (.bool false)], args := [d1, d2, d3, d4, d5, d6] }
  | _ => none }
def PlanKthsWrongFalsely : Prop := planKthsRow.holds Try.pinned (OpenSpec.ofChange planKthsWrong)

/-- 'nightjarlaw09.PlanCounts': WHATEVER THE INPUT: true; the input reads as it did. -/
def planCountsSpec : ChangeSpec := { name := "planCounts", fn := fun _ => fun
  | [d1, d2, d3, d4] => { results := [.lit (.bool true)], args := [d1, d2, d3, d4] }
  | _ => none }
def planCountsRow : OpenClaim := { program := "ytnlbcgonegeofaa", sum := "39ad8d46877476e2b76d433c60e0acc6bd4b6d02527d89b256fb276b26f3f63f", func := "nightjar/nightjarlaw09.PlanCounts", spec := "planCounts", apart := false }
def PlanCountsSaid : Prop := planCountsRow.holds Try.pinned (OpenSpec.ofChange planCountsSpec)

/-- ITS FALSE NEIGHBOUR: 'it returns false'. Refute it at one input. -/
def planCountsWrong : ChangeSpec := { name := "planCounts", fn := fun _ => fun
  | [d1, d2, d3, d4] => { results := [.lit (.bool false)], args := [d1, d2, d3, d4] }
  | _ => none }
def PlanCountsWrongFalsely : Prop := planCountsRow.holds Try.pinned (OpenSpec.ofChange planCountsWrong)

/-- 'nightjarlaw09.PlanLonger': WHATEVER THE INPUT: true; the input reads as it did. -/
def planLongerSpec : ChangeSpec := { name := "planLonger", fn := fun _ => fun
  | [d1, d2, d3, d4] => { results := [.lit (.bool true)], args := [d1, d2, d3, d4] }
  | _ => none }
def planLongerRow : OpenClaim := { program := "ytnlbcgonegeofaa", sum := "39ad8d46877476e2b76d433c60e0acc6bd4b6d02527d89b256fb276b26f3f63f", func := "nightjar/nightjarlaw09.PlanLonger", spec := "planLonger", apart := false }
def PlanLongerSaid : Prop := planLongerRow.holds Try.pinned (OpenSpec.ofChange planLongerSpec)

/-- ITS FALSE NEIGHBOUR: 'it returns false'. Refute it at one input. -/
def planLongerWrong : ChangeSpec := { name := "planLonger", fn := fun _ => fun
  | [d1, d2, d3, d4] => { results := [.lit (.bool false)], args := [d1, d2, d3, d4] }
  | _ => none }
def PlanLongerWrongFalsely : Prop := planLongerRow.holds Try.pinned (OpenSpec.ofChange planLongerWrong)

/- THE SECOND FORM. 'bulk': how many values and letters a reading holds, each counted each time it is reached (what is shared counts as often as it is met; a slice's spare places count too). A statement '..UptoSaid' is the law's where the arguments, and the package variables that the reading takes, are together of bulk at most 1048576: NARROWER than '..Said'. Prove '..Said' where nothing that the law and all that it calls make is longer than what came in: it says more and counts as full. Else prove '..UptoSaid'. A law counts once. -/
mutual
def uptoBulk {H : Type} : DataW H → Nat
  | .lit (.string bytes) => bytes.length + 1
  | .lit _ => 1
  | .nil => 1
  | .ptr d => uptoBulk d + 1
  | .slice elems spare => uptoBulkAll elems + uptoBulkAll spare + 1
  | .agg parts => uptoBulkAll parts + 1
  | .iface _ d => uptoBulk d + 1
  | .map entries => uptoBulkEntries entries + 1
  | .held _ => 1
def uptoBulkAll {H : Type} : List (DataW H) → Nat
  | [] => 0
  | d :: r => uptoBulk d + uptoBulkAll r
def uptoBulkEntries {H : Type} : List (Lit × DataW H) → Nat
  | [] => 0
  | x :: r => uptoBulkEntry x + uptoBulkEntries r
def uptoBulkEntry {H : Type} : Lit × DataW H → Nat
  | (.string bytes, d) => bytes.length + uptoBulk d + 1
  | (_, d) => uptoBulk d + 1
 end
def uptoSmall : (H : Type) → List (DataW H) → Bool := fun _ ds => decide (uptoBulkAll ds ≤ 1048576)
def OpenSpec.upto (s : _root_.Go.ChangeSpec) : _root_.Go.OpenSpec := { _root_.Go.OpenSpec.ofChange s with cond := some uptoSmall }

/-- 'nightjarlaw09.PlanTells', WHERE WHAT IT READS IS OF BULK AT MOST 1048576: true; the input reads as it did. -/
def planTellsUptoRow : OpenClaim := { program := "ytnlbcgonegeofaa", sum := "39ad8d46877476e2b76d433c60e0acc6bd4b6d02527d89b256fb276b26f3f63f", func := "nightjar/nightjarlaw09.PlanTells", spec := "planTells", apart := false, narrowed := true }
def PlanTellsUptoSaid : Prop := planTellsUptoRow.holds Try.pinned (OpenSpec.upto planTellsSpec)

/-- 'nightjarlaw09.PlanTurns', WHERE WHAT IT READS IS OF BULK AT MOST 1048576: true; the input reads as it did. -/
def planTurnsUptoRow : OpenClaim := { program := "ytnlbcgonegeofaa", sum := "39ad8d46877476e2b76d433c60e0acc6bd4b6d02527d89b256fb276b26f3f63f", func := "nightjar/nightjarlaw09.PlanTurns", spec := "planTurns", apart := false, narrowed := true }
def PlanTurnsUptoSaid : Prop := planTurnsUptoRow.holds Try.pinned (OpenSpec.upto planTurnsSpec)

/-- 'nightjarlaw09.PlanNexts', WHERE WHAT IT READS IS OF BULK AT MOST 1048576: true; the input reads as it did. -/
def planNextsUptoRow : OpenClaim := { program := "ytnlbcgonegeofaa", sum := "39ad8d46877476e2b76d433c60e0acc6bd4b6d02527d89b256fb276b26f3f63f", func := "nightjar/nightjarlaw09.PlanNexts", spec := "planNexts", apart := false, narrowed := true }
def PlanNextsUptoSaid : Prop := planNextsUptoRow.holds Try.pinned (OpenSpec.upto planNextsSpec)

/-- 'nightjarlaw09.PlanKths', WHERE WHAT IT READS IS OF BULK AT MOST 1048576: true; the input reads as it did. -/
def planKthsUptoRow : OpenClaim := { program := "ytnlbcgonegeofaa", sum := "39ad8d46877476e2b76d433c60e0acc6bd4b6d02527d89b256fb276b26f3f63f", func := "nightjar/nightjarlaw09.PlanKths", spec := "planKths", apart := false, narrowed := true }
def PlanKthsUptoSaid : Prop := planKthsUptoRow.holds Try.pinned (OpenSpec.upto planKthsSpec)

/-- 'nightjarlaw09.PlanCounts', WHERE WHAT IT READS IS OF BULK AT MOST 1048576: true; the input reads as it did. -/
def planCountsUptoRow : OpenClaim := { program := "ytnlbcgonegeofaa", sum := "39ad8d46877476e2b76d433c60e0acc6bd4b6d02527d89b256fb276b26f3f63f", func := "nightjar/nightjarlaw09.PlanCounts", spec := "planCounts", apart := false, narrowed := true }
def PlanCountsUptoSaid : Prop := planCountsUptoRow.holds Try.pinned (OpenSpec.upto planCountsSpec)

/-- 'nightjarlaw09.PlanLonger', WHERE WHAT IT READS IS OF BULK AT MOST 1048576: true; the input reads as it did. -/
def planLongerUptoRow : OpenClaim := { program := "ytnlbcgonegeofaa", sum := "39ad8d46877476e2b76d433c60e0acc6bd4b6d02527d89b256fb276b26f3f63f", func := "nightjar/nightjarlaw09.PlanLonger", spec := "planLonger", apart := false, narrowed := true }
def PlanLongerUptoSaid : Prop := planLongerUptoRow.holds Try.pinned (OpenSpec.upto planLongerSpec)

end Rows
end Go.Proofs.Ytnlbcgonegeofaa
