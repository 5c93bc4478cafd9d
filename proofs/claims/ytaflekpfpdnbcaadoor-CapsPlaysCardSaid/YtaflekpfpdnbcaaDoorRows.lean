/-
  NARROWER THAN 'FOR EVERY INPUT', by the rows' own cells (each row's printed sentence says how): CapsNever: laid · CapsBits: laid · CapsRights: laid · CapsRetires: laid · CapsApart: laid · CapsPlays: laid.
  DERIVED. THE GIVEN ROWS OF THIS SEAT. 6 by the template 'for every input the law returns true; each argument reads behind the call as it read before'; 0 by the template 'total and deterministic' (their statements: YtaflekpfpdnbcaaDoorTotals.lean).
  GIVEN WITH THE SEED: the statements are not yours to turn. If you find one false, say at which input.
  Laid BY PROGRAM, IN A SANDBOX (cutbox-rows.mjs): the forced cells as the released guide's own fill.sh prints them over the translation 49cf4f38c0651a23… (all of the seat's roots in one cut). By AI agents, Wed Nov 11 2026. No macro, syntax, notation, axiom, sorry.
-/
import Derived.Test.YtaflekpfpdnbcaaDoorChecked
import GoSem.Claim
import GoSem.ClaimJoined
import GoSem.ClaimMapViews
import Derived.JoinedTies
import Derived.KernelRfl
namespace Go.Proofs.YtaflekpfpdnbcaaDoor
/- THE CELL 'sum', in the pinned program and in every row, IS THE sha256 OF THE DUMP (.gsa) THAT YtaflekpfpdnbcaaDoorProg.lean LOADS. Nothing in Lean hashes anything: it is a label: what it is worth is what the hold of that sum in a sandbox is worth. -/
noncomputable def Tryd.pinned : Pinned := { name := "ytaflekpfpdnbcaadoor", sum := "49cf4f38c0651a23d91bbba00d4a1e5b2c3eb20956e481dac48920de90192d61", checked := Tryd.checked }
namespace Rows
def none {H : Type} : Left H := { results := [], args := [] }

/- WHAT THE LISTED PACKAGE-LEVEL VARIABLES READ AS WHEN THE CALL BEGINS. Each datum BY PROGRAM (the guide's laid-datum.mjs) off the statement by which the dump's own 'gosem.cut.vars' lays the variable. In a bare row this is a premise. The card (YtaflekpfpdnbcaaDoorCards.lean) ties it to the program's text. -/
def laid_math_bits_deBruijn64tab {H : Type} : DataW H := .agg [.lit (.int .u8 0), .lit (.int .u8 1), .lit (.int .u8 56), .lit (.int .u8 2), .lit (.int .u8 57), .lit (.int .u8 49), .lit (.int .u8 28), .lit (.int .u8 3), .lit (.int .u8 61), .lit (.int .u8 58), .lit (.int .u8 42), .lit (.int .u8 50), .lit (.int .u8 38), .lit (.int .u8 29), .lit (.int .u8 17), .lit (.int .u8 4), .lit (.int .u8 62), .lit (.int .u8 47), .lit (.int .u8 59), .lit (.int .u8 36), .lit (.int .u8 45), .lit (.int .u8 43), .lit (.int .u8 51), .lit (.int .u8 22), .lit (.int .u8 53), .lit (.int .u8 39), .lit (.int .u8 33), .lit (.int .u8 30), .lit (.int .u8 24), .lit (.int .u8 18), .lit (.int .u8 12), .lit (.int .u8 5), .lit (.int .u8 63), .lit (.int .u8 55), .lit (.int .u8 48), .lit (.int .u8 27), .lit (.int .u8 60), .lit (.int .u8 41), .lit (.int .u8 37), .lit (.int .u8 16), .lit (.int .u8 46), .lit (.int .u8 35), .lit (.int .u8 44), .lit (.int .u8 21), .lit (.int .u8 52), .lit (.int .u8 32), .lit (.int .u8 23), .lit (.int .u8 11), .lit (.int .u8 54), .lit (.int .u8 26), .lit (.int .u8 40), .lit (.int .u8 15), .lit (.int .u8 34), .lit (.int .u8 20), .lit (.int .u8 31), .lit (.int .u8 10), .lit (.int .u8 25), .lit (.int .u8 14), .lit (.int .u8 19), .lit (.int .u8 9), .lit (.int .u8 13), .lit (.int .u8 8), .lit (.int .u8 7), .lit (.int .u8 6)]

/-- 'nightjarlaw05.CapsNever': WHATEVER THE INPUT: true; the input reads as it did. -/
def capsNeverSpec : ChangeSpec := { name := "capsNever", fn := fun _ => fun
  | [d1, d2, d3, d4] => { results := [.lit (.bool true)], args := [d1, d2, d3, d4] }
  | _ => none }
def capsNeverRow : OpenClaim := { program := "ytaflekpfpdnbcaadoor", sum := "49cf4f38c0651a23d91bbba00d4a1e5b2c3eb20956e481dac48920de90192d61", func := "nightjar/nightjarlaw05.CapsNever", spec := "capsNever", named := ["math/bits.deBruijn64tab"], apart := false, laid := [("math/bits.deBruijn64tab", laid_math_bits_deBruijn64tab)] }
def CapsNeverSaid : Prop := capsNeverRow.holds Tryd.pinned (OpenSpec.ofChange capsNeverSpec)

/-- ITS FALSE NEIGHBOUR: 'it returns false'. Refute it at one input. -/
def capsNeverWrong : ChangeSpec := { name := "capsNever", fn := fun _ => fun
  | [d1, d2, d3, d4] => { results := [.lit (.bool false)], args := [d1, d2, d3, d4] }
  | _ => none }
def CapsNeverWrongFalsely : Prop := capsNeverRow.holds Tryd.pinned (OpenSpec.ofChange capsNeverWrong)

/-- 'nightjarlaw05.CapsBits': WHATEVER THE INPUT: true; the input reads as it did. -/
def capsBitsSpec : ChangeSpec := { name := "capsBits", fn := fun _ => fun
  | [d1, d2, d3, d4] => { results := [.lit (.bool true)], args := [d1, d2, d3, d4] }
  | _ => none }
def capsBitsRow : OpenClaim := { program := "ytaflekpfpdnbcaadoor", sum := "49cf4f38c0651a23d91bbba00d4a1e5b2c3eb20956e481dac48920de90192d61", func := "nightjar/nightjarlaw05.CapsBits", spec := "capsBits", named := ["math/bits.deBruijn64tab"], apart := false, laid := [("math/bits.deBruijn64tab", laid_math_bits_deBruijn64tab)] }
def CapsBitsSaid : Prop := capsBitsRow.holds Tryd.pinned (OpenSpec.ofChange capsBitsSpec)

/-- ITS FALSE NEIGHBOUR: 'it returns false'. Refute it at one input. -/
def capsBitsWrong : ChangeSpec := { name := "capsBits", fn := fun _ => fun
  | [d1, d2, d3, d4] => { results := [.lit (.bool false)], args := [d1, d2, d3, d4] }
  | _ => none }
def CapsBitsWrongFalsely : Prop := capsBitsRow.holds Tryd.pinned (OpenSpec.ofChange capsBitsWrong)

/-- 'nightjarlaw05.CapsRights': WHATEVER THE INPUT: true; the input reads as it did. -/
def capsRightsSpec : ChangeSpec := { name := "capsRights", fn := fun _ => fun
  | [d1, d2, d3, d4, d5] => { results := [.lit (.bool true)], args := [d1, d2, d3, d4, d5] }
  | _ => none }
def capsRightsRow : OpenClaim := { program := "ytaflekpfpdnbcaadoor", sum := "49cf4f38c0651a23d91bbba00d4a1e5b2c3eb20956e481dac48920de90192d61", func := "nightjar/nightjarlaw05.CapsRights", spec := "capsRights", named := ["math/bits.deBruijn64tab"], apart := false, laid := [("math/bits.deBruijn64tab", laid_math_bits_deBruijn64tab)] }
def CapsRightsSaid : Prop := capsRightsRow.holds Tryd.pinned (OpenSpec.ofChange capsRightsSpec)

/-- ITS FALSE NEIGHBOUR: 'it returns false'. Refute it at one input. -/
def capsRightsWrong : ChangeSpec := { name := "capsRights", fn := fun _ => fun
  | [d1, d2, d3, d4, d5] => { results := [.lit (.bool false)], args := [d1, d2, d3, d4, d5] }
  | _ => none }
def CapsRightsWrongFalsely : Prop := capsRightsRow.holds Tryd.pinned (OpenSpec.ofChange capsRightsWrong)

/-- 'nightjarlaw05.CapsRetires': WHATEVER THE INPUT: true; the input reads as it did. -/
def capsRetiresSpec : ChangeSpec := { name := "capsRetires", fn := fun _ => fun
  | [d1, d2] => { results := [.lit (.bool true)], args := [d1, d2] }
  | _ => none }
def capsRetiresRow : OpenClaim := { program := "ytaflekpfpdnbcaadoor", sum := "49cf4f38c0651a23d91bbba00d4a1e5b2c3eb20956e481dac48920de90192d61", func := "nightjar/nightjarlaw05.CapsRetires", spec := "capsRetires", unfollowed := true, recurses := true, named := ["math/bits.deBruijn64tab"], apart := false, laid := [("math/bits.deBruijn64tab", laid_math_bits_deBruijn64tab)] }
def CapsRetiresSaid : Prop := capsRetiresRow.holds Tryd.pinned (OpenSpec.ofChange capsRetiresSpec)

/-- ITS FALSE NEIGHBOUR: 'it returns false'. Refute it at one input. -/
def capsRetiresWrong : ChangeSpec := { name := "capsRetires", fn := fun _ => fun
  | [d1, d2] => { results := [.lit (.bool false)], args := [d1, d2] }
  | _ => none }
def CapsRetiresWrongFalsely : Prop := capsRetiresRow.holds Tryd.pinned (OpenSpec.ofChange capsRetiresWrong)

/-- 'nightjarlaw05.CapsApart': WHATEVER THE INPUT: true; the input reads as it did. -/
def capsApartSpec : ChangeSpec := { name := "capsApart", fn := fun _ => fun
  | [d1, d2, d3, d4, d5] => { results := [.lit (.bool true)], args := [d1, d2, d3, d4, d5] }
  | _ => none }
def capsApartRow : OpenClaim := { program := "ytaflekpfpdnbcaadoor", sum := "49cf4f38c0651a23d91bbba00d4a1e5b2c3eb20956e481dac48920de90192d61", func := "nightjar/nightjarlaw05.CapsApart", spec := "capsApart", unfollowed := true, recurses := true, named := ["math/bits.deBruijn64tab"], apart := false, laid := [("math/bits.deBruijn64tab", laid_math_bits_deBruijn64tab)] }
def CapsApartSaid : Prop := capsApartRow.holds Tryd.pinned (OpenSpec.ofChange capsApartSpec)

/-- ITS FALSE NEIGHBOUR: 'it returns false'. Refute it at one input. -/
def capsApartWrong : ChangeSpec := { name := "capsApart", fn := fun _ => fun
  | [d1, d2, d3, d4, d5] => { results := [.lit (.bool false)], args := [d1, d2, d3, d4, d5] }
  | _ => none }
def CapsApartWrongFalsely : Prop := capsApartRow.holds Tryd.pinned (OpenSpec.ofChange capsApartWrong)

/-- 'nightjarlaw05.CapsPlays': WHATEVER THE INPUT: true; the input reads as it did. -/
def capsPlaysSpec : ChangeSpec := { name := "capsPlays", fn := fun _ => fun
  | [d1, d2, d3, d4, d5, d6] => { results := [.lit (.bool true)], args := [d1, d2, d3, d4, d5, d6] }
  | _ => none }
def capsPlaysRow : OpenClaim := { program := "ytaflekpfpdnbcaadoor", sum := "49cf4f38c0651a23d91bbba00d4a1e5b2c3eb20956e481dac48920de90192d61", func := "nightjar/nightjarlaw05.CapsPlays", spec := "capsPlays", unfollowed := true, recurses := true, named := ["math/bits.deBruijn64tab"], apart := false, laid := [("math/bits.deBruijn64tab", laid_math_bits_deBruijn64tab)] }
def CapsPlaysSaid : Prop := capsPlaysRow.holds Tryd.pinned (OpenSpec.ofChange capsPlaysSpec)

/-- ITS FALSE NEIGHBOUR: 'it returns false'. Refute it at one input. -/
def capsPlaysWrong : ChangeSpec := { name := "capsPlays", fn := fun _ => fun
  | [d1, d2, d3, d4, d5, d6] => { results := [.lit (.bool false)], args := [d1, d2, d3, d4, d5, d6] }
  | _ => none }
def CapsPlaysWrongFalsely : Prop := capsPlaysRow.holds Tryd.pinned (OpenSpec.ofChange capsPlaysWrong)

/- THE SECOND FORM. 'bulk': how many values and letters a reading holds, each counted each time it is reached (what is shared counts as often as it is met; a slice's spare places count too). A statement '..UptoSaid' is the law's where the arguments, and the package variables that the reading takes, are together of bulk at most 1048576: NARROWER than '..Said'. Prove '..Said' where nothing that the law and all that it calls make is longer than what came in: it says more and counts as full. Else prove '..UptoSaid'. A law counts once. -/
mutual
def uptoBulk {H : Type} : DataW H → Nat
  | .lit (.string bytes) => bytes.length + 1
  | .lit _ => 1
  | .nil => 1
  | .ptr d => uptoBulk d + 1
  | .slice elems spare => uptoBulkAll elems + uptoBulkAll spare + 1
  | .agg parts => uptoBulkAll parts + 1
  | .iface _ d => uptoBulk d + 1
  | .map entries => uptoBulkEntries entries + 1
  | .held _ => 1
def uptoBulkAll {H : Type} : List (DataW H) → Nat
  | [] => 0
  | d :: r => uptoBulk d + uptoBulkAll r
def uptoBulkEntries {H : Type} : List (Lit × DataW H) → Nat
  | [] => 0
  | x :: r => uptoBulkEntry x + uptoBulkEntries r
def uptoBulkEntry {H : Type} : Lit × DataW H → Nat
  | (.string bytes, d) => bytes.length + uptoBulk d + 1
  | (_, d) => uptoBulk d + 1
 end
def uptoSmall : (H : Type) → List (DataW H) → Bool := fun _ ds => decide (uptoBulkAll ds ≤ 1048576)
def OpenSpec.upto (s : _root_.Go.ChangeSpec) : _root_.Go.OpenSpec := { _root_.Go.OpenSpec.ofChange s with cond := some uptoSmall }

/-- 'nightjarlaw05.CapsNever', WHERE WHAT IT READS IS OF BULK AT MOST 1048576: true; the input reads as it did. -/
def capsNeverUptoRow : OpenClaim := { program := "ytaflekpfpdnbcaadoor", sum := "49cf4f38c0651a23d91bbba00d4a1e5b2c3eb20956e481dac48920de90192d61", func := "nightjar/nightjarlaw05.CapsNever", spec := "capsNever", named := ["math/bits.deBruijn64tab"], apart := false, laid := [("math/bits.deBruijn64tab", laid_math_bits_deBruijn64tab)], narrowed := true }
def CapsNeverUptoSaid : Prop := capsNeverUptoRow.holds Tryd.pinned (OpenSpec.upto capsNeverSpec)

/-- 'nightjarlaw05.CapsBits', WHERE WHAT IT READS IS OF BULK AT MOST 1048576: true; the input reads as it did. -/
def capsBitsUptoRow : OpenClaim := { program := "ytaflekpfpdnbcaadoor", sum := "49cf4f38c0651a23d91bbba00d4a1e5b2c3eb20956e481dac48920de90192d61", func := "nightjar/nightjarlaw05.CapsBits", spec := "capsBits", named := ["math/bits.deBruijn64tab"], apart := false, laid := [("math/bits.deBruijn64tab", laid_math_bits_deBruijn64tab)], narrowed := true }
def CapsBitsUptoSaid : Prop := capsBitsUptoRow.holds Tryd.pinned (OpenSpec.upto capsBitsSpec)

/-- 'nightjarlaw05.CapsRights', WHERE WHAT IT READS IS OF BULK AT MOST 1048576: true; the input reads as it did. -/
def capsRightsUptoRow : OpenClaim := { program := "ytaflekpfpdnbcaadoor", sum := "49cf4f38c0651a23d91bbba00d4a1e5b2c3eb20956e481dac48920de90192d61", func := "nightjar/nightjarlaw05.CapsRights", spec := "capsRights", named := ["math/bits.deBruijn64tab"], apart := false, laid := [("math/bits.deBruijn64tab", laid_math_bits_deBruijn64tab)], narrowed := true }
def CapsRightsUptoSaid : Prop := capsRightsUptoRow.holds Tryd.pinned (OpenSpec.upto capsRightsSpec)

/-- 'nightjarlaw05.CapsRetires', WHERE WHAT IT READS IS OF BULK AT MOST 1048576: true; the input reads as it did. -/
def capsRetiresUptoRow : OpenClaim := { program := "ytaflekpfpdnbcaadoor", sum := "49cf4f38c0651a23d91bbba00d4a1e5b2c3eb20956e481dac48920de90192d61", func := "nightjar/nightjarlaw05.CapsRetires", spec := "capsRetires", unfollowed := true, recurses := true, named := ["math/bits.deBruijn64tab"], apart := false, laid := [("math/bits.deBruijn64tab", laid_math_bits_deBruijn64tab)], narrowed := true }
def CapsRetiresUptoSaid : Prop := capsRetiresUptoRow.holds Tryd.pinned (OpenSpec.upto capsRetiresSpec)

/-- 'nightjarlaw05.CapsApart', WHERE WHAT IT READS IS OF BULK AT MOST 1048576: true; the input reads as it did. -/
def capsApartUptoRow : OpenClaim := { program := "ytaflekpfpdnbcaadoor", sum := "49cf4f38c0651a23d91bbba00d4a1e5b2c3eb20956e481dac48920de90192d61", func := "nightjar/nightjarlaw05.CapsApart", spec := "capsApart", unfollowed := true, recurses := true, named := ["math/bits.deBruijn64tab"], apart := false, laid := [("math/bits.deBruijn64tab", laid_math_bits_deBruijn64tab)], narrowed := true }
def CapsApartUptoSaid : Prop := capsApartUptoRow.holds Tryd.pinned (OpenSpec.upto capsApartSpec)

/-- 'nightjarlaw05.CapsPlays', WHERE WHAT IT READS IS OF BULK AT MOST 1048576: true; the input reads as it did. -/
def capsPlaysUptoRow : OpenClaim := { program := "ytaflekpfpdnbcaadoor", sum := "49cf4f38c0651a23d91bbba00d4a1e5b2c3eb20956e481dac48920de90192d61", func := "nightjar/nightjarlaw05.CapsPlays", spec := "capsPlays", unfollowed := true, recurses := true, named := ["math/bits.deBruijn64tab"], apart := false, laid := [("math/bits.deBruijn64tab", laid_math_bits_deBruijn64tab)], narrowed := true }
def CapsPlaysUptoSaid : Prop := capsPlaysUptoRow.holds Tryd.pinned (OpenSpec.upto capsPlaysSpec)

end Rows
end Go.Proofs.YtaflekpfpdnbcaaDoor
