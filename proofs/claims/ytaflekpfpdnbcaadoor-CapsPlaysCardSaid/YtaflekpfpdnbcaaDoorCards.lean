/-
  DERIVED. GIVEN WITH THE SEED: THE CARDS: each row of YtaflekpfpdnbcaaDoorRows.lean that lists a variable, with what it lists TIED to the program's text (the seventh form; the later family's looks); each row that meets fmt, with fmt's text TOLD by the authors' own Lean function (tested against real Go, not proved from fmt's source: count such statements apart). THE CARD IS WHAT COUNTS. Prove the row's statement (the work); the ties are given (YtaflekpfpdnbcaaDoorTie.lean); close each card by the builder's one call (the guide's Derived/Test/ToyasCard.lean, 'card_holds'). Laid BY PROGRAM, IN A SANDBOX (cutbox-door.mjs). By AI agents, Wed Nov 11 2026. No macro, syntax, notation, axiom, sorry.
-/
import Derived.Test.YtaflekpfpdnbcaaDoorRows
import GoSem.ClaimSeven
namespace Go.Proofs.YtaflekpfpdnbcaaDoor
namespace Rows

/-- THE TIED CARD OF 'nightjarlaw05.CapsNever'. -/
def capsNeverCard : Claim7 := { stood := { row := capsNeverRow, standIns := [], harness := (true, "136158592a3455d0207f4acdf808e772d5b76935aded307869ed4b3a50bb3b13"), looks := false }, kinds := [], alts := [], laidByText := true, laidKinds := [.data], laidTests := true, laidLooks := .later }
def CapsNeverCardSaid : Prop := Claim7.holds Tryd.pinned (.plain (OpenSpec.ofChange capsNeverSpec)) capsNeverCard

/-- THE TIED CARD OF 'nightjarlaw05.CapsBits'. -/
def capsBitsCard : Claim7 := { stood := { row := capsBitsRow, standIns := [], harness := (true, "136158592a3455d0207f4acdf808e772d5b76935aded307869ed4b3a50bb3b13"), looks := false }, kinds := [], alts := [], laidByText := true, laidKinds := [.data], laidTests := true, laidLooks := .later }
def CapsBitsCardSaid : Prop := Claim7.holds Tryd.pinned (.plain (OpenSpec.ofChange capsBitsSpec)) capsBitsCard

/-- THE TIED CARD OF 'nightjarlaw05.CapsRights'. -/
def capsRightsCard : Claim7 := { stood := { row := capsRightsRow, standIns := [], harness := (true, "136158592a3455d0207f4acdf808e772d5b76935aded307869ed4b3a50bb3b13"), looks := false }, kinds := [], alts := [], laidByText := true, laidKinds := [.data], laidTests := true, laidLooks := .later }
def CapsRightsCardSaid : Prop := Claim7.holds Tryd.pinned (.plain (OpenSpec.ofChange capsRightsSpec)) capsRightsCard

/-- THE TIED CARD OF 'nightjarlaw05.CapsRetires'. -/
def capsRetiresCard : Claim7 := { stood := { row := capsRetiresRow, standIns := [], harness := (true, "136158592a3455d0207f4acdf808e772d5b76935aded307869ed4b3a50bb3b13"), looks := false }, kinds := [], alts := [], laidByText := true, laidKinds := [.data], laidTests := true, laidLooks := .later }
def CapsRetiresCardSaid : Prop := Claim7.holds Tryd.pinned (.plain (OpenSpec.ofChange capsRetiresSpec)) capsRetiresCard

/-- THE TIED CARD OF 'nightjarlaw05.CapsApart'. -/
def capsApartCard : Claim7 := { stood := { row := capsApartRow, standIns := [], harness := (true, "136158592a3455d0207f4acdf808e772d5b76935aded307869ed4b3a50bb3b13"), looks := false }, kinds := [], alts := [], laidByText := true, laidKinds := [.data], laidTests := true, laidLooks := .later }
def CapsApartCardSaid : Prop := Claim7.holds Tryd.pinned (.plain (OpenSpec.ofChange capsApartSpec)) capsApartCard

/-- THE TIED CARD OF 'nightjarlaw05.CapsPlays'. -/
def capsPlaysCard : Claim7 := { stood := { row := capsPlaysRow, standIns := [], harness := (true, "136158592a3455d0207f4acdf808e772d5b76935aded307869ed4b3a50bb3b13"), looks := false }, kinds := [], alts := [], laidByText := true, laidKinds := [.data], laidTests := true, laidLooks := .later }
def CapsPlaysCardSaid : Prop := Claim7.holds Tryd.pinned (.plain (OpenSpec.ofChange capsPlaysSpec)) capsPlaysCard

/-- THE SECOND FORM's CARD OF 'nightjarlaw05.CapsNever'. -/
def capsNeverUptoCard : Claim7 := { stood := { row := capsNeverUptoRow, standIns := [], harness := (true, "136158592a3455d0207f4acdf808e772d5b76935aded307869ed4b3a50bb3b13"), looks := false }, kinds := [], alts := [], laidByText := true, laidKinds := [.data], laidTests := true, laidLooks := .later }
def CapsNeverUptoCardSaid : Prop := Claim7.holds Tryd.pinned (.plain (OpenSpec.upto capsNeverSpec)) capsNeverUptoCard

/-- THE SECOND FORM's CARD OF 'nightjarlaw05.CapsBits'. -/
def capsBitsUptoCard : Claim7 := { stood := { row := capsBitsUptoRow, standIns := [], harness := (true, "136158592a3455d0207f4acdf808e772d5b76935aded307869ed4b3a50bb3b13"), looks := false }, kinds := [], alts := [], laidByText := true, laidKinds := [.data], laidTests := true, laidLooks := .later }
def CapsBitsUptoCardSaid : Prop := Claim7.holds Tryd.pinned (.plain (OpenSpec.upto capsBitsSpec)) capsBitsUptoCard

/-- THE SECOND FORM's CARD OF 'nightjarlaw05.CapsRights'. -/
def capsRightsUptoCard : Claim7 := { stood := { row := capsRightsUptoRow, standIns := [], harness := (true, "136158592a3455d0207f4acdf808e772d5b76935aded307869ed4b3a50bb3b13"), looks := false }, kinds := [], alts := [], laidByText := true, laidKinds := [.data], laidTests := true, laidLooks := .later }
def CapsRightsUptoCardSaid : Prop := Claim7.holds Tryd.pinned (.plain (OpenSpec.upto capsRightsSpec)) capsRightsUptoCard

/-- THE SECOND FORM's CARD OF 'nightjarlaw05.CapsRetires'. -/
def capsRetiresUptoCard : Claim7 := { stood := { row := capsRetiresUptoRow, standIns := [], harness := (true, "136158592a3455d0207f4acdf808e772d5b76935aded307869ed4b3a50bb3b13"), looks := false }, kinds := [], alts := [], laidByText := true, laidKinds := [.data], laidTests := true, laidLooks := .later }
def CapsRetiresUptoCardSaid : Prop := Claim7.holds Tryd.pinned (.plain (OpenSpec.upto capsRetiresSpec)) capsRetiresUptoCard

/-- THE SECOND FORM's CARD OF 'nightjarlaw05.CapsApart'. -/
def capsApartUptoCard : Claim7 := { stood := { row := capsApartUptoRow, standIns := [], harness := (true, "136158592a3455d0207f4acdf808e772d5b76935aded307869ed4b3a50bb3b13"), looks := false }, kinds := [], alts := [], laidByText := true, laidKinds := [.data], laidTests := true, laidLooks := .later }
def CapsApartUptoCardSaid : Prop := Claim7.holds Tryd.pinned (.plain (OpenSpec.upto capsApartSpec)) capsApartUptoCard

/-- THE SECOND FORM's CARD OF 'nightjarlaw05.CapsPlays'. -/
def capsPlaysUptoCard : Claim7 := { stood := { row := capsPlaysUptoRow, standIns := [], harness := (true, "136158592a3455d0207f4acdf808e772d5b76935aded307869ed4b3a50bb3b13"), looks := false }, kinds := [], alts := [], laidByText := true, laidKinds := [.data], laidTests := true, laidLooks := .later }
def CapsPlaysUptoCardSaid : Prop := Claim7.holds Tryd.pinned (.plain (OpenSpec.upto capsPlaysSpec)) capsPlaysUptoCard
end Rows
end Go.Proofs.YtaflekpfpdnbcaaDoor
