/-
  DERIVED. GIVEN WITH THE SEED: THE CARDS: each row of YtlkhpkdndmlnaaaDoorRows.lean that lists a variable, with what it lists TIED to the program's text (the seventh form; the later family's looks); each row that meets fmt, with fmt's text TOLD by the authors' own Lean function (tested against real Go, not proved from fmt's source: count such statements apart). THE CARD IS WHAT COUNTS. Prove the row's statement (the work); the ties are given (YtlkhpkdndmlnaaaDoorTie.lean); close each card by the builder's one call (the guide's Derived/Test/ToyasCard.lean, 'card_holds'). Laid BY PROGRAM, IN A SANDBOX (cutbox-door.mjs). By AI agents, Wed Nov 11 2026. No macro, syntax, notation, axiom, sorry.
-/
import Derived.Test.YtlkhpkdndmlnaaaDoorRows
import GoSem.ClaimSeven
namespace Go.Proofs.YtlkhpkdndmlnaaaDoor
namespace Rows

/-- THE TIED CARD OF 'nightjarlaw03.SlabFills'. -/
def slabFillsCard : Claim7 := { stood := { row := slabFillsRow, standIns := [], harness := (true, "71ecb51ee8817d12a93cc1ed429e796a5830f142e1de70c4c5a2e4d39f517ef7"), looks := false }, kinds := [], alts := [], laidByText := true, laidKinds := [.data], laidTests := true, laidLooks := .later }
def SlabFillsCardSaid : Prop := Claim7.holds Tryd.pinned (.plain (OpenSpec.ofChange slabFillsSpec)) slabFillsCard

/-- THE TIED CARD OF 'nightjarlaw03.SlabKinds'. -/
def slabKindsCard : Claim7 := { stood := { row := slabKindsRow, standIns := [], harness := (true, "71ecb51ee8817d12a93cc1ed429e796a5830f142e1de70c4c5a2e4d39f517ef7"), looks := false }, kinds := [], alts := [], laidByText := true, laidKinds := [.data], laidTests := true, laidLooks := .later }
def SlabKindsCardSaid : Prop := Claim7.holds Tryd.pinned (.plain (OpenSpec.ofChange slabKindsSpec)) slabKindsCard

/-- THE TIED CARD OF 'nightjarlaw03.SlabApart'. -/
def slabApartCard : Claim7 := { stood := { row := slabApartRow, standIns := [], harness := (true, "71ecb51ee8817d12a93cc1ed429e796a5830f142e1de70c4c5a2e4d39f517ef7"), looks := false }, kinds := [], alts := [], laidByText := true, laidKinds := [.data], laidTests := true, laidLooks := .later }
def SlabApartCardSaid : Prop := Claim7.holds Tryd.pinned (.plain (OpenSpec.ofChange slabApartSpec)) slabApartCard

/-- THE TIED CARD OF 'nightjarlaw03.SlabWalks'. -/
def slabWalksCard : Claim7 := { stood := { row := slabWalksRow, standIns := [], harness := (true, "71ecb51ee8817d12a93cc1ed429e796a5830f142e1de70c4c5a2e4d39f517ef7"), looks := false }, kinds := [], alts := [], laidByText := true, laidKinds := [.data], laidTests := true, laidLooks := .later }
def SlabWalksCardSaid : Prop := Claim7.holds Tryd.pinned (.plain (OpenSpec.ofChange slabWalksSpec)) slabWalksCard

/-- THE TIED CARD OF 'nightjarlaw03.SlabPlays'. -/
def slabPlaysCard : Claim7 := { stood := { row := slabPlaysRow, standIns := [], harness := (true, "71ecb51ee8817d12a93cc1ed429e796a5830f142e1de70c4c5a2e4d39f517ef7"), looks := false }, kinds := [], alts := [], laidByText := true, laidKinds := [.data], laidTests := true, laidLooks := .later }
def SlabPlaysCardSaid : Prop := Claim7.holds Tryd.pinned (.plain (OpenSpec.ofChange slabPlaysSpec)) slabPlaysCard

/-- THE SECOND FORM's CARD OF 'nightjarlaw03.SlabFills'. -/
def slabFillsUptoCard : Claim7 := { stood := { row := slabFillsUptoRow, standIns := [], harness := (true, "71ecb51ee8817d12a93cc1ed429e796a5830f142e1de70c4c5a2e4d39f517ef7"), looks := false }, kinds := [], alts := [], laidByText := true, laidKinds := [.data], laidTests := true, laidLooks := .later }
def SlabFillsUptoCardSaid : Prop := Claim7.holds Tryd.pinned (.plain (OpenSpec.upto slabFillsSpec)) slabFillsUptoCard

/-- THE SECOND FORM's CARD OF 'nightjarlaw03.SlabKinds'. -/
def slabKindsUptoCard : Claim7 := { stood := { row := slabKindsUptoRow, standIns := [], harness := (true, "71ecb51ee8817d12a93cc1ed429e796a5830f142e1de70c4c5a2e4d39f517ef7"), looks := false }, kinds := [], alts := [], laidByText := true, laidKinds := [.data], laidTests := true, laidLooks := .later }
def SlabKindsUptoCardSaid : Prop := Claim7.holds Tryd.pinned (.plain (OpenSpec.upto slabKindsSpec)) slabKindsUptoCard

/-- THE SECOND FORM's CARD OF 'nightjarlaw03.SlabApart'. -/
def slabApartUptoCard : Claim7 := { stood := { row := slabApartUptoRow, standIns := [], harness := (true, "71ecb51ee8817d12a93cc1ed429e796a5830f142e1de70c4c5a2e4d39f517ef7"), looks := false }, kinds := [], alts := [], laidByText := true, laidKinds := [.data], laidTests := true, laidLooks := .later }
def SlabApartUptoCardSaid : Prop := Claim7.holds Tryd.pinned (.plain (OpenSpec.upto slabApartSpec)) slabApartUptoCard

/-- THE SECOND FORM's CARD OF 'nightjarlaw03.SlabWalks'. -/
def slabWalksUptoCard : Claim7 := { stood := { row := slabWalksUptoRow, standIns := [], harness := (true, "71ecb51ee8817d12a93cc1ed429e796a5830f142e1de70c4c5a2e4d39f517ef7"), looks := false }, kinds := [], alts := [], laidByText := true, laidKinds := [.data], laidTests := true, laidLooks := .later }
def SlabWalksUptoCardSaid : Prop := Claim7.holds Tryd.pinned (.plain (OpenSpec.upto slabWalksSpec)) slabWalksUptoCard

/-- THE SECOND FORM's CARD OF 'nightjarlaw03.SlabPlays'. -/
def slabPlaysUptoCard : Claim7 := { stood := { row := slabPlaysUptoRow, standIns := [], harness := (true, "71ecb51ee8817d12a93cc1ed429e796a5830f142e1de70c4c5a2e4d39f517ef7"), looks := false }, kinds := [], alts := [], laidByText := true, laidKinds := [.data], laidTests := true, laidLooks := .later }
def SlabPlaysUptoCardSaid : Prop := Claim7.holds Tryd.pinned (.plain (OpenSpec.upto slabPlaysSpec)) slabPlaysUptoCard
end Rows
end Go.Proofs.YtlkhpkdndmlnaaaDoor
