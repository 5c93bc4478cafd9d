/-
  DERIVED. GIVEN WITH THE SEED: THE CARDS: each row of YtkogkimncoaboaaDoorRows.lean that lists a variable, with what it lists TIED to the program's text (the seventh form; the later family's looks); each row that meets fmt, with fmt's text TOLD by the authors' own Lean function (tested against real Go, not proved from fmt's source: count such statements apart). THE CARD IS WHAT COUNTS. Prove the row's statement (the work); the ties are given (YtkogkimncoaboaaDoorTie.lean); close each card by the builder's one call (the guide's Derived/Test/ToyasCard.lean, 'card_holds'). Laid BY PROGRAM, IN A SANDBOX (cutbox-door.mjs). By AI agents, Wed Nov 11 2026. No macro, syntax, notation, axiom, sorry.
-/
import Derived.Test.YtkogkimncoaboaaDoorRows
import GoSem.ClaimSeven
namespace Go.Proofs.YtkogkimncoaboaaDoor
namespace Rows

/-- THE TIED CARD OF 'nightjarlaw02.BitsPlays'. -/
def bitsPlaysCard : Claim7 := { stood := { row := bitsPlaysRow, standIns := [], harness := (true, "8728ff087aeba5b2c5fa649a921930e304c8d31c193ad61f1cc7e79ed0f38327"), looks := false }, kinds := [], alts := [], laidByText := true, laidKinds := [.data], laidTests := true, laidLooks := .later }
def BitsPlaysCardSaid : Prop := Claim7.holds Tryd.pinned (.plain (OpenSpec.ofChange bitsPlaysSpec)) bitsPlaysCard

/-- THE TIED CARD OF 'nightjarlaw02.BitsWalks'. -/
def bitsWalksCard : Claim7 := { stood := { row := bitsWalksRow, standIns := [], harness := (true, "8728ff087aeba5b2c5fa649a921930e304c8d31c193ad61f1cc7e79ed0f38327"), looks := false }, kinds := [], alts := [], laidByText := true, laidKinds := [.data], laidTests := true, laidLooks := .later }
def BitsWalksCardSaid : Prop := Claim7.holds Tryd.pinned (.plain (OpenSpec.ofChange bitsWalksSpec)) bitsWalksCard

/-- THE TIED CARD OF 'nightjarlaw02.BitsGaps'. -/
def bitsGapsCard : Claim7 := { stood := { row := bitsGapsRow, standIns := [], harness := (true, "8728ff087aeba5b2c5fa649a921930e304c8d31c193ad61f1cc7e79ed0f38327"), looks := false }, kinds := [], alts := [], laidByText := true, laidKinds := [.data], laidTests := true, laidLooks := .later }
def BitsGapsCardSaid : Prop := Claim7.holds Tryd.pinned (.plain (OpenSpec.ofChange bitsGapsSpec)) bitsGapsCard

/-- THE TIED CARD OF 'nightjarlaw02.BitsTurns'. -/
def bitsTurnsCard : Claim7 := { stood := { row := bitsTurnsRow, standIns := [], harness := (true, "8728ff087aeba5b2c5fa649a921930e304c8d31c193ad61f1cc7e79ed0f38327"), looks := false }, kinds := [], alts := [], laidByText := true, laidKinds := [.data], laidTests := true, laidLooks := .later }
def BitsTurnsCardSaid : Prop := Claim7.holds Tryd.pinned (.plain (OpenSpec.ofChange bitsTurnsSpec)) bitsTurnsCard

/-- THE TIED CARD OF 'nightjarlaw02.BitsApart'. -/
def bitsApartCard : Claim7 := { stood := { row := bitsApartRow, standIns := [], harness := (true, "8728ff087aeba5b2c5fa649a921930e304c8d31c193ad61f1cc7e79ed0f38327"), looks := false }, kinds := [], alts := [], laidByText := true, laidKinds := [.data], laidTests := true, laidLooks := .later }
def BitsApartCardSaid : Prop := Claim7.holds Tryd.pinned (.plain (OpenSpec.ofChange bitsApartSpec)) bitsApartCard

/-- THE SECOND FORM's CARD OF 'nightjarlaw02.BitsPlays'. -/
def bitsPlaysUptoCard : Claim7 := { stood := { row := bitsPlaysUptoRow, standIns := [], harness := (true, "8728ff087aeba5b2c5fa649a921930e304c8d31c193ad61f1cc7e79ed0f38327"), looks := false }, kinds := [], alts := [], laidByText := true, laidKinds := [.data], laidTests := true, laidLooks := .later }
def BitsPlaysUptoCardSaid : Prop := Claim7.holds Tryd.pinned (.plain (OpenSpec.upto bitsPlaysSpec)) bitsPlaysUptoCard

/-- THE SECOND FORM's CARD OF 'nightjarlaw02.BitsWalks'. -/
def bitsWalksUptoCard : Claim7 := { stood := { row := bitsWalksUptoRow, standIns := [], harness := (true, "8728ff087aeba5b2c5fa649a921930e304c8d31c193ad61f1cc7e79ed0f38327"), looks := false }, kinds := [], alts := [], laidByText := true, laidKinds := [.data], laidTests := true, laidLooks := .later }
def BitsWalksUptoCardSaid : Prop := Claim7.holds Tryd.pinned (.plain (OpenSpec.upto bitsWalksSpec)) bitsWalksUptoCard

/-- THE SECOND FORM's CARD OF 'nightjarlaw02.BitsGaps'. -/
def bitsGapsUptoCard : Claim7 := { stood := { row := bitsGapsUptoRow, standIns := [], harness := (true, "8728ff087aeba5b2c5fa649a921930e304c8d31c193ad61f1cc7e79ed0f38327"), looks := false }, kinds := [], alts := [], laidByText := true, laidKinds := [.data], laidTests := true, laidLooks := .later }
def BitsGapsUptoCardSaid : Prop := Claim7.holds Tryd.pinned (.plain (OpenSpec.upto bitsGapsSpec)) bitsGapsUptoCard

/-- THE SECOND FORM's CARD OF 'nightjarlaw02.BitsTurns'. -/
def bitsTurnsUptoCard : Claim7 := { stood := { row := bitsTurnsUptoRow, standIns := [], harness := (true, "8728ff087aeba5b2c5fa649a921930e304c8d31c193ad61f1cc7e79ed0f38327"), looks := false }, kinds := [], alts := [], laidByText := true, laidKinds := [.data], laidTests := true, laidLooks := .later }
def BitsTurnsUptoCardSaid : Prop := Claim7.holds Tryd.pinned (.plain (OpenSpec.upto bitsTurnsSpec)) bitsTurnsUptoCard

/-- THE SECOND FORM's CARD OF 'nightjarlaw02.BitsApart'. -/
def bitsApartUptoCard : Claim7 := { stood := { row := bitsApartUptoRow, standIns := [], harness := (true, "8728ff087aeba5b2c5fa649a921930e304c8d31c193ad61f1cc7e79ed0f38327"), looks := false }, kinds := [], alts := [], laidByText := true, laidKinds := [.data], laidTests := true, laidLooks := .later }
def BitsApartUptoCardSaid : Prop := Claim7.holds Tryd.pinned (.plain (OpenSpec.upto bitsApartSpec)) bitsApartUptoCard
end Rows
end Go.Proofs.YtkogkimncoaboaaDoor
