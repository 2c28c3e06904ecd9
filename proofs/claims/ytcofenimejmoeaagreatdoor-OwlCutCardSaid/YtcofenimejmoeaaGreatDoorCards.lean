/-
  DERIVED. GIVEN WITH THE SEED: THE CARDS: each row of YtcofenimejmoeaaGreatDoorRows.lean that lists a variable, with what it lists TIED to the program's text (the seventh form; the later family's looks); each row that meets fmt, with fmt's text TOLD by the authors' own Lean function (tested against real Go, not proved from fmt's source: count such statements apart). THE CARD IS WHAT COUNTS. Prove the row's statement (the work); the ties are given (YtcofenimejmoeaaGreatDoorTie.lean); close each card by the builder's one call (the guide's Derived/Test/ToyasCard.lean, 'card_holds'). Laid BY PROGRAM, IN A SANDBOX (cutbox-door.mjs). By AI agents, Wed Nov 11 2026. No macro, syntax, notation, axiom, sorry.
-/
import Derived.Test.YtcofenimejmoeaaGreatDoorRows
import GoSem.ClaimSeven
namespace Go.Proofs.YtcofenimejmoeaaGreatDoor
namespace Rows

/-- THE TIED CARD OF 'veilstonelaw05.OwlWriteSpec'. -/
def owlWriteSpecCard : Claim7 := { stood := { row := owlWriteSpecRow, standIns := [], harness := (true, "e8889cedc909144f00d3863df34d1e06f9f959bece1799e70e42b71e01419930"), looks := true }, kinds := [], alts := [], laidByText := true, laidKinds := [.data, .data, .data, .sentinel, .sentinel, .data, .data], laidTests := true, laidLooks := .later }
def OwlWriteSpecCardSaid : Prop := Claim7.holds Tryz.pinned (.plain (OpenSpec.ofChange owlWriteSpecSpec)) owlWriteSpecCard

/-- THE TIED CARD OF 'veilstonelaw05.OwlRoundTrip'. -/
def owlRoundTripCard : Claim7 := { stood := { row := owlRoundTripRow, standIns := [], harness := (true, "e8889cedc909144f00d3863df34d1e06f9f959bece1799e70e42b71e01419930"), looks := true }, kinds := [], alts := [], laidByText := true, laidKinds := [.data, .data, .data, .sentinel, .sentinel, .data, .data], laidTests := true, laidLooks := .later }
def OwlRoundTripCardSaid : Prop := Claim7.holds Tryz.pinned (.plain (OpenSpec.ofChange owlRoundTripSpec)) owlRoundTripCard

/-- THE TIED CARD OF 'veilstonelaw05.OwlReadsValid'. -/
def owlReadsValidCard : Claim7 := { stood := { row := owlReadsValidRow, standIns := [], harness := (true, "e8889cedc909144f00d3863df34d1e06f9f959bece1799e70e42b71e01419930"), looks := true }, kinds := [], alts := [], laidByText := true, laidKinds := [.data, .data, .data, .sentinel, .sentinel, .data, .data], laidTests := true, laidLooks := .later }
def OwlReadsValidCardSaid : Prop := Claim7.holds Tryz.pinned (.plain (OpenSpec.ofChange owlReadsValidSpec)) owlReadsValidCard

/-- THE TIED CARD OF 'veilstonelaw05.OwlCut'. -/
def owlCutCard : Claim7 := { stood := { row := owlCutRow, standIns := [], harness := (true, "e8889cedc909144f00d3863df34d1e06f9f959bece1799e70e42b71e01419930"), looks := true }, kinds := [], alts := [], laidByText := true, laidKinds := [.data, .data, .data, .sentinel, .sentinel, .data, .data], laidTests := true, laidLooks := .later }
def OwlCutCardSaid : Prop := Claim7.holds Tryz.pinned (.plain (OpenSpec.ofChange owlCutSpec)) owlCutCard

/-- THE TIED CARD OF 'veilstonelaw05.OwlBlanks'. -/
def owlBlanksCard : Claim7 := { stood := { row := owlBlanksRow, standIns := [], harness := (true, "e8889cedc909144f00d3863df34d1e06f9f959bece1799e70e42b71e01419930"), looks := true }, kinds := [], alts := [], laidByText := true, laidKinds := [.data, .data, .data, .sentinel, .sentinel, .data, .data], laidTests := true, laidLooks := .later }
def OwlBlanksCardSaid : Prop := Claim7.holds Tryz.pinned (.plain (OpenSpec.ofChange owlBlanksSpec)) owlBlanksCard

/-- THE TIED CARD OF 'veilstonelaw05.OwlLists'. -/
def owlListsCard : Claim7 := { stood := { row := owlListsRow, standIns := [], harness := (true, "e8889cedc909144f00d3863df34d1e06f9f959bece1799e70e42b71e01419930"), looks := true }, kinds := [], alts := [], laidByText := true, laidKinds := [.data, .data, .data, .sentinel, .sentinel, .data, .data], laidTests := true, laidLooks := .later }
def OwlListsCardSaid : Prop := Claim7.holds Tryz.pinned (.plain (OpenSpec.ofChange owlListsSpec)) owlListsCard

/-- THE SECOND FORM's CARD OF 'veilstonelaw05.OwlWriteSpec'. -/
def owlWriteSpecUptoCard : Claim7 := { stood := { row := owlWriteSpecUptoRow, standIns := [], harness := (true, "e8889cedc909144f00d3863df34d1e06f9f959bece1799e70e42b71e01419930"), looks := true }, kinds := [], alts := [], laidByText := true, laidKinds := [.data, .data, .data, .sentinel, .sentinel, .data, .data], laidTests := true, laidLooks := .later }
def OwlWriteSpecUptoCardSaid : Prop := Claim7.holds Tryz.pinned (.plain (OpenSpec.upto owlWriteSpecSpec)) owlWriteSpecUptoCard

/-- THE SECOND FORM's CARD OF 'veilstonelaw05.OwlRoundTrip'. -/
def owlRoundTripUptoCard : Claim7 := { stood := { row := owlRoundTripUptoRow, standIns := [], harness := (true, "e8889cedc909144f00d3863df34d1e06f9f959bece1799e70e42b71e01419930"), looks := true }, kinds := [], alts := [], laidByText := true, laidKinds := [.data, .data, .data, .sentinel, .sentinel, .data, .data], laidTests := true, laidLooks := .later }
def OwlRoundTripUptoCardSaid : Prop := Claim7.holds Tryz.pinned (.plain (OpenSpec.upto owlRoundTripSpec)) owlRoundTripUptoCard

/-- THE SECOND FORM's CARD OF 'veilstonelaw05.OwlReadsValid'. -/
def owlReadsValidUptoCard : Claim7 := { stood := { row := owlReadsValidUptoRow, standIns := [], harness := (true, "e8889cedc909144f00d3863df34d1e06f9f959bece1799e70e42b71e01419930"), looks := true }, kinds := [], alts := [], laidByText := true, laidKinds := [.data, .data, .data, .sentinel, .sentinel, .data, .data], laidTests := true, laidLooks := .later }
def OwlReadsValidUptoCardSaid : Prop := Claim7.holds Tryz.pinned (.plain (OpenSpec.upto owlReadsValidSpec)) owlReadsValidUptoCard

/-- THE SECOND FORM's CARD OF 'veilstonelaw05.OwlCut'. -/
def owlCutUptoCard : Claim7 := { stood := { row := owlCutUptoRow, standIns := [], harness := (true, "e8889cedc909144f00d3863df34d1e06f9f959bece1799e70e42b71e01419930"), looks := true }, kinds := [], alts := [], laidByText := true, laidKinds := [.data, .data, .data, .sentinel, .sentinel, .data, .data], laidTests := true, laidLooks := .later }
def OwlCutUptoCardSaid : Prop := Claim7.holds Tryz.pinned (.plain (OpenSpec.upto owlCutSpec)) owlCutUptoCard

/-- THE SECOND FORM's CARD OF 'veilstonelaw05.OwlBlanks'. -/
def owlBlanksUptoCard : Claim7 := { stood := { row := owlBlanksUptoRow, standIns := [], harness := (true, "e8889cedc909144f00d3863df34d1e06f9f959bece1799e70e42b71e01419930"), looks := true }, kinds := [], alts := [], laidByText := true, laidKinds := [.data, .data, .data, .sentinel, .sentinel, .data, .data], laidTests := true, laidLooks := .later }
def OwlBlanksUptoCardSaid : Prop := Claim7.holds Tryz.pinned (.plain (OpenSpec.upto owlBlanksSpec)) owlBlanksUptoCard

/-- THE SECOND FORM's CARD OF 'veilstonelaw05.OwlLists'. -/
def owlListsUptoCard : Claim7 := { stood := { row := owlListsUptoRow, standIns := [], harness := (true, "e8889cedc909144f00d3863df34d1e06f9f959bece1799e70e42b71e01419930"), looks := true }, kinds := [], alts := [], laidByText := true, laidKinds := [.data, .data, .data, .sentinel, .sentinel, .data, .data], laidTests := true, laidLooks := .later }
def OwlListsUptoCardSaid : Prop := Claim7.holds Tryz.pinned (.plain (OpenSpec.upto owlListsSpec)) owlListsUptoCard
end Rows
end Go.Proofs.YtcofenimejmoeaaGreatDoor
