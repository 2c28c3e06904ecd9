/-
  DERIVED. GIVEN WITH THE SEED: THE CARDS: each row of YtomjajnlomdhpaaGreatDoorRows.lean that lists a variable, with what it lists TIED to the program's text (the seventh form; the later family's looks); each row that meets fmt, with fmt's text TOLD by the authors' own Lean function (tested against real Go, not proved from fmt's source: count such statements apart). THE CARD IS WHAT COUNTS. Prove the row's statement (the work); the ties are given (YtomjajnlomdhpaaGreatDoorTie.lean); close each card by the builder's one call (the guide's Derived/Test/ToyasCard.lean, 'card_holds'). Laid BY PROGRAM, IN A SANDBOX (cutbox-door.mjs). By AI agents, Wed Nov 11 2026. No macro, syntax, notation, axiom, sorry.
-/
import Derived.Test.YtomjajnlomdhpaaGreatDoorRows
import GoSem.ClaimSeven
namespace Go.Proofs.YtomjajnlomdhpaaGreatDoor
namespace Rows

/-- THE TIED CARD OF 'veilstonelaw04.PrinterDistinct'. -/
def printerDistinctCard : Claim7 := { stood := { row := printerDistinctRow, standIns := [], harness := (true, "4c0c7eda20d0b85fb873c3be2dd31509fa46b668f0501101bc4c7f68c66a8f0c"), looks := false }, kinds := [], alts := [], laidByText := true, laidKinds := [.data, .data, .data, .data, .data], laidTests := true, laidLooks := .later }
def PrinterDistinctCardSaid : Prop := Claim7.holds Tryz.pinned (.plain (OpenSpec.ofChange printerDistinctSpec)) printerDistinctCard

/-- THE TIED CARD OF 'veilstonelaw06.RolesChecks'. -/
def rolesChecksCard : Claim7 := { stood := { row := rolesChecksRow, standIns := [], harness := (true, "4c0c7eda20d0b85fb873c3be2dd31509fa46b668f0501101bc4c7f68c66a8f0c"), looks := false }, kinds := [], alts := [], laidByText := true, laidKinds := [.data, .data], laidTests := true, laidLooks := .later }
def RolesChecksCardSaid : Prop := Claim7.holds Tryz.pinned (.plain (OpenSpec.ofChange rolesChecksSpec)) rolesChecksCard

/-- THE TIED CARD OF 'veilstonelaw06.RolesAbove'. -/
def rolesAboveCard : Claim7 := { stood := { row := rolesAboveRow, standIns := [], harness := (true, "4c0c7eda20d0b85fb873c3be2dd31509fa46b668f0501101bc4c7f68c66a8f0c"), looks := false }, kinds := [], alts := [], laidByText := true, laidKinds := [.data, .data], laidTests := true, laidLooks := .later }
def RolesAboveCardSaid : Prop := Claim7.holds Tryz.pinned (.plain (OpenSpec.ofChange rolesAboveSpec)) rolesAboveCard

/-- THE TIED CARD OF 'veilstonelaw06.RolesWords'. -/
def rolesWordsCard : Claim7 := { stood := { row := rolesWordsRow, standIns := [], harness := (true, "4c0c7eda20d0b85fb873c3be2dd31509fa46b668f0501101bc4c7f68c66a8f0c"), looks := false }, kinds := [], alts := [], laidByText := true, laidKinds := [.data, .data], laidTests := true, laidLooks := .later }
def RolesWordsCardSaid : Prop := Claim7.holds Tryz.pinned (.plain (OpenSpec.ofChange rolesWordsSpec)) rolesWordsCard

/-- THE SECOND FORM's CARD OF 'veilstonelaw04.PrinterDistinct'. -/
def printerDistinctUptoCard : Claim7 := { stood := { row := printerDistinctUptoRow, standIns := [], harness := (true, "4c0c7eda20d0b85fb873c3be2dd31509fa46b668f0501101bc4c7f68c66a8f0c"), looks := false }, kinds := [], alts := [], laidByText := true, laidKinds := [.data, .data, .data, .data, .data], laidTests := true, laidLooks := .later }
def PrinterDistinctUptoCardSaid : Prop := Claim7.holds Tryz.pinned (.plain (OpenSpec.upto printerDistinctSpec)) printerDistinctUptoCard

/-- THE SECOND FORM's CARD OF 'veilstonelaw06.RolesChecks'. -/
def rolesChecksUptoCard : Claim7 := { stood := { row := rolesChecksUptoRow, standIns := [], harness := (true, "4c0c7eda20d0b85fb873c3be2dd31509fa46b668f0501101bc4c7f68c66a8f0c"), looks := false }, kinds := [], alts := [], laidByText := true, laidKinds := [.data, .data], laidTests := true, laidLooks := .later }
def RolesChecksUptoCardSaid : Prop := Claim7.holds Tryz.pinned (.plain (OpenSpec.upto rolesChecksSpec)) rolesChecksUptoCard

/-- THE SECOND FORM's CARD OF 'veilstonelaw06.RolesAbove'. -/
def rolesAboveUptoCard : Claim7 := { stood := { row := rolesAboveUptoRow, standIns := [], harness := (true, "4c0c7eda20d0b85fb873c3be2dd31509fa46b668f0501101bc4c7f68c66a8f0c"), looks := false }, kinds := [], alts := [], laidByText := true, laidKinds := [.data, .data], laidTests := true, laidLooks := .later }
def RolesAboveUptoCardSaid : Prop := Claim7.holds Tryz.pinned (.plain (OpenSpec.upto rolesAboveSpec)) rolesAboveUptoCard

/-- THE SECOND FORM's CARD OF 'veilstonelaw06.RolesWords'. -/
def rolesWordsUptoCard : Claim7 := { stood := { row := rolesWordsUptoRow, standIns := [], harness := (true, "4c0c7eda20d0b85fb873c3be2dd31509fa46b668f0501101bc4c7f68c66a8f0c"), looks := false }, kinds := [], alts := [], laidByText := true, laidKinds := [.data, .data], laidTests := true, laidLooks := .later }
def RolesWordsUptoCardSaid : Prop := Claim7.holds Tryz.pinned (.plain (OpenSpec.upto rolesWordsSpec)) rolesWordsUptoCard
end Rows
end Go.Proofs.YtomjajnlomdhpaaGreatDoor
