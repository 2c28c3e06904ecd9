/-
  DERIVED. GIVEN WITH THE SEED: THE CARDS: each row of YtglcpbgdkaeenaaGreatDoorRows.lean that lists a variable, with what it lists TIED to the program's text (the seventh form; the later family's looks); each row that meets fmt, with fmt's text TOLD by the authors' own Lean function (tested against real Go, not proved from fmt's source: count such statements apart). THE CARD IS WHAT COUNTS. Prove the row's statement (the work); the ties are given (YtglcpbgdkaeenaaGreatDoorTie.lean); close each card by the builder's one call (the guide's Derived/Test/ToyasCard.lean, 'card_holds'). Laid BY PROGRAM, IN A SANDBOX (cutbox-door.mjs). By AI agents, Wed Nov 11 2026. No macro, syntax, notation, axiom, sorry.
-/
import Derived.Test.YtglcpbgdkaeenaaGreatDoorRows
import GoSem.ClaimSeven
namespace Go.Proofs.YtglcpbgdkaeenaaGreatDoor
namespace Rows

/-- THE TIED CARD OF 'veilstonelaw04.PrinterConcepts'. -/
def printerConceptsCard : Claim7 := { stood := { row := printerConceptsRow, standIns := [], harness := (true, "3cafc67f0594ae950a362c65d0319e6fcb7aad6abcc2fa95b9f9b96bf53b7f3f"), looks := true }, kinds := [], alts := [], laidByText := true, laidKinds := [.data, .data, .data, .data, .data], laidTests := true, laidLooks := .later }
def PrinterConceptsCardSaid : Prop := Claim7.holds Tryz.pinned (.plain (OpenSpec.ofChange printerConceptsSpec)) printerConceptsCard

/-- THE TIED CARD OF 'veilstonelaw04.PrinterAxioms'. -/
def printerAxiomsCard : Claim7 := { stood := { row := printerAxiomsRow, standIns := [], harness := (true, "3cafc67f0594ae950a362c65d0319e6fcb7aad6abcc2fa95b9f9b96bf53b7f3f"), looks := true }, kinds := [], alts := [], laidByText := true, laidKinds := [.data, .data, .data, .data, .data], laidTests := true, laidLooks := .later }
def PrinterAxiomsCardSaid : Prop := Claim7.holds Tryz.pinned (.plain (OpenSpec.ofChange printerAxiomsSpec)) printerAxiomsCard

/-- THE TIED CARD OF 'veilstonelaw04.PrinterDistinct'. -/
def printerDistinctCard : Claim7 := { stood := { row := printerDistinctRow, standIns := [], harness := (true, "3cafc67f0594ae950a362c65d0319e6fcb7aad6abcc2fa95b9f9b96bf53b7f3f"), looks := true }, kinds := [], alts := [], laidByText := true, laidKinds := [.data, .data, .data, .data, .data], laidTests := true, laidLooks := .later }
def PrinterDistinctCardSaid : Prop := Claim7.holds Tryz.pinned (.plain (OpenSpec.ofChange printerDistinctSpec)) printerDistinctCard

/-- THE TIED CARD OF 'veilstonelaw04.PrinterParses'. -/
def printerParsesCard : Claim7 := { stood := { row := printerParsesRow, standIns := [], harness := (true, "3cafc67f0594ae950a362c65d0319e6fcb7aad6abcc2fa95b9f9b96bf53b7f3f"), looks := true }, kinds := [], alts := [], laidByText := true, laidKinds := [.data, .data, .data, .sentinel, .sentinel, .data, .data], laidTests := true, laidLooks := .later }
def PrinterParsesCardSaid : Prop := Claim7.holds Tryz.pinned (.plain (OpenSpec.ofChange printerParsesSpec)) printerParsesCard

/-- THE TIED CARD OF 'veilstonelaw04.PrinterReads'. -/
def printerReadsCard : Claim7 := { stood := { row := printerReadsRow, standIns := [], harness := (true, "3cafc67f0594ae950a362c65d0319e6fcb7aad6abcc2fa95b9f9b96bf53b7f3f"), looks := true }, kinds := [], alts := [], laidByText := true, laidKinds := [.data, .data, .data, .sentinel, .sentinel, .data, .data], laidTests := true, laidLooks := .later }
def PrinterReadsCardSaid : Prop := Claim7.holds Tryz.pinned (.plain (OpenSpec.ofChange printerReadsSpec)) printerReadsCard

/-- THE TIED CARD OF 'veilstonelaw04.PrinterDocuments'. -/
def printerDocumentsCard : Claim7 := { stood := { row := printerDocumentsRow, standIns := [], harness := (true, "3cafc67f0594ae950a362c65d0319e6fcb7aad6abcc2fa95b9f9b96bf53b7f3f"), looks := true }, kinds := [], alts := [], laidByText := true, laidKinds := [.data, .data, .data, .sentinel, .sentinel, .data, .data], laidTests := true, laidLooks := .later }
def PrinterDocumentsCardSaid : Prop := Claim7.holds Tryz.pinned (.plain (OpenSpec.ofChange printerDocumentsSpec)) printerDocumentsCard

/-- THE TIED CARD OF 'veilstonelaw03.SyntaxConcatenates'. -/
def syntaxConcatenatesCard : Claim7 := { stood := { row := syntaxConcatenatesRow, standIns := [], harness := (true, "3cafc67f0594ae950a362c65d0319e6fcb7aad6abcc2fa95b9f9b96bf53b7f3f"), looks := true }, kinds := [], alts := [], laidByText := true, laidKinds := [.data, .data, .data, .sentinel, .sentinel, .data, .data], laidTests := true, laidLooks := .later }
def SyntaxConcatenatesCardSaid : Prop := Claim7.holds Tryz.pinned (.plain (OpenSpec.ofChange syntaxConcatenatesSpec)) syntaxConcatenatesCard

/-- THE TIED CARD OF 'veilstonelaw03.SyntaxConjunction'. -/
def syntaxConjunctionCard : Claim7 := { stood := { row := syntaxConjunctionRow, standIns := [], harness := (true, "3cafc67f0594ae950a362c65d0319e6fcb7aad6abcc2fa95b9f9b96bf53b7f3f"), looks := true }, kinds := [], alts := [], laidByText := true, laidKinds := [.data, .data, .data, .sentinel, .sentinel, .data, .data], laidTests := true, laidLooks := .later }
def SyntaxConjunctionCardSaid : Prop := Claim7.holds Tryz.pinned (.plain (OpenSpec.ofChange syntaxConjunctionSpec)) syntaxConjunctionCard

/-- THE TIED CARD OF 'veilstonelaw03.SyntaxSpacing'. -/
def syntaxSpacingCard : Claim7 := { stood := { row := syntaxSpacingRow, standIns := [], harness := (true, "3cafc67f0594ae950a362c65d0319e6fcb7aad6abcc2fa95b9f9b96bf53b7f3f"), looks := true }, kinds := [], alts := [], laidByText := true, laidKinds := [.data, .data, .data, .sentinel, .sentinel, .data, .data], laidTests := true, laidLooks := .later }
def SyntaxSpacingCardSaid : Prop := Claim7.holds Tryz.pinned (.plain (OpenSpec.ofChange syntaxSpacingSpec)) syntaxSpacingCard

/-- THE TIED CARD OF 'veilstonelaw03.SyntaxTidies'. -/
def syntaxTidiesCard : Claim7 := { stood := { row := syntaxTidiesRow, standIns := [], harness := (true, "3cafc67f0594ae950a362c65d0319e6fcb7aad6abcc2fa95b9f9b96bf53b7f3f"), looks := true }, kinds := [], alts := [], laidByText := true, laidKinds := [.data, .data, .data, .sentinel, .sentinel, .data, .data], laidTests := true, laidLooks := .later }
def SyntaxTidiesCardSaid : Prop := Claim7.holds Tryz.pinned (.plain (OpenSpec.ofChange syntaxTidiesSpec)) syntaxTidiesCard

/-- THE SECOND FORM's CARD OF 'veilstonelaw04.PrinterConcepts'. -/
def printerConceptsUptoCard : Claim7 := { stood := { row := printerConceptsUptoRow, standIns := [], harness := (true, "3cafc67f0594ae950a362c65d0319e6fcb7aad6abcc2fa95b9f9b96bf53b7f3f"), looks := true }, kinds := [], alts := [], laidByText := true, laidKinds := [.data, .data, .data, .data, .data], laidTests := true, laidLooks := .later }
def PrinterConceptsUptoCardSaid : Prop := Claim7.holds Tryz.pinned (.plain (OpenSpec.upto printerConceptsSpec)) printerConceptsUptoCard

/-- THE SECOND FORM's CARD OF 'veilstonelaw04.PrinterAxioms'. -/
def printerAxiomsUptoCard : Claim7 := { stood := { row := printerAxiomsUptoRow, standIns := [], harness := (true, "3cafc67f0594ae950a362c65d0319e6fcb7aad6abcc2fa95b9f9b96bf53b7f3f"), looks := true }, kinds := [], alts := [], laidByText := true, laidKinds := [.data, .data, .data, .data, .data], laidTests := true, laidLooks := .later }
def PrinterAxiomsUptoCardSaid : Prop := Claim7.holds Tryz.pinned (.plain (OpenSpec.upto printerAxiomsSpec)) printerAxiomsUptoCard

/-- THE SECOND FORM's CARD OF 'veilstonelaw04.PrinterDistinct'. -/
def printerDistinctUptoCard : Claim7 := { stood := { row := printerDistinctUptoRow, standIns := [], harness := (true, "3cafc67f0594ae950a362c65d0319e6fcb7aad6abcc2fa95b9f9b96bf53b7f3f"), looks := true }, kinds := [], alts := [], laidByText := true, laidKinds := [.data, .data, .data, .data, .data], laidTests := true, laidLooks := .later }
def PrinterDistinctUptoCardSaid : Prop := Claim7.holds Tryz.pinned (.plain (OpenSpec.upto printerDistinctSpec)) printerDistinctUptoCard

/-- THE SECOND FORM's CARD OF 'veilstonelaw04.PrinterParses'. -/
def printerParsesUptoCard : Claim7 := { stood := { row := printerParsesUptoRow, standIns := [], harness := (true, "3cafc67f0594ae950a362c65d0319e6fcb7aad6abcc2fa95b9f9b96bf53b7f3f"), looks := true }, kinds := [], alts := [], laidByText := true, laidKinds := [.data, .data, .data, .sentinel, .sentinel, .data, .data], laidTests := true, laidLooks := .later }
def PrinterParsesUptoCardSaid : Prop := Claim7.holds Tryz.pinned (.plain (OpenSpec.upto printerParsesSpec)) printerParsesUptoCard

/-- THE SECOND FORM's CARD OF 'veilstonelaw04.PrinterReads'. -/
def printerReadsUptoCard : Claim7 := { stood := { row := printerReadsUptoRow, standIns := [], harness := (true, "3cafc67f0594ae950a362c65d0319e6fcb7aad6abcc2fa95b9f9b96bf53b7f3f"), looks := true }, kinds := [], alts := [], laidByText := true, laidKinds := [.data, .data, .data, .sentinel, .sentinel, .data, .data], laidTests := true, laidLooks := .later }
def PrinterReadsUptoCardSaid : Prop := Claim7.holds Tryz.pinned (.plain (OpenSpec.upto printerReadsSpec)) printerReadsUptoCard

/-- THE SECOND FORM's CARD OF 'veilstonelaw04.PrinterDocuments'. -/
def printerDocumentsUptoCard : Claim7 := { stood := { row := printerDocumentsUptoRow, standIns := [], harness := (true, "3cafc67f0594ae950a362c65d0319e6fcb7aad6abcc2fa95b9f9b96bf53b7f3f"), looks := true }, kinds := [], alts := [], laidByText := true, laidKinds := [.data, .data, .data, .sentinel, .sentinel, .data, .data], laidTests := true, laidLooks := .later }
def PrinterDocumentsUptoCardSaid : Prop := Claim7.holds Tryz.pinned (.plain (OpenSpec.upto printerDocumentsSpec)) printerDocumentsUptoCard

/-- THE SECOND FORM's CARD OF 'veilstonelaw03.SyntaxConcatenates'. -/
def syntaxConcatenatesUptoCard : Claim7 := { stood := { row := syntaxConcatenatesUptoRow, standIns := [], harness := (true, "3cafc67f0594ae950a362c65d0319e6fcb7aad6abcc2fa95b9f9b96bf53b7f3f"), looks := true }, kinds := [], alts := [], laidByText := true, laidKinds := [.data, .data, .data, .sentinel, .sentinel, .data, .data], laidTests := true, laidLooks := .later }
def SyntaxConcatenatesUptoCardSaid : Prop := Claim7.holds Tryz.pinned (.plain (OpenSpec.upto syntaxConcatenatesSpec)) syntaxConcatenatesUptoCard

/-- THE SECOND FORM's CARD OF 'veilstonelaw03.SyntaxConjunction'. -/
def syntaxConjunctionUptoCard : Claim7 := { stood := { row := syntaxConjunctionUptoRow, standIns := [], harness := (true, "3cafc67f0594ae950a362c65d0319e6fcb7aad6abcc2fa95b9f9b96bf53b7f3f"), looks := true }, kinds := [], alts := [], laidByText := true, laidKinds := [.data, .data, .data, .sentinel, .sentinel, .data, .data], laidTests := true, laidLooks := .later }
def SyntaxConjunctionUptoCardSaid : Prop := Claim7.holds Tryz.pinned (.plain (OpenSpec.upto syntaxConjunctionSpec)) syntaxConjunctionUptoCard

/-- THE SECOND FORM's CARD OF 'veilstonelaw03.SyntaxSpacing'. -/
def syntaxSpacingUptoCard : Claim7 := { stood := { row := syntaxSpacingUptoRow, standIns := [], harness := (true, "3cafc67f0594ae950a362c65d0319e6fcb7aad6abcc2fa95b9f9b96bf53b7f3f"), looks := true }, kinds := [], alts := [], laidByText := true, laidKinds := [.data, .data, .data, .sentinel, .sentinel, .data, .data], laidTests := true, laidLooks := .later }
def SyntaxSpacingUptoCardSaid : Prop := Claim7.holds Tryz.pinned (.plain (OpenSpec.upto syntaxSpacingSpec)) syntaxSpacingUptoCard

/-- THE SECOND FORM's CARD OF 'veilstonelaw03.SyntaxTidies'. -/
def syntaxTidiesUptoCard : Claim7 := { stood := { row := syntaxTidiesUptoRow, standIns := [], harness := (true, "3cafc67f0594ae950a362c65d0319e6fcb7aad6abcc2fa95b9f9b96bf53b7f3f"), looks := true }, kinds := [], alts := [], laidByText := true, laidKinds := [.data, .data, .data, .sentinel, .sentinel, .data, .data], laidTests := true, laidLooks := .later }
def SyntaxTidiesUptoCardSaid : Prop := Claim7.holds Tryz.pinned (.plain (OpenSpec.upto syntaxTidiesSpec)) syntaxTidiesUptoCard
end Rows
end Go.Proofs.YtglcpbgdkaeenaaGreatDoor
