/-
  DERIVED. GIVEN WITH THE SEED: THE CARDS: each row of YtpnlnnfcaeednaaGreatDoorRows.lean that lists a variable, with what it lists TIED to the program's text (the seventh form; the later family's looks); each row that meets fmt, with fmt's text TOLD by the authors' own Lean function (tested against real Go, not proved from fmt's source: count such statements apart). THE CARD IS WHAT COUNTS. Prove the row's statement (the work); the ties are given (YtpnlnnfcaeednaaGreatDoorTie.lean); close each card by the builder's one call (the guide's Derived/Test/ToyasCard.lean, 'card_holds'). Laid BY PROGRAM, IN A SANDBOX (cutbox-door.mjs). By AI agents, Wed Nov 11 2026. No macro, syntax, notation, axiom, sorry.
-/
import Derived.Test.YtpnlnnfcaeednaaGreatDoorRows
import GoSem.ClaimSeven
namespace Go.Proofs.YtpnlnnfcaeednaaGreatDoor
namespace Rows

/-- THE TIED CARD OF 'veilstonelaw04.PrinterParses'. -/
def printerParsesCard : Claim7 := { stood := { row := printerParsesRow, standIns := [], harness := (true, "014598803326958ea702e270e13b1dd5f5c33eaf704793719f79c0353c4bfca2"), looks := true }, kinds := [], alts := [], laidByText := true, laidKinds := [.data, .data, .data, .sentinel, .sentinel, .data, .data], laidTests := true, laidLooks := .later }
def PrinterParsesCardSaid : Prop := Claim7.holds Tryz.pinned (.plain (OpenSpec.ofChange printerParsesSpec)) printerParsesCard

/-- THE TIED CARD OF 'veilstonelaw04.PrinterReads'. -/
def printerReadsCard : Claim7 := { stood := { row := printerReadsRow, standIns := [], harness := (true, "014598803326958ea702e270e13b1dd5f5c33eaf704793719f79c0353c4bfca2"), looks := true }, kinds := [], alts := [], laidByText := true, laidKinds := [.data, .data, .data, .sentinel, .sentinel, .data, .data], laidTests := true, laidLooks := .later }
def PrinterReadsCardSaid : Prop := Claim7.holds Tryz.pinned (.plain (OpenSpec.ofChange printerReadsSpec)) printerReadsCard

/-- THE TIED CARD OF 'veilstonelaw04.PrinterDocuments'. -/
def printerDocumentsCard : Claim7 := { stood := { row := printerDocumentsRow, standIns := [], harness := (true, "014598803326958ea702e270e13b1dd5f5c33eaf704793719f79c0353c4bfca2"), looks := true }, kinds := [], alts := [], laidByText := true, laidKinds := [.data, .data, .data, .sentinel, .sentinel, .data, .data], laidTests := true, laidLooks := .later }
def PrinterDocumentsCardSaid : Prop := Claim7.holds Tryz.pinned (.plain (OpenSpec.ofChange printerDocumentsSpec)) printerDocumentsCard

/-- THE TIED CARD OF 'veilstonelaw03.SyntaxConcatenates'. -/
def syntaxConcatenatesCard : Claim7 := { stood := { row := syntaxConcatenatesRow, standIns := [], harness := (true, "014598803326958ea702e270e13b1dd5f5c33eaf704793719f79c0353c4bfca2"), looks := true }, kinds := [], alts := [], laidByText := true, laidKinds := [.data, .data, .data, .sentinel, .sentinel, .data, .data], laidTests := true, laidLooks := .later }
def SyntaxConcatenatesCardSaid : Prop := Claim7.holds Tryz.pinned (.plain (OpenSpec.ofChange syntaxConcatenatesSpec)) syntaxConcatenatesCard

/-- THE TIED CARD OF 'veilstonelaw03.SyntaxConjunction'. -/
def syntaxConjunctionCard : Claim7 := { stood := { row := syntaxConjunctionRow, standIns := [], harness := (true, "014598803326958ea702e270e13b1dd5f5c33eaf704793719f79c0353c4bfca2"), looks := true }, kinds := [], alts := [], laidByText := true, laidKinds := [.data, .data, .data, .sentinel, .sentinel, .data, .data], laidTests := true, laidLooks := .later }
def SyntaxConjunctionCardSaid : Prop := Claim7.holds Tryz.pinned (.plain (OpenSpec.ofChange syntaxConjunctionSpec)) syntaxConjunctionCard

/-- THE TIED CARD OF 'veilstonelaw03.SyntaxSpacing'. -/
def syntaxSpacingCard : Claim7 := { stood := { row := syntaxSpacingRow, standIns := [], harness := (true, "014598803326958ea702e270e13b1dd5f5c33eaf704793719f79c0353c4bfca2"), looks := true }, kinds := [], alts := [], laidByText := true, laidKinds := [.data, .data, .data, .sentinel, .sentinel, .data, .data], laidTests := true, laidLooks := .later }
def SyntaxSpacingCardSaid : Prop := Claim7.holds Tryz.pinned (.plain (OpenSpec.ofChange syntaxSpacingSpec)) syntaxSpacingCard

/-- THE TIED CARD OF 'veilstonelaw03.SyntaxTidies'. -/
def syntaxTidiesCard : Claim7 := { stood := { row := syntaxTidiesRow, standIns := [], harness := (true, "014598803326958ea702e270e13b1dd5f5c33eaf704793719f79c0353c4bfca2"), looks := true }, kinds := [], alts := [], laidByText := true, laidKinds := [.data, .data, .data, .sentinel, .sentinel, .data, .data], laidTests := true, laidLooks := .later }
def SyntaxTidiesCardSaid : Prop := Claim7.holds Tryz.pinned (.plain (OpenSpec.ofChange syntaxTidiesSpec)) syntaxTidiesCard

/-- THE TIED CARD OF 'veilstonelaw03.SyntaxAxiomDocument'. -/
def syntaxAxiomDocumentCard : Claim7 := { stood := { row := syntaxAxiomDocumentRow, standIns := [], harness := (true, "014598803326958ea702e270e13b1dd5f5c33eaf704793719f79c0353c4bfca2"), looks := true }, kinds := [], alts := [], laidByText := true, laidKinds := [.data, .data, .data, .sentinel, .sentinel, .data, .data], laidTests := true, laidLooks := .later }
def SyntaxAxiomDocumentCardSaid : Prop := Claim7.holds Tryz.pinned (.plain (OpenSpec.ofChange syntaxAxiomDocumentSpec)) syntaxAxiomDocumentCard

/-- THE SECOND FORM's CARD OF 'veilstonelaw04.PrinterParses'. -/
def printerParsesUptoCard : Claim7 := { stood := { row := printerParsesUptoRow, standIns := [], harness := (true, "014598803326958ea702e270e13b1dd5f5c33eaf704793719f79c0353c4bfca2"), looks := true }, kinds := [], alts := [], laidByText := true, laidKinds := [.data, .data, .data, .sentinel, .sentinel, .data, .data], laidTests := true, laidLooks := .later }
def PrinterParsesUptoCardSaid : Prop := Claim7.holds Tryz.pinned (.plain (OpenSpec.upto printerParsesSpec)) printerParsesUptoCard

/-- THE SECOND FORM's CARD OF 'veilstonelaw04.PrinterReads'. -/
def printerReadsUptoCard : Claim7 := { stood := { row := printerReadsUptoRow, standIns := [], harness := (true, "014598803326958ea702e270e13b1dd5f5c33eaf704793719f79c0353c4bfca2"), looks := true }, kinds := [], alts := [], laidByText := true, laidKinds := [.data, .data, .data, .sentinel, .sentinel, .data, .data], laidTests := true, laidLooks := .later }
def PrinterReadsUptoCardSaid : Prop := Claim7.holds Tryz.pinned (.plain (OpenSpec.upto printerReadsSpec)) printerReadsUptoCard

/-- THE SECOND FORM's CARD OF 'veilstonelaw04.PrinterDocuments'. -/
def printerDocumentsUptoCard : Claim7 := { stood := { row := printerDocumentsUptoRow, standIns := [], harness := (true, "014598803326958ea702e270e13b1dd5f5c33eaf704793719f79c0353c4bfca2"), looks := true }, kinds := [], alts := [], laidByText := true, laidKinds := [.data, .data, .data, .sentinel, .sentinel, .data, .data], laidTests := true, laidLooks := .later }
def PrinterDocumentsUptoCardSaid : Prop := Claim7.holds Tryz.pinned (.plain (OpenSpec.upto printerDocumentsSpec)) printerDocumentsUptoCard

/-- THE SECOND FORM's CARD OF 'veilstonelaw03.SyntaxConcatenates'. -/
def syntaxConcatenatesUptoCard : Claim7 := { stood := { row := syntaxConcatenatesUptoRow, standIns := [], harness := (true, "014598803326958ea702e270e13b1dd5f5c33eaf704793719f79c0353c4bfca2"), looks := true }, kinds := [], alts := [], laidByText := true, laidKinds := [.data, .data, .data, .sentinel, .sentinel, .data, .data], laidTests := true, laidLooks := .later }
def SyntaxConcatenatesUptoCardSaid : Prop := Claim7.holds Tryz.pinned (.plain (OpenSpec.upto syntaxConcatenatesSpec)) syntaxConcatenatesUptoCard

/-- THE SECOND FORM's CARD OF 'veilstonelaw03.SyntaxConjunction'. -/
def syntaxConjunctionUptoCard : Claim7 := { stood := { row := syntaxConjunctionUptoRow, standIns := [], harness := (true, "014598803326958ea702e270e13b1dd5f5c33eaf704793719f79c0353c4bfca2"), looks := true }, kinds := [], alts := [], laidByText := true, laidKinds := [.data, .data, .data, .sentinel, .sentinel, .data, .data], laidTests := true, laidLooks := .later }
def SyntaxConjunctionUptoCardSaid : Prop := Claim7.holds Tryz.pinned (.plain (OpenSpec.upto syntaxConjunctionSpec)) syntaxConjunctionUptoCard

/-- THE SECOND FORM's CARD OF 'veilstonelaw03.SyntaxSpacing'. -/
def syntaxSpacingUptoCard : Claim7 := { stood := { row := syntaxSpacingUptoRow, standIns := [], harness := (true, "014598803326958ea702e270e13b1dd5f5c33eaf704793719f79c0353c4bfca2"), looks := true }, kinds := [], alts := [], laidByText := true, laidKinds := [.data, .data, .data, .sentinel, .sentinel, .data, .data], laidTests := true, laidLooks := .later }
def SyntaxSpacingUptoCardSaid : Prop := Claim7.holds Tryz.pinned (.plain (OpenSpec.upto syntaxSpacingSpec)) syntaxSpacingUptoCard

/-- THE SECOND FORM's CARD OF 'veilstonelaw03.SyntaxTidies'. -/
def syntaxTidiesUptoCard : Claim7 := { stood := { row := syntaxTidiesUptoRow, standIns := [], harness := (true, "014598803326958ea702e270e13b1dd5f5c33eaf704793719f79c0353c4bfca2"), looks := true }, kinds := [], alts := [], laidByText := true, laidKinds := [.data, .data, .data, .sentinel, .sentinel, .data, .data], laidTests := true, laidLooks := .later }
def SyntaxTidiesUptoCardSaid : Prop := Claim7.holds Tryz.pinned (.plain (OpenSpec.upto syntaxTidiesSpec)) syntaxTidiesUptoCard

/-- THE SECOND FORM's CARD OF 'veilstonelaw03.SyntaxAxiomDocument'. -/
def syntaxAxiomDocumentUptoCard : Claim7 := { stood := { row := syntaxAxiomDocumentUptoRow, standIns := [], harness := (true, "014598803326958ea702e270e13b1dd5f5c33eaf704793719f79c0353c4bfca2"), looks := true }, kinds := [], alts := [], laidByText := true, laidKinds := [.data, .data, .data, .sentinel, .sentinel, .data, .data], laidTests := true, laidLooks := .later }
def SyntaxAxiomDocumentUptoCardSaid : Prop := Claim7.holds Tryz.pinned (.plain (OpenSpec.upto syntaxAxiomDocumentSpec)) syntaxAxiomDocumentUptoCard
end Rows
end Go.Proofs.YtpnlnnfcaeednaaGreatDoor
