/-
  DERIVED. GIVEN WITH THE SEED: THE CARDS: each row of YtbdaaoohblcfhaaDoorRows.lean that lists a variable, with what it lists TIED to the program's text (the seventh form; the later family's looks); each row that meets fmt, with fmt's text TOLD by the authors' own Lean function (tested against real Go, not proved from fmt's source: count such statements apart). THE CARD IS WHAT COUNTS. Prove the row's statement (the work); the ties are given (YtbdaaoohblcfhaaDoorTie.lean); close each card by the builder's one call (the guide's Derived/Test/ToyasCard.lean, 'card_holds'). Laid BY PROGRAM, IN A SANDBOX (cutbox-door.mjs). By AI agents, Wed Nov 11 2026. No macro, syntax, notation, axiom, sorry.
-/
import Derived.Test.YtbdaaoohblcfhaaDoorRows
import GoSem.ClaimSeven
namespace Go.Proofs.YtbdaaoohblcfhaaDoor
namespace Rows

/-- THE TIED CARD OF 'veilstonelaw04.PrinterInjective'. -/
def printerInjectiveCard : Claim7 := { stood := { row := printerInjectiveRow, standIns := [], harness := (true, "7b19171f512844d49c5ac6119be4c9495f1056c8ddad11252c55c8762a4d7b40"), looks := false }, kinds := [], alts := [], laidByText := true, laidKinds := [.data, .data, .data, .data, .data], laidTests := true, laidLooks := .later }
def PrinterInjectiveCardSaid : Prop := Claim7.holds Tryd.pinned (.plain (OpenSpec.ofChange printerInjectiveSpec)) printerInjectiveCard

/-- THE TIED CARD OF 'veilstonelaw04.PrinterTokens'. -/
def printerTokensCard : Claim7 := { stood := { row := printerTokensRow, standIns := [], harness := (true, "7b19171f512844d49c5ac6119be4c9495f1056c8ddad11252c55c8762a4d7b40"), looks := false }, kinds := [], alts := [], laidByText := true, laidKinds := [.data, .data, .data, .data, .data], laidTests := true, laidLooks := .later }
def PrinterTokensCardSaid : Prop := Claim7.holds Tryd.pinned (.plain (OpenSpec.ofChange printerTokensSpec)) printerTokensCard

/-- THE SECOND FORM's CARD OF 'veilstonelaw04.PrinterInjective'. -/
def printerInjectiveUptoCard : Claim7 := { stood := { row := printerInjectiveUptoRow, standIns := [], harness := (true, "7b19171f512844d49c5ac6119be4c9495f1056c8ddad11252c55c8762a4d7b40"), looks := false }, kinds := [], alts := [], laidByText := true, laidKinds := [.data, .data, .data, .data, .data], laidTests := true, laidLooks := .later }
def PrinterInjectiveUptoCardSaid : Prop := Claim7.holds Tryd.pinned (.plain (OpenSpec.upto printerInjectiveSpec)) printerInjectiveUptoCard

/-- THE SECOND FORM's CARD OF 'veilstonelaw04.PrinterTokens'. -/
def printerTokensUptoCard : Claim7 := { stood := { row := printerTokensUptoRow, standIns := [], harness := (true, "7b19171f512844d49c5ac6119be4c9495f1056c8ddad11252c55c8762a4d7b40"), looks := false }, kinds := [], alts := [], laidByText := true, laidKinds := [.data, .data, .data, .data, .data], laidTests := true, laidLooks := .later }
def PrinterTokensUptoCardSaid : Prop := Claim7.holds Tryd.pinned (.plain (OpenSpec.upto printerTokensSpec)) printerTokensUptoCard
end Rows
end Go.Proofs.YtbdaaoohblcfhaaDoor
