/-
  DERIVED. GIVEN WITH THE SEED: THE CARDS: each row of YtomjajnlomdhpaaDoorRows.lean that lists a variable, with what it lists TIED to the program's text (the seventh form; the later family's looks); each row that meets fmt, with fmt's text TOLD by the authors' own Lean function (tested against real Go, not proved from fmt's source: count such statements apart). THE CARD IS WHAT COUNTS. Prove the row's statement (the work); the ties are given (YtomjajnlomdhpaaDoorTie.lean); close each card by the builder's one call (the guide's Derived/Test/ToyasCard.lean, 'card_holds'). Laid BY PROGRAM, IN A SANDBOX (cutbox-door.mjs). By AI agents, Wed Nov 11 2026. No macro, syntax, notation, axiom, sorry.
-/
import Derived.Test.YtomjajnlomdhpaaDoorRows
import GoSem.ClaimSeven
namespace Go.Proofs.YtomjajnlomdhpaaDoor
namespace Rows

/-- THE TIED CARD OF 'veilstonelaw04.PrinterTokens'. -/
def printerTokensCard : Claim7 := { stood := { row := printerTokensRow, standIns := [], harness := (true, "1ab6397fee7cbff7b007bd6b7143a292892b490009c6acd643f1dc5704bf391d"), looks := false }, kinds := [], alts := [], laidByText := true, laidKinds := [.data, .data, .data, .data, .data], laidTests := true, laidLooks := .later }
def PrinterTokensCardSaid : Prop := Claim7.holds Tryd.pinned (.plain (OpenSpec.ofChange printerTokensSpec)) printerTokensCard

/-- THE TIED CARD OF 'veilstonelaw06.RolesOrder'. -/
def rolesOrderCard : Claim7 := { stood := { row := rolesOrderRow, standIns := [], harness := (true, "1ab6397fee7cbff7b007bd6b7143a292892b490009c6acd643f1dc5704bf391d"), looks := false }, kinds := [], alts := [], laidByText := true, laidKinds := [.data, .data], laidTests := true, laidLooks := .later }
def RolesOrderCardSaid : Prop := Claim7.holds Tryd.pinned (.plain (OpenSpec.ofChange rolesOrderSpec)) rolesOrderCard

/-- THE TIED CARD OF 'veilstonelaw06.RolesInvariant'. -/
def rolesInvariantCard : Claim7 := { stood := { row := rolesInvariantRow, standIns := [], harness := (true, "1ab6397fee7cbff7b007bd6b7143a292892b490009c6acd643f1dc5704bf391d"), looks := false }, kinds := [], alts := [], laidByText := true, laidKinds := [.data, .data], laidTests := true, laidLooks := .later }
def RolesInvariantCardSaid : Prop := Claim7.holds Tryd.pinned (.plain (OpenSpec.ofChange rolesInvariantSpec)) rolesInvariantCard

/-- THE TIED CARD OF 'veilstonelaw06.RolesFewer'. -/
def rolesFewerCard : Claim7 := { stood := { row := rolesFewerRow, standIns := [], harness := (true, "1ab6397fee7cbff7b007bd6b7143a292892b490009c6acd643f1dc5704bf391d"), looks := false }, kinds := [], alts := [], laidByText := true, laidKinds := [.data, .data], laidTests := true, laidLooks := .later }
def RolesFewerCardSaid : Prop := Claim7.holds Tryd.pinned (.plain (OpenSpec.ofChange rolesFewerSpec)) rolesFewerCard

/-- THE TIED CARD OF 'veilstonelaw06.RolesCircle'. -/
def rolesCircleCard : Claim7 := { stood := { row := rolesCircleRow, standIns := [], harness := (true, "1ab6397fee7cbff7b007bd6b7143a292892b490009c6acd643f1dc5704bf391d"), looks := false }, kinds := [], alts := [], laidByText := true, laidKinds := [.data, .data], laidTests := true, laidLooks := .later }
def RolesCircleCardSaid : Prop := Claim7.holds Tryd.pinned (.plain (OpenSpec.ofChange rolesCircleSpec)) rolesCircleCard

/-- THE TIED CARD OF 'veilstonelaw06.RolesClosed'. -/
def rolesClosedCard : Claim7 := { stood := { row := rolesClosedRow, standIns := [], harness := (true, "1ab6397fee7cbff7b007bd6b7143a292892b490009c6acd643f1dc5704bf391d"), looks := false }, kinds := [], alts := [], laidByText := true, laidKinds := [.data, .data], laidTests := true, laidLooks := .later }
def RolesClosedCardSaid : Prop := Claim7.holds Tryd.pinned (.plain (OpenSpec.ofChange rolesClosedSpec)) rolesClosedCard

/-- THE SECOND FORM's CARD OF 'veilstonelaw04.PrinterTokens'. -/
def printerTokensUptoCard : Claim7 := { stood := { row := printerTokensUptoRow, standIns := [], harness := (true, "1ab6397fee7cbff7b007bd6b7143a292892b490009c6acd643f1dc5704bf391d"), looks := false }, kinds := [], alts := [], laidByText := true, laidKinds := [.data, .data, .data, .data, .data], laidTests := true, laidLooks := .later }
def PrinterTokensUptoCardSaid : Prop := Claim7.holds Tryd.pinned (.plain (OpenSpec.upto printerTokensSpec)) printerTokensUptoCard

/-- THE SECOND FORM's CARD OF 'veilstonelaw06.RolesOrder'. -/
def rolesOrderUptoCard : Claim7 := { stood := { row := rolesOrderUptoRow, standIns := [], harness := (true, "1ab6397fee7cbff7b007bd6b7143a292892b490009c6acd643f1dc5704bf391d"), looks := false }, kinds := [], alts := [], laidByText := true, laidKinds := [.data, .data], laidTests := true, laidLooks := .later }
def RolesOrderUptoCardSaid : Prop := Claim7.holds Tryd.pinned (.plain (OpenSpec.upto rolesOrderSpec)) rolesOrderUptoCard

/-- THE SECOND FORM's CARD OF 'veilstonelaw06.RolesInvariant'. -/
def rolesInvariantUptoCard : Claim7 := { stood := { row := rolesInvariantUptoRow, standIns := [], harness := (true, "1ab6397fee7cbff7b007bd6b7143a292892b490009c6acd643f1dc5704bf391d"), looks := false }, kinds := [], alts := [], laidByText := true, laidKinds := [.data, .data], laidTests := true, laidLooks := .later }
def RolesInvariantUptoCardSaid : Prop := Claim7.holds Tryd.pinned (.plain (OpenSpec.upto rolesInvariantSpec)) rolesInvariantUptoCard

/-- THE SECOND FORM's CARD OF 'veilstonelaw06.RolesFewer'. -/
def rolesFewerUptoCard : Claim7 := { stood := { row := rolesFewerUptoRow, standIns := [], harness := (true, "1ab6397fee7cbff7b007bd6b7143a292892b490009c6acd643f1dc5704bf391d"), looks := false }, kinds := [], alts := [], laidByText := true, laidKinds := [.data, .data], laidTests := true, laidLooks := .later }
def RolesFewerUptoCardSaid : Prop := Claim7.holds Tryd.pinned (.plain (OpenSpec.upto rolesFewerSpec)) rolesFewerUptoCard

/-- THE SECOND FORM's CARD OF 'veilstonelaw06.RolesCircle'. -/
def rolesCircleUptoCard : Claim7 := { stood := { row := rolesCircleUptoRow, standIns := [], harness := (true, "1ab6397fee7cbff7b007bd6b7143a292892b490009c6acd643f1dc5704bf391d"), looks := false }, kinds := [], alts := [], laidByText := true, laidKinds := [.data, .data], laidTests := true, laidLooks := .later }
def RolesCircleUptoCardSaid : Prop := Claim7.holds Tryd.pinned (.plain (OpenSpec.upto rolesCircleSpec)) rolesCircleUptoCard

/-- THE SECOND FORM's CARD OF 'veilstonelaw06.RolesClosed'. -/
def rolesClosedUptoCard : Claim7 := { stood := { row := rolesClosedUptoRow, standIns := [], harness := (true, "1ab6397fee7cbff7b007bd6b7143a292892b490009c6acd643f1dc5704bf391d"), looks := false }, kinds := [], alts := [], laidByText := true, laidKinds := [.data, .data], laidTests := true, laidLooks := .later }
def RolesClosedUptoCardSaid : Prop := Claim7.holds Tryd.pinned (.plain (OpenSpec.upto rolesClosedSpec)) rolesClosedUptoCard
end Rows
end Go.Proofs.YtomjajnlomdhpaaDoor
