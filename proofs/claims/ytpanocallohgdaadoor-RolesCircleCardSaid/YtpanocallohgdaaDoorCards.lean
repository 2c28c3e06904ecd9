/-
  DERIVED. GIVEN WITH THE SEED: THE CARDS: each row of YtpanocallohgdaaDoorRows.lean that lists a variable, with what it lists TIED to the program's text (the seventh form; the later family's looks); each row that meets fmt, with fmt's text TOLD by the authors' own Lean function (tested against real Go, not proved from fmt's source: count such statements apart). THE CARD IS WHAT COUNTS. Prove the row's statement (the work); the ties are given (YtpanocallohgdaaDoorTie.lean); close each card by the builder's one call (the guide's Derived/Test/ToyasCard.lean, 'card_holds'). Laid BY PROGRAM, IN A SANDBOX (cutbox-door.mjs). By AI agents, Wed Nov 11 2026. No macro, syntax, notation, axiom, sorry.
-/
import Derived.Test.YtpanocallohgdaaDoorRows
import GoSem.ClaimSeven
namespace Go.Proofs.YtpanocallohgdaaDoor
namespace Rows

/-- THE TIED CARD OF 'veilstonelaw06.RolesCircle'. -/
def rolesCircleCard : Claim7 := { stood := { row := rolesCircleRow, standIns := [], harness := (true, "6841c8c3d20349c2820df3ca3ce2e781fc42117c587120af2f8dd3a6c23adcc7"), looks := false }, kinds := [], alts := [], laidByText := true, laidKinds := [.data, .data], laidTests := true, laidLooks := .later }
def RolesCircleCardSaid : Prop := Claim7.holds Tryd.pinned (.plain (OpenSpec.ofChange rolesCircleSpec)) rolesCircleCard

/-- THE SECOND FORM's CARD OF 'veilstonelaw06.RolesCircle'. -/
def rolesCircleUptoCard : Claim7 := { stood := { row := rolesCircleUptoRow, standIns := [], harness := (true, "6841c8c3d20349c2820df3ca3ce2e781fc42117c587120af2f8dd3a6c23adcc7"), looks := false }, kinds := [], alts := [], laidByText := true, laidKinds := [.data, .data], laidTests := true, laidLooks := .later }
def RolesCircleUptoCardSaid : Prop := Claim7.holds Tryd.pinned (.plain (OpenSpec.upto rolesCircleSpec)) rolesCircleUptoCard
end Rows
end Go.Proofs.YtpanocallohgdaaDoor
