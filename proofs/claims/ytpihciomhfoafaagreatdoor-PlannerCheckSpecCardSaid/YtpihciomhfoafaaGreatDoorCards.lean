/-
  DERIVED. GIVEN WITH THE SEED: THE CARDS: each row of YtpihciomhfoafaaGreatDoorRows.lean that lists a variable, with what it lists TIED to the program's text (the seventh form; the later family's looks); each row that meets fmt, with fmt's text TOLD by the authors' own Lean function (tested against real Go, not proved from fmt's source: count such statements apart). THE CARD IS WHAT COUNTS. Prove the row's statement (the work); the ties are given (YtpihciomhfoafaaGreatDoorTie.lean); close each card by the builder's one call (the guide's Derived/Test/ToyasCard.lean, 'card_holds'). Laid BY PROGRAM, IN A SANDBOX (cutbox-door.mjs). By AI agents, Wed Nov 11 2026. No macro, syntax, notation, axiom, sorry.
-/
import Derived.Test.YtpihciomhfoafaaGreatDoorRows
import GoSem.ClaimSeven
namespace Go.Proofs.YtpihciomhfoafaaGreatDoor
namespace Rows

/-- THE TIED CARD OF 'veilstonelaw24.PlannerCheckSpec'. -/
def plannerCheckSpecCard : Claim7 := { stood := { row := plannerCheckSpecRow, standIns := [], harness := (true, "1e62ac26d77a227e20bd5ccf8b40129747e4ae85e18dcf43e33b39286cf95615"), looks := false }, kinds := [], alts := [], laidByText := true, laidKinds := [.data, .data, .data, .data, .data, .data, .data, .pinned], laidTests := true, laidLooks := .later }
def PlannerCheckSpecCardSaid : Prop := Claim7.holds Tryz.pinned (.plain (OpenSpec.ofChange plannerCheckSpecSpec)) plannerCheckSpecCard

/-- THE TIED CARD OF 'veilstonelaw24.PlannerCostSpec'. -/
def plannerCostSpecCard : Claim7 := { stood := { row := plannerCostSpecRow, standIns := [], harness := (true, "1e62ac26d77a227e20bd5ccf8b40129747e4ae85e18dcf43e33b39286cf95615"), looks := false }, kinds := [], alts := [], laidByText := true, laidKinds := [.data, .data, .data, .data, .data, .data, .data, .pinned], laidTests := true, laidLooks := .later }
def PlannerCostSpecCardSaid : Prop := Claim7.holds Tryz.pinned (.plain (OpenSpec.ofChange plannerCostSpecSpec)) plannerCostSpecCard

/-- THE TIED CARD OF 'veilstonelaw24.PlannerRunSpec'. -/
def plannerRunSpecCard : Claim7 := { stood := { row := plannerRunSpecRow, standIns := [], harness := (true, "1e62ac26d77a227e20bd5ccf8b40129747e4ae85e18dcf43e33b39286cf95615"), looks := false }, kinds := [], alts := [], laidByText := true, laidKinds := [.data, .data, .data, .data, .data, .data, .data, .pinned], laidTests := true, laidLooks := .later }
def PlannerRunSpecCardSaid : Prop := Claim7.holds Tryz.pinned (.plain (OpenSpec.ofChange plannerRunSpecSpec)) plannerRunSpecCard

/-- THE TIED CARD OF 'veilstonelaw24.PlannerBest'. -/
def plannerBestCard : Claim7 := { stood := { row := plannerBestRow, standIns := [], harness := (true, "1e62ac26d77a227e20bd5ccf8b40129747e4ae85e18dcf43e33b39286cf95615"), looks := false }, kinds := [], alts := [], laidByText := true, laidKinds := [.data, .data, .data, .data, .data, .data, .data, .pinned], laidTests := true, laidLooks := .later }
def PlannerBestCardSaid : Prop := Claim7.holds Tryz.pinned (.plain (OpenSpec.ofChange plannerBestSpec)) plannerBestCard

/-- THE TIED CARD OF 'veilstonelaw24.PlannerSound'. -/
def plannerSoundCard : Claim7 := { stood := { row := plannerSoundRow, standIns := [], harness := (true, "1e62ac26d77a227e20bd5ccf8b40129747e4ae85e18dcf43e33b39286cf95615"), looks := false }, kinds := [], alts := [], laidByText := true, laidKinds := [.data, .data, .data, .data, .data, .data, .data, .pinned], laidTests := true, laidLooks := .later }
def PlannerSoundCardSaid : Prop := Claim7.holds Tryz.pinned (.plain (OpenSpec.ofChange plannerSoundSpec)) plannerSoundCard

/-- THE SECOND FORM's CARD OF 'veilstonelaw24.PlannerCheckSpec'. -/
def plannerCheckSpecUptoCard : Claim7 := { stood := { row := plannerCheckSpecUptoRow, standIns := [], harness := (true, "1e62ac26d77a227e20bd5ccf8b40129747e4ae85e18dcf43e33b39286cf95615"), looks := false }, kinds := [], alts := [], laidByText := true, laidKinds := [.data, .data, .data, .data, .data, .data, .data, .pinned], laidTests := true, laidLooks := .later }
def PlannerCheckSpecUptoCardSaid : Prop := Claim7.holds Tryz.pinned (.plain (OpenSpec.upto plannerCheckSpecSpec)) plannerCheckSpecUptoCard

/-- THE SECOND FORM's CARD OF 'veilstonelaw24.PlannerCostSpec'. -/
def plannerCostSpecUptoCard : Claim7 := { stood := { row := plannerCostSpecUptoRow, standIns := [], harness := (true, "1e62ac26d77a227e20bd5ccf8b40129747e4ae85e18dcf43e33b39286cf95615"), looks := false }, kinds := [], alts := [], laidByText := true, laidKinds := [.data, .data, .data, .data, .data, .data, .data, .pinned], laidTests := true, laidLooks := .later }
def PlannerCostSpecUptoCardSaid : Prop := Claim7.holds Tryz.pinned (.plain (OpenSpec.upto plannerCostSpecSpec)) plannerCostSpecUptoCard

/-- THE SECOND FORM's CARD OF 'veilstonelaw24.PlannerRunSpec'. -/
def plannerRunSpecUptoCard : Claim7 := { stood := { row := plannerRunSpecUptoRow, standIns := [], harness := (true, "1e62ac26d77a227e20bd5ccf8b40129747e4ae85e18dcf43e33b39286cf95615"), looks := false }, kinds := [], alts := [], laidByText := true, laidKinds := [.data, .data, .data, .data, .data, .data, .data, .pinned], laidTests := true, laidLooks := .later }
def PlannerRunSpecUptoCardSaid : Prop := Claim7.holds Tryz.pinned (.plain (OpenSpec.upto plannerRunSpecSpec)) plannerRunSpecUptoCard

/-- THE SECOND FORM's CARD OF 'veilstonelaw24.PlannerBest'. -/
def plannerBestUptoCard : Claim7 := { stood := { row := plannerBestUptoRow, standIns := [], harness := (true, "1e62ac26d77a227e20bd5ccf8b40129747e4ae85e18dcf43e33b39286cf95615"), looks := false }, kinds := [], alts := [], laidByText := true, laidKinds := [.data, .data, .data, .data, .data, .data, .data, .pinned], laidTests := true, laidLooks := .later }
def PlannerBestUptoCardSaid : Prop := Claim7.holds Tryz.pinned (.plain (OpenSpec.upto plannerBestSpec)) plannerBestUptoCard

/-- THE SECOND FORM's CARD OF 'veilstonelaw24.PlannerSound'. -/
def plannerSoundUptoCard : Claim7 := { stood := { row := plannerSoundUptoRow, standIns := [], harness := (true, "1e62ac26d77a227e20bd5ccf8b40129747e4ae85e18dcf43e33b39286cf95615"), looks := false }, kinds := [], alts := [], laidByText := true, laidKinds := [.data, .data, .data, .data, .data, .data, .data, .pinned], laidTests := true, laidLooks := .later }
def PlannerSoundUptoCardSaid : Prop := Claim7.holds Tryz.pinned (.plain (OpenSpec.upto plannerSoundSpec)) plannerSoundUptoCard
end Rows
end Go.Proofs.YtpihciomhfoafaaGreatDoor
