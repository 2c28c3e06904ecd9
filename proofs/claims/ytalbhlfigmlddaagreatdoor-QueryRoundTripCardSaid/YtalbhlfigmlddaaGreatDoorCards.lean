/-
  DERIVED. GIVEN WITH THE SEED: THE CARDS: each row of YtalbhlfigmlddaaGreatDoorRows.lean that lists a variable, with what it lists TIED to the program's text (the seventh form; the later family's looks); each row that meets fmt, with fmt's text TOLD by the authors' own Lean function (tested against real Go, not proved from fmt's source: count such statements apart). THE CARD IS WHAT COUNTS. Prove the row's statement (the work); the ties are given (YtalbhlfigmlddaaGreatDoorTie.lean); close each card by the builder's one call (the guide's Derived/Test/ToyasCard.lean, 'card_holds'). Laid BY PROGRAM, IN A SANDBOX (cutbox-door.mjs). By AI agents, Wed Nov 11 2026. No macro, syntax, notation, axiom, sorry.
-/
import Derived.Test.YtalbhlfigmlddaaGreatDoorRows
import GoSem.ClaimSeven
namespace Go.Proofs.YtalbhlfigmlddaaGreatDoor
namespace Rows

/-- THE TIED CARD OF 'veilstonelaw21.QueryRoundTrip'. -/
def queryRoundTripCard : Claim7 := { stood := { row := queryRoundTripRow, standIns := [], harness := (true, "cb9fcbc56e37dfe9956a8548bc7c9d6ae54074cc785786038abc12bb3a0218a7"), looks := true }, kinds := [], alts := [], laidByText := true, laidKinds := [.data, .data, .data, .sentinel, .sentinel, .data, .data], laidTests := true, laidLooks := .later }
def QueryRoundTripCardSaid : Prop := Claim7.holds Tryz.pinned (.plain (OpenSpec.ofChange queryRoundTripSpec)) queryRoundTripCard

/-- THE TIED CARD OF 'veilstonelaw21.QueryOrder'. -/
def queryOrderCard : Claim7 := { stood := { row := queryOrderRow, standIns := [], harness := (true, "cb9fcbc56e37dfe9956a8548bc7c9d6ae54074cc785786038abc12bb3a0218a7"), looks := true }, kinds := [], alts := [], laidByText := true, laidKinds := [.data, .data, .data, .sentinel, .sentinel, .data, .data], laidTests := true, laidLooks := .later }
def QueryOrderCardSaid : Prop := Claim7.holds Tryz.pinned (.plain (OpenSpec.ofChange queryOrderSpec)) queryOrderCard

/-- THE TIED CARD OF 'veilstonelaw21.QueryNames'. -/
def queryNamesCard : Claim7 := { stood := { row := queryNamesRow, standIns := [], harness := (true, "cb9fcbc56e37dfe9956a8548bc7c9d6ae54074cc785786038abc12bb3a0218a7"), looks := true }, kinds := [], alts := [], laidByText := true, laidKinds := [.data, .data, .data, .sentinel, .sentinel, .data, .data], laidTests := true, laidLooks := .later }
def QueryNamesCardSaid : Prop := Claim7.holds Tryz.pinned (.plain (OpenSpec.ofChange queryNamesSpec)) queryNamesCard

/-- THE TIED CARD OF 'veilstonelaw21.QueryInstances'. -/
def queryInstancesCard : Claim7 := { stood := { row := queryInstancesRow, standIns := [], harness := (true, "cb9fcbc56e37dfe9956a8548bc7c9d6ae54074cc785786038abc12bb3a0218a7"), looks := true }, kinds := [], alts := [], laidByText := true, laidKinds := [.data, .data, .data, .sentinel, .sentinel, .data, .data], laidTests := true, laidLooks := .later }
def QueryInstancesCardSaid : Prop := Claim7.holds Tryz.pinned (.plain (OpenSpec.ofChange queryInstancesSpec)) queryInstancesCard

/-- THE TIED CARD OF 'veilstonelaw21.QuerySimple'. -/
def querySimpleCard : Claim7 := { stood := { row := querySimpleRow, standIns := [], harness := (true, "cb9fcbc56e37dfe9956a8548bc7c9d6ae54074cc785786038abc12bb3a0218a7"), looks := true }, kinds := [], alts := [], laidByText := true, laidKinds := [.data, .data, .data, .sentinel, .sentinel, .data, .data], laidTests := true, laidLooks := .later }
def QuerySimpleCardSaid : Prop := Claim7.holds Tryz.pinned (.plain (OpenSpec.ofChange querySimpleSpec)) querySimpleCard

/-- THE SECOND FORM's CARD OF 'veilstonelaw21.QueryRoundTrip'. -/
def queryRoundTripUptoCard : Claim7 := { stood := { row := queryRoundTripUptoRow, standIns := [], harness := (true, "cb9fcbc56e37dfe9956a8548bc7c9d6ae54074cc785786038abc12bb3a0218a7"), looks := true }, kinds := [], alts := [], laidByText := true, laidKinds := [.data, .data, .data, .sentinel, .sentinel, .data, .data], laidTests := true, laidLooks := .later }
def QueryRoundTripUptoCardSaid : Prop := Claim7.holds Tryz.pinned (.plain (OpenSpec.upto queryRoundTripSpec)) queryRoundTripUptoCard

/-- THE SECOND FORM's CARD OF 'veilstonelaw21.QueryOrder'. -/
def queryOrderUptoCard : Claim7 := { stood := { row := queryOrderUptoRow, standIns := [], harness := (true, "cb9fcbc56e37dfe9956a8548bc7c9d6ae54074cc785786038abc12bb3a0218a7"), looks := true }, kinds := [], alts := [], laidByText := true, laidKinds := [.data, .data, .data, .sentinel, .sentinel, .data, .data], laidTests := true, laidLooks := .later }
def QueryOrderUptoCardSaid : Prop := Claim7.holds Tryz.pinned (.plain (OpenSpec.upto queryOrderSpec)) queryOrderUptoCard

/-- THE SECOND FORM's CARD OF 'veilstonelaw21.QueryNames'. -/
def queryNamesUptoCard : Claim7 := { stood := { row := queryNamesUptoRow, standIns := [], harness := (true, "cb9fcbc56e37dfe9956a8548bc7c9d6ae54074cc785786038abc12bb3a0218a7"), looks := true }, kinds := [], alts := [], laidByText := true, laidKinds := [.data, .data, .data, .sentinel, .sentinel, .data, .data], laidTests := true, laidLooks := .later }
def QueryNamesUptoCardSaid : Prop := Claim7.holds Tryz.pinned (.plain (OpenSpec.upto queryNamesSpec)) queryNamesUptoCard

/-- THE SECOND FORM's CARD OF 'veilstonelaw21.QueryInstances'. -/
def queryInstancesUptoCard : Claim7 := { stood := { row := queryInstancesUptoRow, standIns := [], harness := (true, "cb9fcbc56e37dfe9956a8548bc7c9d6ae54074cc785786038abc12bb3a0218a7"), looks := true }, kinds := [], alts := [], laidByText := true, laidKinds := [.data, .data, .data, .sentinel, .sentinel, .data, .data], laidTests := true, laidLooks := .later }
def QueryInstancesUptoCardSaid : Prop := Claim7.holds Tryz.pinned (.plain (OpenSpec.upto queryInstancesSpec)) queryInstancesUptoCard

/-- THE SECOND FORM's CARD OF 'veilstonelaw21.QuerySimple'. -/
def querySimpleUptoCard : Claim7 := { stood := { row := querySimpleUptoRow, standIns := [], harness := (true, "cb9fcbc56e37dfe9956a8548bc7c9d6ae54074cc785786038abc12bb3a0218a7"), looks := true }, kinds := [], alts := [], laidByText := true, laidKinds := [.data, .data, .data, .sentinel, .sentinel, .data, .data], laidTests := true, laidLooks := .later }
def QuerySimpleUptoCardSaid : Prop := Claim7.holds Tryz.pinned (.plain (OpenSpec.upto querySimpleSpec)) querySimpleUptoCard
end Rows
end Go.Proofs.YtalbhlfigmlddaaGreatDoor
