/-
  DERIVED. GIVEN WITH THE SEED: THE CARDS: each row of YtdjjghikaijfpaaGreatDoorRows.lean that lists a variable, with what it lists TIED to the program's text (the seventh form; the later family's looks); each row that meets fmt, with fmt's text TOLD by the authors' own Lean function (tested against real Go, not proved from fmt's source: count such statements apart). THE CARD IS WHAT COUNTS. Prove the row's statement (the work); the ties are given (YtdjjghikaijfpaaGreatDoorTie.lean); close each card by the builder's one call (the guide's Derived/Test/ToyasCard.lean, 'card_holds'). Laid BY PROGRAM, IN A SANDBOX (cutbox-door.mjs). By AI agents, Wed Nov 11 2026. No macro, syntax, notation, axiom, sorry.
-/
import Derived.Test.YtdjjghikaijfpaaGreatDoorRows
import GoSem.ClaimSeven
namespace Go.Proofs.YtdjjghikaijfpaaGreatDoor
namespace Rows

/-- THE TIED CARD OF 'veilstonelaw40.ReplyEncodeSpec'. -/
def replyEncodeSpecCard : Claim7 := { stood := { row := replyEncodeSpecRow, standIns := [], harness := (true, "cde53b29424277e401b851dee2fd609e928aa1d8fc2a18cd586af98083658541"), looks := true }, kinds := [], alts := [], laidByText := true, laidKinds := [.data, .data, .data, .data, .sentinel, .sentinel, .data, .data, .data, .pinned], laidTests := true, laidLooks := .later }
def ReplyEncodeSpecCardSaid : Prop := Claim7.holds Tryz.pinned (.plain (OpenSpec.ofChange replyEncodeSpecSpec)) replyEncodeSpecCard

/-- THE TIED CARD OF 'veilstonelaw40.ReplyRequests'. -/
def replyRequestsCard : Claim7 := { stood := { row := replyRequestsRow, standIns := [], harness := (true, "cde53b29424277e401b851dee2fd609e928aa1d8fc2a18cd586af98083658541"), looks := true }, kinds := [], alts := [], laidByText := true, laidKinds := [.data, .data, .data, .data, .sentinel, .sentinel, .data, .data, .data, .pinned], laidTests := true, laidLooks := .later }
def ReplyRequestsCardSaid : Prop := Claim7.holds Tryz.pinned (.plain (OpenSpec.ofChange replyRequestsSpec)) replyRequestsCard

/-- THE TIED CARD OF 'veilstonelaw40.ReplyRoundTrip'. -/
def replyRoundTripCard : Claim7 := { stood := { row := replyRoundTripRow, standIns := [], harness := (true, "cde53b29424277e401b851dee2fd609e928aa1d8fc2a18cd586af98083658541"), looks := true }, kinds := [], alts := [], laidByText := true, laidKinds := [.data, .data, .data, .data, .sentinel, .sentinel, .data, .data, .data, .pinned], laidTests := true, laidLooks := .later }
def ReplyRoundTripCardSaid : Prop := Claim7.holds Tryz.pinned (.plain (OpenSpec.ofChange replyRoundTripSpec)) replyRoundTripCard

/-- THE TIED CARD OF 'veilstonelaw40.ReplySplitSpec'. -/
def replySplitSpecCard : Claim7 := { stood := { row := replySplitSpecRow, standIns := [], harness := (true, "cde53b29424277e401b851dee2fd609e928aa1d8fc2a18cd586af98083658541"), looks := true }, kinds := [], alts := [], laidByText := true, laidKinds := [.data, .data, .data, .data, .sentinel, .sentinel, .data, .data, .data, .pinned], laidTests := true, laidLooks := .later }
def ReplySplitSpecCardSaid : Prop := Claim7.holds Tryz.pinned (.plain (OpenSpec.ofChange replySplitSpecSpec)) replySplitSpecCard

/-- THE TIED CARD OF 'veilstonelaw40.ReplySides'. -/
def replySidesCard : Claim7 := { stood := { row := replySidesRow, standIns := [], harness := (true, "cde53b29424277e401b851dee2fd609e928aa1d8fc2a18cd586af98083658541"), looks := true }, kinds := [], alts := [], laidByText := true, laidKinds := [.data, .data, .data, .data, .sentinel, .sentinel, .data, .data, .data, .pinned], laidTests := true, laidLooks := .later }
def ReplySidesCardSaid : Prop := Claim7.holds Tryz.pinned (.plain (OpenSpec.ofChange replySidesSpec)) replySidesCard

/-- THE SECOND FORM's CARD OF 'veilstonelaw40.ReplyEncodeSpec'. -/
def replyEncodeSpecUptoCard : Claim7 := { stood := { row := replyEncodeSpecUptoRow, standIns := [], harness := (true, "cde53b29424277e401b851dee2fd609e928aa1d8fc2a18cd586af98083658541"), looks := true }, kinds := [], alts := [], laidByText := true, laidKinds := [.data, .data, .data, .data, .sentinel, .sentinel, .data, .data, .data, .pinned], laidTests := true, laidLooks := .later }
def ReplyEncodeSpecUptoCardSaid : Prop := Claim7.holds Tryz.pinned (.plain (OpenSpec.upto replyEncodeSpecSpec)) replyEncodeSpecUptoCard

/-- THE SECOND FORM's CARD OF 'veilstonelaw40.ReplyRequests'. -/
def replyRequestsUptoCard : Claim7 := { stood := { row := replyRequestsUptoRow, standIns := [], harness := (true, "cde53b29424277e401b851dee2fd609e928aa1d8fc2a18cd586af98083658541"), looks := true }, kinds := [], alts := [], laidByText := true, laidKinds := [.data, .data, .data, .data, .sentinel, .sentinel, .data, .data, .data, .pinned], laidTests := true, laidLooks := .later }
def ReplyRequestsUptoCardSaid : Prop := Claim7.holds Tryz.pinned (.plain (OpenSpec.upto replyRequestsSpec)) replyRequestsUptoCard

/-- THE SECOND FORM's CARD OF 'veilstonelaw40.ReplyRoundTrip'. -/
def replyRoundTripUptoCard : Claim7 := { stood := { row := replyRoundTripUptoRow, standIns := [], harness := (true, "cde53b29424277e401b851dee2fd609e928aa1d8fc2a18cd586af98083658541"), looks := true }, kinds := [], alts := [], laidByText := true, laidKinds := [.data, .data, .data, .data, .sentinel, .sentinel, .data, .data, .data, .pinned], laidTests := true, laidLooks := .later }
def ReplyRoundTripUptoCardSaid : Prop := Claim7.holds Tryz.pinned (.plain (OpenSpec.upto replyRoundTripSpec)) replyRoundTripUptoCard

/-- THE SECOND FORM's CARD OF 'veilstonelaw40.ReplySplitSpec'. -/
def replySplitSpecUptoCard : Claim7 := { stood := { row := replySplitSpecUptoRow, standIns := [], harness := (true, "cde53b29424277e401b851dee2fd609e928aa1d8fc2a18cd586af98083658541"), looks := true }, kinds := [], alts := [], laidByText := true, laidKinds := [.data, .data, .data, .data, .sentinel, .sentinel, .data, .data, .data, .pinned], laidTests := true, laidLooks := .later }
def ReplySplitSpecUptoCardSaid : Prop := Claim7.holds Tryz.pinned (.plain (OpenSpec.upto replySplitSpecSpec)) replySplitSpecUptoCard

/-- THE SECOND FORM's CARD OF 'veilstonelaw40.ReplySides'. -/
def replySidesUptoCard : Claim7 := { stood := { row := replySidesUptoRow, standIns := [], harness := (true, "cde53b29424277e401b851dee2fd609e928aa1d8fc2a18cd586af98083658541"), looks := true }, kinds := [], alts := [], laidByText := true, laidKinds := [.data, .data, .data, .data, .sentinel, .sentinel, .data, .data, .data, .pinned], laidTests := true, laidLooks := .later }
def ReplySidesUptoCardSaid : Prop := Claim7.holds Tryz.pinned (.plain (OpenSpec.upto replySidesSpec)) replySidesUptoCard
end Rows
end Go.Proofs.YtdjjghikaijfpaaGreatDoor
