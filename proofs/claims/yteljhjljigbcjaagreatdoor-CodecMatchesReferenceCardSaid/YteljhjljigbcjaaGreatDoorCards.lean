/-
  DERIVED. GIVEN WITH THE SEED: THE CARDS: each row of YteljhjljigbcjaaGreatDoorRows.lean that lists a variable, with what it lists TIED to the program's text (the seventh form; the later family's looks); each row that meets fmt, with fmt's text TOLD by the authors' own Lean function (tested against real Go, not proved from fmt's source: count such statements apart). THE CARD IS WHAT COUNTS. Prove the row's statement (the work); the ties are given (YteljhjljigbcjaaGreatDoorTie.lean); close each card by the builder's one call (the guide's Derived/Test/ToyasCard.lean, 'card_holds'). Laid BY PROGRAM, IN A SANDBOX (cutbox-door.mjs). By AI agents, Wed Nov 11 2026. No macro, syntax, notation, axiom, sorry.
-/
import Derived.Test.YteljhjljigbcjaaGreatDoorRows
import GoSem.ClaimSeven
namespace Go.Proofs.YteljhjljigbcjaaGreatDoor
namespace Rows

/-- THE TIED CARD OF 'armillarylaw27.CodecMatchesReference'. -/
def codecMatchesReferenceCard : Claim7 := { stood := { row := codecMatchesReferenceRow, standIns := [], harness := (true, "4b01e2ceb093a77cac89e0f6ee7bae43c90e3f42305811c1cdc4d57ac11c85c8"), looks := true }, kinds := [], alts := [], laidByText := true, laidKinds := [.data, .data, .data, .data, .sentinel, .sentinel, .pinned], laidTests := true, laidLooks := .later }
def CodecMatchesReferenceCardSaid : Prop := Claim7.holds Tryz.pinned (.plain (OpenSpec.ofChange codecMatchesReferenceSpec)) codecMatchesReferenceCard

/-- THE TIED CARD OF 'armillarylaw27.CodecVarintRoundTrip'. -/
def codecVarintRoundTripCard : Claim7 := { stood := { row := codecVarintRoundTripRow, standIns := [], harness := (true, "4b01e2ceb093a77cac89e0f6ee7bae43c90e3f42305811c1cdc4d57ac11c85c8"), looks := true }, kinds := [], alts := [], laidByText := true, laidKinds := [.data, .data, .data, .data, .sentinel, .sentinel, .pinned], laidTests := true, laidLooks := .later }
def CodecVarintRoundTripCardSaid : Prop := Claim7.holds Tryz.pinned (.plain (OpenSpec.ofChange codecVarintRoundTripSpec)) codecVarintRoundTripCard

/-- THE TIED CARD OF 'armillarylaw27.CodecEntryRoundTrip'. -/
def codecEntryRoundTripCard : Claim7 := { stood := { row := codecEntryRoundTripRow, standIns := [], harness := (true, "4b01e2ceb093a77cac89e0f6ee7bae43c90e3f42305811c1cdc4d57ac11c85c8"), looks := true }, kinds := [], alts := [], laidByText := true, laidKinds := [.data, .data, .data, .data, .sentinel, .sentinel, .pinned], laidTests := true, laidLooks := .later }
def CodecEntryRoundTripCardSaid : Prop := Claim7.holds Tryz.pinned (.plain (OpenSpec.ofChange codecEntryRoundTripSpec)) codecEntryRoundTripCard

/-- THE TIED CARD OF 'armillarylaw27.CodecMessageRoundTrip'. -/
def codecMessageRoundTripCard : Claim7 := { stood := { row := codecMessageRoundTripRow, standIns := [], harness := (true, "4b01e2ceb093a77cac89e0f6ee7bae43c90e3f42305811c1cdc4d57ac11c85c8"), looks := true }, kinds := [], alts := [], laidByText := true, laidKinds := [.data, .data, .data, .data, .sentinel, .sentinel, .pinned], laidTests := true, laidLooks := .later }
def CodecMessageRoundTripCardSaid : Prop := Claim7.holds Tryz.pinned (.plain (OpenSpec.ofChange codecMessageRoundTripSpec)) codecMessageRoundTripCard

/-- THE TIED CARD OF 'armillarylaw27.CodecChecksumIsAffine'. -/
def codecChecksumIsAffineCard : Claim7 := { stood := { row := codecChecksumIsAffineRow, standIns := [], harness := (true, "4b01e2ceb093a77cac89e0f6ee7bae43c90e3f42305811c1cdc4d57ac11c85c8"), looks := true }, kinds := [], alts := [], laidByText := true, laidKinds := [.data, .data, .data, .data, .sentinel, .sentinel, .pinned], laidTests := true, laidLooks := .later }
def CodecChecksumIsAffineCardSaid : Prop := Claim7.holds Tryz.pinned (.plain (OpenSpec.ofChange codecChecksumIsAffineSpec)) codecChecksumIsAffineCard

/-- THE SECOND FORM's CARD OF 'armillarylaw27.CodecMatchesReference'. -/
def codecMatchesReferenceUptoCard : Claim7 := { stood := { row := codecMatchesReferenceUptoRow, standIns := [], harness := (true, "4b01e2ceb093a77cac89e0f6ee7bae43c90e3f42305811c1cdc4d57ac11c85c8"), looks := true }, kinds := [], alts := [], laidByText := true, laidKinds := [.data, .data, .data, .data, .sentinel, .sentinel, .pinned], laidTests := true, laidLooks := .later }
def CodecMatchesReferenceUptoCardSaid : Prop := Claim7.holds Tryz.pinned (.plain (OpenSpec.upto codecMatchesReferenceSpec)) codecMatchesReferenceUptoCard

/-- THE SECOND FORM's CARD OF 'armillarylaw27.CodecVarintRoundTrip'. -/
def codecVarintRoundTripUptoCard : Claim7 := { stood := { row := codecVarintRoundTripUptoRow, standIns := [], harness := (true, "4b01e2ceb093a77cac89e0f6ee7bae43c90e3f42305811c1cdc4d57ac11c85c8"), looks := true }, kinds := [], alts := [], laidByText := true, laidKinds := [.data, .data, .data, .data, .sentinel, .sentinel, .pinned], laidTests := true, laidLooks := .later }
def CodecVarintRoundTripUptoCardSaid : Prop := Claim7.holds Tryz.pinned (.plain (OpenSpec.upto codecVarintRoundTripSpec)) codecVarintRoundTripUptoCard

/-- THE SECOND FORM's CARD OF 'armillarylaw27.CodecEntryRoundTrip'. -/
def codecEntryRoundTripUptoCard : Claim7 := { stood := { row := codecEntryRoundTripUptoRow, standIns := [], harness := (true, "4b01e2ceb093a77cac89e0f6ee7bae43c90e3f42305811c1cdc4d57ac11c85c8"), looks := true }, kinds := [], alts := [], laidByText := true, laidKinds := [.data, .data, .data, .data, .sentinel, .sentinel, .pinned], laidTests := true, laidLooks := .later }
def CodecEntryRoundTripUptoCardSaid : Prop := Claim7.holds Tryz.pinned (.plain (OpenSpec.upto codecEntryRoundTripSpec)) codecEntryRoundTripUptoCard

/-- THE SECOND FORM's CARD OF 'armillarylaw27.CodecMessageRoundTrip'. -/
def codecMessageRoundTripUptoCard : Claim7 := { stood := { row := codecMessageRoundTripUptoRow, standIns := [], harness := (true, "4b01e2ceb093a77cac89e0f6ee7bae43c90e3f42305811c1cdc4d57ac11c85c8"), looks := true }, kinds := [], alts := [], laidByText := true, laidKinds := [.data, .data, .data, .data, .sentinel, .sentinel, .pinned], laidTests := true, laidLooks := .later }
def CodecMessageRoundTripUptoCardSaid : Prop := Claim7.holds Tryz.pinned (.plain (OpenSpec.upto codecMessageRoundTripSpec)) codecMessageRoundTripUptoCard

/-- THE SECOND FORM's CARD OF 'armillarylaw27.CodecChecksumIsAffine'. -/
def codecChecksumIsAffineUptoCard : Claim7 := { stood := { row := codecChecksumIsAffineUptoRow, standIns := [], harness := (true, "4b01e2ceb093a77cac89e0f6ee7bae43c90e3f42305811c1cdc4d57ac11c85c8"), looks := true }, kinds := [], alts := [], laidByText := true, laidKinds := [.data, .data, .data, .data, .sentinel, .sentinel, .pinned], laidTests := true, laidLooks := .later }
def CodecChecksumIsAffineUptoCardSaid : Prop := Claim7.holds Tryz.pinned (.plain (OpenSpec.upto codecChecksumIsAffineSpec)) codecChecksumIsAffineUptoCard
end Rows
end Go.Proofs.YteljhjljigbcjaaGreatDoor
