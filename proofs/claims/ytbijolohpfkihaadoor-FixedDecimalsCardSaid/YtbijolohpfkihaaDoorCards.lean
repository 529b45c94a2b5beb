/-
  DERIVED. GIVEN WITH THE SEED: THE CARDS: each row of YtbijolohpfkihaaDoorRows.lean that lists a variable, with what it lists TIED to the program's text (the seventh form; the later family's looks); each row that meets fmt, with fmt's text TOLD by the authors' own Lean function (tested against real Go, not proved from fmt's source: count such statements apart). THE CARD IS WHAT COUNTS. Prove the row's statement (the work); the ties are given (YtbijolohpfkihaaDoorTie.lean); close each card by the builder's one call (the guide's Derived/Test/ToyasCard.lean, 'card_holds'). Laid BY PROGRAM, IN A SANDBOX (cutbox-door.mjs). By AI agents, Wed Nov 11 2026. No macro, syntax, notation, axiom, sorry.
-/
import Derived.Test.YtbijolohpfkihaaDoorRows
import GoSem.ClaimSeven
namespace Go.Proofs.YtbijolohpfkihaaDoor
namespace Rows

/-- THE TIED CARD OF 'armillarylaw01.FixedMatchesReference'. -/
def fixedMatchesReferenceCard : Claim7 := { stood := { row := fixedMatchesReferenceRow, standIns := [], harness := (true, "f329670e193e0d6f71cbc1dc9e2281a2c94f24a4a08675b944128bcec20bca55"), looks := true }, kinds := [], alts := [], laidByText := true, laidKinds := [.data, .data, .data, .data, .sentinel, .sentinel, .pinned], laidTests := true, laidLooks := .later }
def FixedMatchesReferenceCardSaid : Prop := Claim7.holds Tryd.pinned (.plain (OpenSpec.ofChange fixedMatchesReferenceSpec)) fixedMatchesReferenceCard

/-- THE TIED CARD OF 'armillarylaw01.FixedFormatMatchesReference'. -/
def fixedFormatMatchesReferenceCard : Claim7 := { stood := { row := fixedFormatMatchesReferenceRow, standIns := [], harness := (true, "f329670e193e0d6f71cbc1dc9e2281a2c94f24a4a08675b944128bcec20bca55"), looks := true }, kinds := [], alts := [], laidByText := true, laidKinds := [.data, .data, .data, .data, .sentinel, .sentinel, .pinned], laidTests := true, laidLooks := .later }
def FixedFormatMatchesReferenceCardSaid : Prop := Claim7.holds Tryd.pinned (.plain (OpenSpec.ofChange fixedFormatMatchesReferenceSpec)) fixedFormatMatchesReferenceCard

/-- THE TIED CARD OF 'armillarylaw01.FixedRounding'. -/
def fixedRoundingCard : Claim7 := { stood := { row := fixedRoundingRow, standIns := [], harness := (true, "f329670e193e0d6f71cbc1dc9e2281a2c94f24a4a08675b944128bcec20bca55"), looks := true }, kinds := [], alts := [], laidByText := true, laidKinds := [.data, .data, .data, .data, .sentinel, .sentinel, .pinned], laidTests := true, laidLooks := .later }
def FixedRoundingCardSaid : Prop := Claim7.holds Tryd.pinned (.plain (OpenSpec.ofChange fixedRoundingSpec)) fixedRoundingCard

/-- THE TIED CARD OF 'armillarylaw01.FixedQuotients'. -/
def fixedQuotientsCard : Claim7 := { stood := { row := fixedQuotientsRow, standIns := [], harness := (true, "f329670e193e0d6f71cbc1dc9e2281a2c94f24a4a08675b944128bcec20bca55"), looks := true }, kinds := [], alts := [], laidByText := true, laidKinds := [.data, .data, .data, .data, .sentinel, .sentinel, .pinned], laidTests := true, laidLooks := .later }
def FixedQuotientsCardSaid : Prop := Claim7.holds Tryd.pinned (.plain (OpenSpec.ofChange fixedQuotientsSpec)) fixedQuotientsCard

/-- THE TIED CARD OF 'armillarylaw01.FixedRoots'. -/
def fixedRootsCard : Claim7 := { stood := { row := fixedRootsRow, standIns := [], harness := (true, "f329670e193e0d6f71cbc1dc9e2281a2c94f24a4a08675b944128bcec20bca55"), looks := true }, kinds := [], alts := [], laidByText := true, laidKinds := [.data, .data, .data, .data, .sentinel, .sentinel, .pinned], laidTests := true, laidLooks := .later }
def FixedRootsCardSaid : Prop := Claim7.holds Tryd.pinned (.plain (OpenSpec.ofChange fixedRootsSpec)) fixedRootsCard

/-- THE TIED CARD OF 'armillarylaw01.FixedFormatRoundTrip'. -/
def fixedFormatRoundTripCard : Claim7 := { stood := { row := fixedFormatRoundTripRow, standIns := [], harness := (true, "f329670e193e0d6f71cbc1dc9e2281a2c94f24a4a08675b944128bcec20bca55"), looks := true }, kinds := [], alts := [], laidByText := true, laidKinds := [.data, .data, .data, .data, .sentinel, .sentinel, .pinned], laidTests := true, laidLooks := .later }
def FixedFormatRoundTripCardSaid : Prop := Claim7.holds Tryd.pinned (.plain (OpenSpec.ofChange fixedFormatRoundTripSpec)) fixedFormatRoundTripCard

/-- THE TIED CARD OF 'armillarylaw01.FixedMonotonicity'. -/
def fixedMonotonicityCard : Claim7 := { stood := { row := fixedMonotonicityRow, standIns := [], harness := (true, "f329670e193e0d6f71cbc1dc9e2281a2c94f24a4a08675b944128bcec20bca55"), looks := true }, kinds := [], alts := [], laidByText := true, laidKinds := [.data, .data, .data, .data, .sentinel, .sentinel, .pinned], laidTests := true, laidLooks := .later }
def FixedMonotonicityCardSaid : Prop := Claim7.holds Tryd.pinned (.plain (OpenSpec.ofChange fixedMonotonicitySpec)) fixedMonotonicityCard

/-- THE TIED CARD OF 'armillarylaw01.FixedSymmetry'. -/
def fixedSymmetryCard : Claim7 := { stood := { row := fixedSymmetryRow, standIns := [], harness := (true, "f329670e193e0d6f71cbc1dc9e2281a2c94f24a4a08675b944128bcec20bca55"), looks := true }, kinds := [], alts := [], laidByText := true, laidKinds := [.data, .data, .data, .data, .sentinel, .sentinel, .pinned], laidTests := true, laidLooks := .later }
def FixedSymmetryCardSaid : Prop := Claim7.holds Tryd.pinned (.plain (OpenSpec.ofChange fixedSymmetrySpec)) fixedSymmetryCard

/-- THE TIED CARD OF 'armillarylaw01.FixedDecimals'. -/
def fixedDecimalsCard : Claim7 := { stood := { row := fixedDecimalsRow, standIns := [], harness := (true, "f329670e193e0d6f71cbc1dc9e2281a2c94f24a4a08675b944128bcec20bca55"), looks := true }, kinds := [], alts := [], laidByText := true, laidKinds := [.data, .data, .data, .data, .sentinel, .sentinel, .pinned], laidTests := true, laidLooks := .later }
def FixedDecimalsCardSaid : Prop := Claim7.holds Tryd.pinned (.plain (OpenSpec.ofChange fixedDecimalsSpec)) fixedDecimalsCard

/-- THE SECOND FORM's CARD OF 'armillarylaw01.FixedMatchesReference'. -/
def fixedMatchesReferenceUptoCard : Claim7 := { stood := { row := fixedMatchesReferenceUptoRow, standIns := [], harness := (true, "f329670e193e0d6f71cbc1dc9e2281a2c94f24a4a08675b944128bcec20bca55"), looks := true }, kinds := [], alts := [], laidByText := true, laidKinds := [.data, .data, .data, .data, .sentinel, .sentinel, .pinned], laidTests := true, laidLooks := .later }
def FixedMatchesReferenceUptoCardSaid : Prop := Claim7.holds Tryd.pinned (.plain (OpenSpec.upto fixedMatchesReferenceSpec)) fixedMatchesReferenceUptoCard

/-- THE SECOND FORM's CARD OF 'armillarylaw01.FixedFormatMatchesReference'. -/
def fixedFormatMatchesReferenceUptoCard : Claim7 := { stood := { row := fixedFormatMatchesReferenceUptoRow, standIns := [], harness := (true, "f329670e193e0d6f71cbc1dc9e2281a2c94f24a4a08675b944128bcec20bca55"), looks := true }, kinds := [], alts := [], laidByText := true, laidKinds := [.data, .data, .data, .data, .sentinel, .sentinel, .pinned], laidTests := true, laidLooks := .later }
def FixedFormatMatchesReferenceUptoCardSaid : Prop := Claim7.holds Tryd.pinned (.plain (OpenSpec.upto fixedFormatMatchesReferenceSpec)) fixedFormatMatchesReferenceUptoCard

/-- THE SECOND FORM's CARD OF 'armillarylaw01.FixedRounding'. -/
def fixedRoundingUptoCard : Claim7 := { stood := { row := fixedRoundingUptoRow, standIns := [], harness := (true, "f329670e193e0d6f71cbc1dc9e2281a2c94f24a4a08675b944128bcec20bca55"), looks := true }, kinds := [], alts := [], laidByText := true, laidKinds := [.data, .data, .data, .data, .sentinel, .sentinel, .pinned], laidTests := true, laidLooks := .later }
def FixedRoundingUptoCardSaid : Prop := Claim7.holds Tryd.pinned (.plain (OpenSpec.upto fixedRoundingSpec)) fixedRoundingUptoCard

/-- THE SECOND FORM's CARD OF 'armillarylaw01.FixedQuotients'. -/
def fixedQuotientsUptoCard : Claim7 := { stood := { row := fixedQuotientsUptoRow, standIns := [], harness := (true, "f329670e193e0d6f71cbc1dc9e2281a2c94f24a4a08675b944128bcec20bca55"), looks := true }, kinds := [], alts := [], laidByText := true, laidKinds := [.data, .data, .data, .data, .sentinel, .sentinel, .pinned], laidTests := true, laidLooks := .later }
def FixedQuotientsUptoCardSaid : Prop := Claim7.holds Tryd.pinned (.plain (OpenSpec.upto fixedQuotientsSpec)) fixedQuotientsUptoCard

/-- THE SECOND FORM's CARD OF 'armillarylaw01.FixedRoots'. -/
def fixedRootsUptoCard : Claim7 := { stood := { row := fixedRootsUptoRow, standIns := [], harness := (true, "f329670e193e0d6f71cbc1dc9e2281a2c94f24a4a08675b944128bcec20bca55"), looks := true }, kinds := [], alts := [], laidByText := true, laidKinds := [.data, .data, .data, .data, .sentinel, .sentinel, .pinned], laidTests := true, laidLooks := .later }
def FixedRootsUptoCardSaid : Prop := Claim7.holds Tryd.pinned (.plain (OpenSpec.upto fixedRootsSpec)) fixedRootsUptoCard

/-- THE SECOND FORM's CARD OF 'armillarylaw01.FixedFormatRoundTrip'. -/
def fixedFormatRoundTripUptoCard : Claim7 := { stood := { row := fixedFormatRoundTripUptoRow, standIns := [], harness := (true, "f329670e193e0d6f71cbc1dc9e2281a2c94f24a4a08675b944128bcec20bca55"), looks := true }, kinds := [], alts := [], laidByText := true, laidKinds := [.data, .data, .data, .data, .sentinel, .sentinel, .pinned], laidTests := true, laidLooks := .later }
def FixedFormatRoundTripUptoCardSaid : Prop := Claim7.holds Tryd.pinned (.plain (OpenSpec.upto fixedFormatRoundTripSpec)) fixedFormatRoundTripUptoCard

/-- THE SECOND FORM's CARD OF 'armillarylaw01.FixedMonotonicity'. -/
def fixedMonotonicityUptoCard : Claim7 := { stood := { row := fixedMonotonicityUptoRow, standIns := [], harness := (true, "f329670e193e0d6f71cbc1dc9e2281a2c94f24a4a08675b944128bcec20bca55"), looks := true }, kinds := [], alts := [], laidByText := true, laidKinds := [.data, .data, .data, .data, .sentinel, .sentinel, .pinned], laidTests := true, laidLooks := .later }
def FixedMonotonicityUptoCardSaid : Prop := Claim7.holds Tryd.pinned (.plain (OpenSpec.upto fixedMonotonicitySpec)) fixedMonotonicityUptoCard

/-- THE SECOND FORM's CARD OF 'armillarylaw01.FixedSymmetry'. -/
def fixedSymmetryUptoCard : Claim7 := { stood := { row := fixedSymmetryUptoRow, standIns := [], harness := (true, "f329670e193e0d6f71cbc1dc9e2281a2c94f24a4a08675b944128bcec20bca55"), looks := true }, kinds := [], alts := [], laidByText := true, laidKinds := [.data, .data, .data, .data, .sentinel, .sentinel, .pinned], laidTests := true, laidLooks := .later }
def FixedSymmetryUptoCardSaid : Prop := Claim7.holds Tryd.pinned (.plain (OpenSpec.upto fixedSymmetrySpec)) fixedSymmetryUptoCard

/-- THE SECOND FORM's CARD OF 'armillarylaw01.FixedDecimals'. -/
def fixedDecimalsUptoCard : Claim7 := { stood := { row := fixedDecimalsUptoRow, standIns := [], harness := (true, "f329670e193e0d6f71cbc1dc9e2281a2c94f24a4a08675b944128bcec20bca55"), looks := true }, kinds := [], alts := [], laidByText := true, laidKinds := [.data, .data, .data, .data, .sentinel, .sentinel, .pinned], laidTests := true, laidLooks := .later }
def FixedDecimalsUptoCardSaid : Prop := Claim7.holds Tryd.pinned (.plain (OpenSpec.upto fixedDecimalsSpec)) fixedDecimalsUptoCard
end Rows
end Go.Proofs.YtbijolohpfkihaaDoor
