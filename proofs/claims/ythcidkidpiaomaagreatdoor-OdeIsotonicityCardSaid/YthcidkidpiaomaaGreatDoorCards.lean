/-
  DERIVED. GIVEN WITH THE SEED: THE CARDS: each row of YthcidkidpiaomaaGreatDoorRows.lean that lists a variable, with what it lists TIED to the program's text (the seventh form; the later family's looks); each row that meets fmt, with fmt's text TOLD by the authors' own Lean function (tested against real Go, not proved from fmt's source: count such statements apart). THE CARD IS WHAT COUNTS. Prove the row's statement (the work); the ties are given (YthcidkidpiaomaaGreatDoorTie.lean); close each card by the builder's one call (the guide's Derived/Test/ToyasCard.lean, 'card_holds'). Laid BY PROGRAM, IN A SANDBOX (cutbox-door.mjs). By AI agents, Wed Nov 11 2026. No macro, syntax, notation, axiom, sorry.
-/
import Derived.Test.YthcidkidpiaomaaGreatDoorRows
import GoSem.ClaimSeven
namespace Go.Proofs.YthcidkidpiaomaaGreatDoor
namespace Rows

/-- THE TIED CARD OF 'armillarylaw07.OdeMatchesReference'. -/
def odeMatchesReferenceCard : Claim7 := { stood := { row := odeMatchesReferenceRow, standIns := [], harness := (true, "c40965aa0f18b5e47d4b79d62624d7c8caa861ae88bca8b09137928ac74fb35b"), looks := true }, kinds := [], alts := [], laidByText := true, laidKinds := [.data, .data, .data, .data, .sentinel, .sentinel, .funcs, .funcs, .pinned], laidTests := true, laidLooks := .later }
def OdeMatchesReferenceCardSaid : Prop := Claim7.holds Tryz.pinned (.plain (OpenSpec.ofChange odeMatchesReferenceSpec)) odeMatchesReferenceCard

/-- THE TIED CARD OF 'armillarylaw07.OdeParseMatchesReference'. -/
def odeParseMatchesReferenceCard : Claim7 := { stood := { row := odeParseMatchesReferenceRow, standIns := [], harness := (true, "c40965aa0f18b5e47d4b79d62624d7c8caa861ae88bca8b09137928ac74fb35b"), looks := true }, kinds := [], alts := [], laidByText := true, laidKinds := [.data, .data, .data, .data, .sentinel, .sentinel, .funcs, .funcs, .pinned], laidTests := true, laidLooks := .later }
def OdeParseMatchesReferenceCardSaid : Prop := Claim7.holds Tryz.pinned (.plain (OpenSpec.ofChange odeParseMatchesReferenceSpec)) odeParseMatchesReferenceCard

/-- THE TIED CARD OF 'armillarylaw07.OdeFormatRoundTrip'. -/
def odeFormatRoundTripCard : Claim7 := { stood := { row := odeFormatRoundTripRow, standIns := [], harness := (true, "c40965aa0f18b5e47d4b79d62624d7c8caa861ae88bca8b09137928ac74fb35b"), looks := true }, kinds := [], alts := [], laidByText := true, laidKinds := [.data, .data, .data, .data, .sentinel, .sentinel, .funcs, .funcs, .pinned], laidTests := true, laidLooks := .later }
def OdeFormatRoundTripCardSaid : Prop := Claim7.holds Tryz.pinned (.plain (OpenSpec.ofChange odeFormatRoundTripSpec)) odeFormatRoundTripCard

/-- THE TIED CARD OF 'armillarylaw07.OdeParseResult'. -/
def odeParseResultCard : Claim7 := { stood := { row := odeParseResultRow, standIns := [], harness := (true, "c40965aa0f18b5e47d4b79d62624d7c8caa861ae88bca8b09137928ac74fb35b"), looks := true }, kinds := [], alts := [], laidByText := true, laidKinds := [.data, .data, .data, .data, .sentinel, .sentinel, .funcs, .funcs, .pinned], laidTests := true, laidLooks := .later }
def OdeParseResultCardSaid : Prop := Claim7.holds Tryz.pinned (.plain (OpenSpec.ofChange odeParseResultSpec)) odeParseResultCard

/-- THE TIED CARD OF 'armillarylaw07.OdePrecedence'. -/
def odePrecedenceCard : Claim7 := { stood := { row := odePrecedenceRow, standIns := [], harness := (true, "c40965aa0f18b5e47d4b79d62624d7c8caa861ae88bca8b09137928ac74fb35b"), looks := true }, kinds := [], alts := [], laidByText := true, laidKinds := [.data, .data, .data, .data, .sentinel, .sentinel, .funcs, .funcs, .pinned], laidTests := true, laidLooks := .later }
def OdePrecedenceCardSaid : Prop := Claim7.holds Tryz.pinned (.plain (OpenSpec.ofChange odePrecedenceSpec)) odePrecedenceCard

/-- THE TIED CARD OF 'armillarylaw07.OdeIsotonicity'. -/
def odeIsotonicityCard : Claim7 := { stood := { row := odeIsotonicityRow, standIns := [], harness := (true, "c40965aa0f18b5e47d4b79d62624d7c8caa861ae88bca8b09137928ac74fb35b"), looks := true }, kinds := [], alts := [], laidByText := true, laidKinds := [.data, .data, .data, .data, .sentinel, .sentinel, .funcs, .funcs, .pinned], laidTests := true, laidLooks := .later }
def OdeIsotonicityCardSaid : Prop := Claim7.holds Tryz.pinned (.plain (OpenSpec.ofChange odeIsotonicitySpec)) odeIsotonicityCard

/-- THE TIED CARD OF 'armillarylaw07.OdeRenaming'. -/
def odeRenamingCard : Claim7 := { stood := { row := odeRenamingRow, standIns := [], harness := (true, "c40965aa0f18b5e47d4b79d62624d7c8caa861ae88bca8b09137928ac74fb35b"), looks := true }, kinds := [], alts := [], laidByText := true, laidKinds := [.data, .data, .data, .data, .sentinel, .sentinel, .funcs, .funcs, .pinned], laidTests := true, laidLooks := .later }
def OdeRenamingCardSaid : Prop := Claim7.holds Tryz.pinned (.plain (OpenSpec.ofChange odeRenamingSpec)) odeRenamingCard

/-- THE TIED CARD OF 'armillarylaw07.OdeLineOrder'. -/
def odeLineOrderCard : Claim7 := { stood := { row := odeLineOrderRow, standIns := [], harness := (true, "c40965aa0f18b5e47d4b79d62624d7c8caa861ae88bca8b09137928ac74fb35b"), looks := true }, kinds := [], alts := [], laidByText := true, laidKinds := [.data, .data, .data, .data, .sentinel, .sentinel, .funcs, .funcs, .pinned], laidTests := true, laidLooks := .later }
def OdeLineOrderCardSaid : Prop := Claim7.holds Tryz.pinned (.plain (OpenSpec.ofChange odeLineOrderSpec)) odeLineOrderCard

/-- THE TIED CARD OF 'armillarylaw07.OdeConstants'. -/
def odeConstantsCard : Claim7 := { stood := { row := odeConstantsRow, standIns := [], harness := (true, "c40965aa0f18b5e47d4b79d62624d7c8caa861ae88bca8b09137928ac74fb35b"), looks := true }, kinds := [], alts := [], laidByText := true, laidKinds := [.data, .data, .data, .data, .sentinel, .sentinel, .funcs, .funcs, .pinned], laidTests := true, laidLooks := .later }
def OdeConstantsCardSaid : Prop := Claim7.holds Tryz.pinned (.plain (OpenSpec.ofChange odeConstantsSpec)) odeConstantsCard

/-- THE SECOND FORM's CARD OF 'armillarylaw07.OdeMatchesReference'. -/
def odeMatchesReferenceUptoCard : Claim7 := { stood := { row := odeMatchesReferenceUptoRow, standIns := [], harness := (true, "c40965aa0f18b5e47d4b79d62624d7c8caa861ae88bca8b09137928ac74fb35b"), looks := true }, kinds := [], alts := [], laidByText := true, laidKinds := [.data, .data, .data, .data, .sentinel, .sentinel, .funcs, .funcs, .pinned], laidTests := true, laidLooks := .later }
def OdeMatchesReferenceUptoCardSaid : Prop := Claim7.holds Tryz.pinned (.plain (OpenSpec.upto odeMatchesReferenceSpec)) odeMatchesReferenceUptoCard

/-- THE SECOND FORM's CARD OF 'armillarylaw07.OdeParseMatchesReference'. -/
def odeParseMatchesReferenceUptoCard : Claim7 := { stood := { row := odeParseMatchesReferenceUptoRow, standIns := [], harness := (true, "c40965aa0f18b5e47d4b79d62624d7c8caa861ae88bca8b09137928ac74fb35b"), looks := true }, kinds := [], alts := [], laidByText := true, laidKinds := [.data, .data, .data, .data, .sentinel, .sentinel, .funcs, .funcs, .pinned], laidTests := true, laidLooks := .later }
def OdeParseMatchesReferenceUptoCardSaid : Prop := Claim7.holds Tryz.pinned (.plain (OpenSpec.upto odeParseMatchesReferenceSpec)) odeParseMatchesReferenceUptoCard

/-- THE SECOND FORM's CARD OF 'armillarylaw07.OdeFormatRoundTrip'. -/
def odeFormatRoundTripUptoCard : Claim7 := { stood := { row := odeFormatRoundTripUptoRow, standIns := [], harness := (true, "c40965aa0f18b5e47d4b79d62624d7c8caa861ae88bca8b09137928ac74fb35b"), looks := true }, kinds := [], alts := [], laidByText := true, laidKinds := [.data, .data, .data, .data, .sentinel, .sentinel, .funcs, .funcs, .pinned], laidTests := true, laidLooks := .later }
def OdeFormatRoundTripUptoCardSaid : Prop := Claim7.holds Tryz.pinned (.plain (OpenSpec.upto odeFormatRoundTripSpec)) odeFormatRoundTripUptoCard

/-- THE SECOND FORM's CARD OF 'armillarylaw07.OdeParseResult'. -/
def odeParseResultUptoCard : Claim7 := { stood := { row := odeParseResultUptoRow, standIns := [], harness := (true, "c40965aa0f18b5e47d4b79d62624d7c8caa861ae88bca8b09137928ac74fb35b"), looks := true }, kinds := [], alts := [], laidByText := true, laidKinds := [.data, .data, .data, .data, .sentinel, .sentinel, .funcs, .funcs, .pinned], laidTests := true, laidLooks := .later }
def OdeParseResultUptoCardSaid : Prop := Claim7.holds Tryz.pinned (.plain (OpenSpec.upto odeParseResultSpec)) odeParseResultUptoCard

/-- THE SECOND FORM's CARD OF 'armillarylaw07.OdePrecedence'. -/
def odePrecedenceUptoCard : Claim7 := { stood := { row := odePrecedenceUptoRow, standIns := [], harness := (true, "c40965aa0f18b5e47d4b79d62624d7c8caa861ae88bca8b09137928ac74fb35b"), looks := true }, kinds := [], alts := [], laidByText := true, laidKinds := [.data, .data, .data, .data, .sentinel, .sentinel, .funcs, .funcs, .pinned], laidTests := true, laidLooks := .later }
def OdePrecedenceUptoCardSaid : Prop := Claim7.holds Tryz.pinned (.plain (OpenSpec.upto odePrecedenceSpec)) odePrecedenceUptoCard

/-- THE SECOND FORM's CARD OF 'armillarylaw07.OdeIsotonicity'. -/
def odeIsotonicityUptoCard : Claim7 := { stood := { row := odeIsotonicityUptoRow, standIns := [], harness := (true, "c40965aa0f18b5e47d4b79d62624d7c8caa861ae88bca8b09137928ac74fb35b"), looks := true }, kinds := [], alts := [], laidByText := true, laidKinds := [.data, .data, .data, .data, .sentinel, .sentinel, .funcs, .funcs, .pinned], laidTests := true, laidLooks := .later }
def OdeIsotonicityUptoCardSaid : Prop := Claim7.holds Tryz.pinned (.plain (OpenSpec.upto odeIsotonicitySpec)) odeIsotonicityUptoCard

/-- THE SECOND FORM's CARD OF 'armillarylaw07.OdeRenaming'. -/
def odeRenamingUptoCard : Claim7 := { stood := { row := odeRenamingUptoRow, standIns := [], harness := (true, "c40965aa0f18b5e47d4b79d62624d7c8caa861ae88bca8b09137928ac74fb35b"), looks := true }, kinds := [], alts := [], laidByText := true, laidKinds := [.data, .data, .data, .data, .sentinel, .sentinel, .funcs, .funcs, .pinned], laidTests := true, laidLooks := .later }
def OdeRenamingUptoCardSaid : Prop := Claim7.holds Tryz.pinned (.plain (OpenSpec.upto odeRenamingSpec)) odeRenamingUptoCard

/-- THE SECOND FORM's CARD OF 'armillarylaw07.OdeLineOrder'. -/
def odeLineOrderUptoCard : Claim7 := { stood := { row := odeLineOrderUptoRow, standIns := [], harness := (true, "c40965aa0f18b5e47d4b79d62624d7c8caa861ae88bca8b09137928ac74fb35b"), looks := true }, kinds := [], alts := [], laidByText := true, laidKinds := [.data, .data, .data, .data, .sentinel, .sentinel, .funcs, .funcs, .pinned], laidTests := true, laidLooks := .later }
def OdeLineOrderUptoCardSaid : Prop := Claim7.holds Tryz.pinned (.plain (OpenSpec.upto odeLineOrderSpec)) odeLineOrderUptoCard

/-- THE SECOND FORM's CARD OF 'armillarylaw07.OdeConstants'. -/
def odeConstantsUptoCard : Claim7 := { stood := { row := odeConstantsUptoRow, standIns := [], harness := (true, "c40965aa0f18b5e47d4b79d62624d7c8caa861ae88bca8b09137928ac74fb35b"), looks := true }, kinds := [], alts := [], laidByText := true, laidKinds := [.data, .data, .data, .data, .sentinel, .sentinel, .funcs, .funcs, .pinned], laidTests := true, laidLooks := .later }
def OdeConstantsUptoCardSaid : Prop := Claim7.holds Tryz.pinned (.plain (OpenSpec.upto odeConstantsSpec)) odeConstantsUptoCard
end Rows
end Go.Proofs.YthcidkidpiaomaaGreatDoor
