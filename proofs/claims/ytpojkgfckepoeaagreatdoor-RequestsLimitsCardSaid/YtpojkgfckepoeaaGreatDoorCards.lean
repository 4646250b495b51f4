/-
  DERIVED. GIVEN WITH THE SEED: THE CARDS: each row of YtpojkgfckepoeaaGreatDoorRows.lean that lists a variable, with what it lists TIED to the program's text (the seventh form; the later family's looks); each row that meets fmt, with fmt's text TOLD by the authors' own Lean function (tested against real Go, not proved from fmt's source: count such statements apart). THE CARD IS WHAT COUNTS. Prove the row's statement (the work); the ties are given (YtpojkgfckepoeaaGreatDoorTie.lean); close each card by the builder's one call (the guide's Derived/Test/ToyasCard.lean, 'card_holds'). Laid BY PROGRAM, IN A SANDBOX (cutbox-door.mjs). By AI agents, Wed Nov 11 2026. No macro, syntax, notation, axiom, sorry.
-/
import Derived.Test.YtpojkgfckepoeaaGreatDoorRows
import GoSem.ClaimSeven
namespace Go.Proofs.YtpojkgfckepoeaaGreatDoor
namespace Rows

/-- THE TIED CARD OF 'timetablelaw12.RequestsExact'. -/
def requestsExactCard : Claim7 := { stood := { row := requestsExactRow, standIns := [], harness := (true, "6610132a824beee1f0b32ca65382e0d876e29f9ad185f47ff03ac2913c28b3d3"), looks := true }, kinds := [], alts := [], laidByText := true, laidKinds := [.data, .data, .data, .data, .sentinel, .sentinel, .pinned], laidTests := true, laidLooks := .later }
def RequestsExactCardSaid : Prop := Claim7.holds Tryz.pinned (.plain (OpenSpec.ofChange requestsExactSpec)) requestsExactCard

/-- THE TIED CARD OF 'timetablelaw12.RequestsMade'. -/
def requestsMadeCard : Claim7 := { stood := { row := requestsMadeRow, standIns := [], harness := (true, "6610132a824beee1f0b32ca65382e0d876e29f9ad185f47ff03ac2913c28b3d3"), looks := true }, kinds := [], alts := [], laidByText := true, laidKinds := [.data, .data, .data, .widerDeep, .data, .sentinel, .sentinel, .pinned], laidTests := true, laidLooks := .later }
def RequestsMadeCardSaid : Prop := Claim7.holds Tryz.pinned (.plain (OpenSpec.ofChange requestsMadeSpec)) requestsMadeCard

/-- THE TIED CARD OF 'timetablelaw12.RequestsReturns'. -/
def requestsReturnsCard : Claim7 := { stood := { row := requestsReturnsRow, standIns := [], harness := (true, "6610132a824beee1f0b32ca65382e0d876e29f9ad185f47ff03ac2913c28b3d3"), looks := true }, kinds := [], alts := [], laidByText := true, laidKinds := [.data, .data, .data, .widerDeep, .data, .sentinel, .sentinel, .pinned], laidTests := true, laidLooks := .later }
def RequestsReturnsCardSaid : Prop := Claim7.holds Tryz.pinned (.plain (OpenSpec.ofChange requestsReturnsSpec)) requestsReturnsCard

/-- THE TIED CARD OF 'timetablelaw12.RequestsLimits'. -/
def requestsLimitsCard : Claim7 := { stood := { row := requestsLimitsRow, standIns := [], harness := (true, "6610132a824beee1f0b32ca65382e0d876e29f9ad185f47ff03ac2913c28b3d3"), looks := true }, kinds := [], alts := [], laidByText := true, laidKinds := [.data, .data, .data, .data, .sentinel, .sentinel, .pinned], laidTests := true, laidLooks := .later }
def RequestsLimitsCardSaid : Prop := Claim7.holds Tryz.pinned (.plain (OpenSpec.ofChange requestsLimitsSpec)) requestsLimitsCard

/-- THE SECOND FORM's CARD OF 'timetablelaw12.RequestsExact'. -/
def requestsExactUptoCard : Claim7 := { stood := { row := requestsExactUptoRow, standIns := [], harness := (true, "6610132a824beee1f0b32ca65382e0d876e29f9ad185f47ff03ac2913c28b3d3"), looks := true }, kinds := [], alts := [], laidByText := true, laidKinds := [.data, .data, .data, .data, .sentinel, .sentinel, .pinned], laidTests := true, laidLooks := .later }
def RequestsExactUptoCardSaid : Prop := Claim7.holds Tryz.pinned (.plain (OpenSpec.upto requestsExactSpec)) requestsExactUptoCard

/-- THE SECOND FORM's CARD OF 'timetablelaw12.RequestsMade'. -/
def requestsMadeUptoCard : Claim7 := { stood := { row := requestsMadeUptoRow, standIns := [], harness := (true, "6610132a824beee1f0b32ca65382e0d876e29f9ad185f47ff03ac2913c28b3d3"), looks := true }, kinds := [], alts := [], laidByText := true, laidKinds := [.data, .data, .data, .widerDeep, .data, .sentinel, .sentinel, .pinned], laidTests := true, laidLooks := .later }
def RequestsMadeUptoCardSaid : Prop := Claim7.holds Tryz.pinned (.plain (OpenSpec.upto requestsMadeSpec)) requestsMadeUptoCard

/-- THE SECOND FORM's CARD OF 'timetablelaw12.RequestsReturns'. -/
def requestsReturnsUptoCard : Claim7 := { stood := { row := requestsReturnsUptoRow, standIns := [], harness := (true, "6610132a824beee1f0b32ca65382e0d876e29f9ad185f47ff03ac2913c28b3d3"), looks := true }, kinds := [], alts := [], laidByText := true, laidKinds := [.data, .data, .data, .widerDeep, .data, .sentinel, .sentinel, .pinned], laidTests := true, laidLooks := .later }
def RequestsReturnsUptoCardSaid : Prop := Claim7.holds Tryz.pinned (.plain (OpenSpec.upto requestsReturnsSpec)) requestsReturnsUptoCard

/-- THE SECOND FORM's CARD OF 'timetablelaw12.RequestsLimits'. -/
def requestsLimitsUptoCard : Claim7 := { stood := { row := requestsLimitsUptoRow, standIns := [], harness := (true, "6610132a824beee1f0b32ca65382e0d876e29f9ad185f47ff03ac2913c28b3d3"), looks := true }, kinds := [], alts := [], laidByText := true, laidKinds := [.data, .data, .data, .data, .sentinel, .sentinel, .pinned], laidTests := true, laidLooks := .later }
def RequestsLimitsUptoCardSaid : Prop := Claim7.holds Tryz.pinned (.plain (OpenSpec.upto requestsLimitsSpec)) requestsLimitsUptoCard
end Rows
end Go.Proofs.YtpojkgfckepoeaaGreatDoor
