/-
  DERIVED. GIVEN WITH THE SEED: THE CARDS: each row of YthejgholpkeldaaGreatDoorRows.lean that lists a variable, with what it lists TIED to the program's text (the seventh form; the later family's looks); each row that meets fmt, with fmt's text TOLD by the authors' own Lean function (tested against real Go, not proved from fmt's source: count such statements apart). THE CARD IS WHAT COUNTS. Prove the row's statement (the work); the ties are given (YthejgholpkeldaaGreatDoorTie.lean); close each card by the builder's one call (the guide's Derived/Test/ToyasCard.lean, 'card_holds'). Laid BY PROGRAM, IN A SANDBOX (cutbox-door.mjs). By AI agents, Wed Nov 11 2026. No macro, syntax, notation, axiom, sorry.
-/
import Derived.Test.YthejgholpkeldaaGreatDoorRows
import GoSem.ClaimSeven
namespace Go.Proofs.YthejgholpkeldaaGreatDoor
namespace Rows

/-- THE TIED CARD OF 'timetablelaw12.RequestsMade'. -/
def requestsMadeCard : Claim7 := { stood := { row := requestsMadeRow, standIns := [], harness := (true, "d6257e3acf47e5114d18fd968d36ef095e9e7b9b569f9d86b00ac9f4b808e357"), looks := true }, kinds := [], alts := [], laidByText := true, laidKinds := [.data, .data, .data, .widerDeep, .data, .sentinel, .sentinel, .pinned], laidTests := true, laidLooks := .later }
def RequestsMadeCardSaid : Prop := Claim7.holds Tryz.pinned (.plain (OpenSpec.ofChange requestsMadeSpec)) requestsMadeCard

/-- THE TIED CARD OF 'timetablelaw12.RequestsReturns'. -/
def requestsReturnsCard : Claim7 := { stood := { row := requestsReturnsRow, standIns := [], harness := (true, "d6257e3acf47e5114d18fd968d36ef095e9e7b9b569f9d86b00ac9f4b808e357"), looks := true }, kinds := [], alts := [], laidByText := true, laidKinds := [.data, .data, .data, .widerDeep, .data, .sentinel, .sentinel, .pinned], laidTests := true, laidLooks := .later }
def RequestsReturnsCardSaid : Prop := Claim7.holds Tryz.pinned (.plain (OpenSpec.ofChange requestsReturnsSpec)) requestsReturnsCard

/-- THE SECOND FORM's CARD OF 'timetablelaw12.RequestsMade'. -/
def requestsMadeUptoCard : Claim7 := { stood := { row := requestsMadeUptoRow, standIns := [], harness := (true, "d6257e3acf47e5114d18fd968d36ef095e9e7b9b569f9d86b00ac9f4b808e357"), looks := true }, kinds := [], alts := [], laidByText := true, laidKinds := [.data, .data, .data, .widerDeep, .data, .sentinel, .sentinel, .pinned], laidTests := true, laidLooks := .later }
def RequestsMadeUptoCardSaid : Prop := Claim7.holds Tryz.pinned (.plain (OpenSpec.upto requestsMadeSpec)) requestsMadeUptoCard

/-- THE SECOND FORM's CARD OF 'timetablelaw12.RequestsReturns'. -/
def requestsReturnsUptoCard : Claim7 := { stood := { row := requestsReturnsUptoRow, standIns := [], harness := (true, "d6257e3acf47e5114d18fd968d36ef095e9e7b9b569f9d86b00ac9f4b808e357"), looks := true }, kinds := [], alts := [], laidByText := true, laidKinds := [.data, .data, .data, .widerDeep, .data, .sentinel, .sentinel, .pinned], laidTests := true, laidLooks := .later }
def RequestsReturnsUptoCardSaid : Prop := Claim7.holds Tryz.pinned (.plain (OpenSpec.upto requestsReturnsSpec)) requestsReturnsUptoCard
end Rows
end Go.Proofs.YthejgholpkeldaaGreatDoor
