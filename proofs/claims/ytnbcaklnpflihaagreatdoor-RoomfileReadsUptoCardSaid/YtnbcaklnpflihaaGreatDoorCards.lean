/-
  DERIVED. GIVEN WITH THE SEED: THE CARDS: each row of YtnbcaklnpflihaaGreatDoorRows.lean that lists a variable, with what it lists TIED to the program's text (the seventh form; the later family's looks); each row that meets fmt, with fmt's text TOLD by the authors' own Lean function (tested against real Go, not proved from fmt's source: count such statements apart). THE CARD IS WHAT COUNTS. Prove the row's statement (the work); the ties are given (YtnbcaklnpflihaaGreatDoorTie.lean); close each card by the builder's one call (the guide's Derived/Test/ToyasCard.lean, 'card_holds'). Laid BY PROGRAM, IN A SANDBOX (cutbox-door.mjs). By AI agents, Wed Nov 11 2026. No macro, syntax, notation, axiom, sorry.
-/
import Derived.Test.YtnbcaklnpflihaaGreatDoorRows
import GoSem.ClaimSeven
namespace Go.Proofs.YtnbcaklnpflihaaGreatDoor
namespace Rows

/-- THE TIED CARD OF 'timetablelaw07.RoomfileReads'. -/
def roomfileReadsCard : Claim7 := { stood := { row := roomfileReadsRow, standIns := [], harness := (true, "6a74755ff7259c62ec55ec96fbf9c5b6c8ad3948287dfd1733b7c968fdf4dc88"), looks := true }, kinds := [], alts := [], laidByText := true, laidKinds := [.data, .data, .data, .data, .data, .data, .sentinel, .sentinel, .pinned], laidTests := true, laidLooks := .later }
def RoomfileReadsCardSaid : Prop := Claim7.holds Tryz.pinned (.plain (OpenSpec.ofChange roomfileReadsSpec)) roomfileReadsCard

/-- THE TIED CARD OF 'timetablelaw07.RoomfileValid'. -/
def roomfileValidCard : Claim7 := { stood := { row := roomfileValidRow, standIns := [], harness := (true, "6a74755ff7259c62ec55ec96fbf9c5b6c8ad3948287dfd1733b7c968fdf4dc88"), looks := true }, kinds := [], alts := [], laidByText := true, laidKinds := [.data, .data, .data, .data, .data, .data, .sentinel, .sentinel, .pinned], laidTests := true, laidLooks := .later }
def RoomfileValidCardSaid : Prop := Claim7.holds Tryz.pinned (.plain (OpenSpec.ofChange roomfileValidSpec)) roomfileValidCard

/-- THE SECOND FORM's CARD OF 'timetablelaw07.RoomfileReads'. -/
def roomfileReadsUptoCard : Claim7 := { stood := { row := roomfileReadsUptoRow, standIns := [], harness := (true, "6a74755ff7259c62ec55ec96fbf9c5b6c8ad3948287dfd1733b7c968fdf4dc88"), looks := true }, kinds := [], alts := [], laidByText := true, laidKinds := [.data, .data, .data, .data, .data, .data, .sentinel, .sentinel, .pinned], laidTests := true, laidLooks := .later }
def RoomfileReadsUptoCardSaid : Prop := Claim7.holds Tryz.pinned (.plain (OpenSpec.upto roomfileReadsSpec)) roomfileReadsUptoCard

/-- THE SECOND FORM's CARD OF 'timetablelaw07.RoomfileValid'. -/
def roomfileValidUptoCard : Claim7 := { stood := { row := roomfileValidUptoRow, standIns := [], harness := (true, "6a74755ff7259c62ec55ec96fbf9c5b6c8ad3948287dfd1733b7c968fdf4dc88"), looks := true }, kinds := [], alts := [], laidByText := true, laidKinds := [.data, .data, .data, .data, .data, .data, .sentinel, .sentinel, .pinned], laidTests := true, laidLooks := .later }
def RoomfileValidUptoCardSaid : Prop := Claim7.holds Tryz.pinned (.plain (OpenSpec.upto roomfileValidSpec)) roomfileValidUptoCard
end Rows
end Go.Proofs.YtnbcaklnpflihaaGreatDoor
