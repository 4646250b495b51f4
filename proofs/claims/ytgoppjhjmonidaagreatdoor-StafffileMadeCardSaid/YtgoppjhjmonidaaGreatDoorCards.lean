/-
  DERIVED. GIVEN WITH THE SEED: THE CARDS: each row of YtgoppjhjmonidaaGreatDoorRows.lean that lists a variable, with what it lists TIED to the program's text (the seventh form; the later family's looks); each row that meets fmt, with fmt's text TOLD by the authors' own Lean function (tested against real Go, not proved from fmt's source: count such statements apart). THE CARD IS WHAT COUNTS. Prove the row's statement (the work); the ties are given (YtgoppjhjmonidaaGreatDoorTie.lean); close each card by the builder's one call (the guide's Derived/Test/ToyasCard.lean, 'card_holds'). Laid BY PROGRAM, IN A SANDBOX (cutbox-door.mjs). By AI agents, Wed Nov 11 2026. No macro, syntax, notation, axiom, sorry.
-/
import Derived.Test.YtgoppjhjmonidaaGreatDoorRows
import GoSem.ClaimSeven
namespace Go.Proofs.YtgoppjhjmonidaaGreatDoor
namespace Rows

/-- THE TIED CARD OF 'timetablelaw08.TravelReads'. -/
def travelReadsCard : Claim7 := { stood := { row := travelReadsRow, standIns := [], harness := (true, "dee29da00ef880189ecccca58d676e5edd5ee235bc50ea92e61a066614da34db"), looks := true }, kinds := [], alts := [], laidByText := true, laidKinds := [.data, .data, .data, .data, .sentinel, .sentinel, .pinned], laidTests := true, laidLooks := .later }
def TravelReadsCardSaid : Prop := Claim7.holds Tryz.pinned (.plain (OpenSpec.ofChange travelReadsSpec)) travelReadsCard

/-- THE TIED CARD OF 'timetablelaw09.StafffileValid'. -/
def stafffileValidCard : Claim7 := { stood := { row := stafffileValidRow, standIns := [], harness := (true, "dee29da00ef880189ecccca58d676e5edd5ee235bc50ea92e61a066614da34db"), looks := true }, kinds := [], alts := [], laidByText := true, laidKinds := [.data, .data, .data, .data, .data, .data, .sentinel, .sentinel, .pinned], laidTests := true, laidLooks := .later }
def StafffileValidCardSaid : Prop := Claim7.holds Tryz.pinned (.plain (OpenSpec.ofChange stafffileValidSpec)) stafffileValidCard

/-- THE TIED CARD OF 'timetablelaw09.StafffileMade'. -/
def stafffileMadeCard : Claim7 := { stood := { row := stafffileMadeRow, standIns := [], harness := (true, "dee29da00ef880189ecccca58d676e5edd5ee235bc50ea92e61a066614da34db"), looks := true }, kinds := [], alts := [], laidByText := true, laidKinds := [.data, .data, .data, .data, .data, .data, .data, .sentinel, .sentinel, .pinned], laidTests := true, laidLooks := .later }
def StafffileMadeCardSaid : Prop := Claim7.holds Tryz.pinned (.plain (OpenSpec.ofChange stafffileMadeSpec)) stafffileMadeCard

/-- THE TIED CARD OF 'timetablelaw09.StafffileReturns'. -/
def stafffileReturnsCard : Claim7 := { stood := { row := stafffileReturnsRow, standIns := [], harness := (true, "dee29da00ef880189ecccca58d676e5edd5ee235bc50ea92e61a066614da34db"), looks := true }, kinds := [], alts := [], laidByText := true, laidKinds := [.data, .data, .data, .data, .data, .sentinel, .sentinel, .pinned], laidTests := true, laidLooks := .later }
def StafffileReturnsCardSaid : Prop := Claim7.holds Tryz.pinned (.plain (OpenSpec.ofChange stafffileReturnsSpec)) stafffileReturnsCard

/-- THE SECOND FORM's CARD OF 'timetablelaw08.TravelReads'. -/
def travelReadsUptoCard : Claim7 := { stood := { row := travelReadsUptoRow, standIns := [], harness := (true, "dee29da00ef880189ecccca58d676e5edd5ee235bc50ea92e61a066614da34db"), looks := true }, kinds := [], alts := [], laidByText := true, laidKinds := [.data, .data, .data, .data, .sentinel, .sentinel, .pinned], laidTests := true, laidLooks := .later }
def TravelReadsUptoCardSaid : Prop := Claim7.holds Tryz.pinned (.plain (OpenSpec.upto travelReadsSpec)) travelReadsUptoCard

/-- THE SECOND FORM's CARD OF 'timetablelaw09.StafffileValid'. -/
def stafffileValidUptoCard : Claim7 := { stood := { row := stafffileValidUptoRow, standIns := [], harness := (true, "dee29da00ef880189ecccca58d676e5edd5ee235bc50ea92e61a066614da34db"), looks := true }, kinds := [], alts := [], laidByText := true, laidKinds := [.data, .data, .data, .data, .data, .data, .sentinel, .sentinel, .pinned], laidTests := true, laidLooks := .later }
def StafffileValidUptoCardSaid : Prop := Claim7.holds Tryz.pinned (.plain (OpenSpec.upto stafffileValidSpec)) stafffileValidUptoCard

/-- THE SECOND FORM's CARD OF 'timetablelaw09.StafffileMade'. -/
def stafffileMadeUptoCard : Claim7 := { stood := { row := stafffileMadeUptoRow, standIns := [], harness := (true, "dee29da00ef880189ecccca58d676e5edd5ee235bc50ea92e61a066614da34db"), looks := true }, kinds := [], alts := [], laidByText := true, laidKinds := [.data, .data, .data, .data, .data, .data, .data, .sentinel, .sentinel, .pinned], laidTests := true, laidLooks := .later }
def StafffileMadeUptoCardSaid : Prop := Claim7.holds Tryz.pinned (.plain (OpenSpec.upto stafffileMadeSpec)) stafffileMadeUptoCard

/-- THE SECOND FORM's CARD OF 'timetablelaw09.StafffileReturns'. -/
def stafffileReturnsUptoCard : Claim7 := { stood := { row := stafffileReturnsUptoRow, standIns := [], harness := (true, "dee29da00ef880189ecccca58d676e5edd5ee235bc50ea92e61a066614da34db"), looks := true }, kinds := [], alts := [], laidByText := true, laidKinds := [.data, .data, .data, .data, .data, .sentinel, .sentinel, .pinned], laidTests := true, laidLooks := .later }
def StafffileReturnsUptoCardSaid : Prop := Claim7.holds Tryz.pinned (.plain (OpenSpec.upto stafffileReturnsSpec)) stafffileReturnsUptoCard
end Rows
end Go.Proofs.YtgoppjhjmonidaaGreatDoor
