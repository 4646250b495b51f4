/-
  DERIVED. GIVEN WITH THE SEED: THE CARDS: each row of YtehgnnedaedpjaaGreatDoorRows.lean that lists a variable, with what it lists TIED to the program's text (the seventh form; the later family's looks); each row that meets fmt, with fmt's text TOLD by the authors' own Lean function (tested against real Go, not proved from fmt's source: count such statements apart). THE CARD IS WHAT COUNTS. Prove the row's statement (the work); the ties are given (YtehgnnedaedpjaaGreatDoorTie.lean); close each card by the builder's one call (the guide's Derived/Test/ToyasCard.lean, 'card_holds'). Laid BY PROGRAM, IN A SANDBOX (cutbox-door.mjs). By AI agents, Wed Nov 11 2026. No macro, syntax, notation, axiom, sorry.
-/
import Derived.Test.YtehgnnedaedpjaaGreatDoorRows
import GoSem.ClaimSeven
namespace Go.Proofs.YtehgnnedaedpjaaGreatDoor
namespace Rows

/-- THE TIED CARD OF 'timetablelaw11.CurriculumGrows'. -/
def curriculumGrowsCard : Claim7 := { stood := { row := curriculumGrowsRow, standIns := [], harness := (true, "7e4cf2ff7938b421d2eaa70375201f8834a95a8055884a47f21ec7428819173d"), looks := true }, kinds := [], alts := [], laidByText := true, laidKinds := [.data, .data, .data, .widerDeep, .data, .sentinel, .sentinel, .pinned], laidTests := true, laidLooks := .later }
def CurriculumGrowsCardSaid : Prop := Claim7.holds Tryz.pinned (.plain (OpenSpec.ofChange curriculumGrowsSpec)) curriculumGrowsCard

/-- THE TIED CARD OF 'timetablelaw11.CurriculumExact'. -/
def curriculumExactCard : Claim7 := { stood := { row := curriculumExactRow, standIns := [], harness := (true, "7e4cf2ff7938b421d2eaa70375201f8834a95a8055884a47f21ec7428819173d"), looks := true }, kinds := [], alts := [], laidByText := true, laidKinds := [.data, .data, .data, .data, .sentinel, .sentinel, .pinned], laidTests := true, laidLooks := .later }
def CurriculumExactCardSaid : Prop := Claim7.holds Tryz.pinned (.plain (OpenSpec.ofChange curriculumExactSpec)) curriculumExactCard

/-- THE TIED CARD OF 'timetablelaw11.CurriculumMade'. -/
def curriculumMadeCard : Claim7 := { stood := { row := curriculumMadeRow, standIns := [], harness := (true, "7e4cf2ff7938b421d2eaa70375201f8834a95a8055884a47f21ec7428819173d"), looks := true }, kinds := [], alts := [], laidByText := true, laidKinds := [.data, .data, .data, .widerDeep, .data, .sentinel, .sentinel, .pinned], laidTests := true, laidLooks := .later }
def CurriculumMadeCardSaid : Prop := Claim7.holds Tryz.pinned (.plain (OpenSpec.ofChange curriculumMadeSpec)) curriculumMadeCard

/-- THE TIED CARD OF 'timetablelaw11.CurriculumReturns'. -/
def curriculumReturnsCard : Claim7 := { stood := { row := curriculumReturnsRow, standIns := [], harness := (true, "7e4cf2ff7938b421d2eaa70375201f8834a95a8055884a47f21ec7428819173d"), looks := true }, kinds := [], alts := [], laidByText := true, laidKinds := [.data, .data, .data, .widerDeep, .data, .sentinel, .sentinel, .pinned], laidTests := true, laidLooks := .later }
def CurriculumReturnsCardSaid : Prop := Claim7.holds Tryz.pinned (.plain (OpenSpec.ofChange curriculumReturnsSpec)) curriculumReturnsCard

/-- THE TIED CARD OF 'timetablelaw07.RoomfileReads'. -/
def roomfileReadsCard : Claim7 := { stood := { row := roomfileReadsRow, standIns := [], harness := (true, "7e4cf2ff7938b421d2eaa70375201f8834a95a8055884a47f21ec7428819173d"), looks := true }, kinds := [], alts := [], laidByText := true, laidKinds := [.data, .data, .data, .data, .data, .data, .sentinel, .sentinel, .pinned], laidTests := true, laidLooks := .later }
def RoomfileReadsCardSaid : Prop := Claim7.holds Tryz.pinned (.plain (OpenSpec.ofChange roomfileReadsSpec)) roomfileReadsCard

/-- THE TIED CARD OF 'timetablelaw07.RoomfileValid'. -/
def roomfileValidCard : Claim7 := { stood := { row := roomfileValidRow, standIns := [], harness := (true, "7e4cf2ff7938b421d2eaa70375201f8834a95a8055884a47f21ec7428819173d"), looks := true }, kinds := [], alts := [], laidByText := true, laidKinds := [.data, .data, .data, .data, .data, .data, .sentinel, .sentinel, .pinned], laidTests := true, laidLooks := .later }
def RoomfileValidCardSaid : Prop := Claim7.holds Tryz.pinned (.plain (OpenSpec.ofChange roomfileValidSpec)) roomfileValidCard

/-- THE TIED CARD OF 'timetablelaw10.CoursefileReads'. -/
def coursefileReadsCard : Claim7 := { stood := { row := coursefileReadsRow, standIns := [], harness := (true, "7e4cf2ff7938b421d2eaa70375201f8834a95a8055884a47f21ec7428819173d"), looks := true }, kinds := [], alts := [], laidByText := true, laidKinds := [.data, .data, .data, .data, .data, .data, .sentinel, .sentinel, .pinned], laidTests := true, laidLooks := .later }
def CoursefileReadsCardSaid : Prop := Claim7.holds Tryz.pinned (.plain (OpenSpec.ofChange coursefileReadsSpec)) coursefileReadsCard

/-- THE TIED CARD OF 'timetablelaw10.CoursefileFree'. -/
def coursefileFreeCard : Claim7 := { stood := { row := coursefileFreeRow, standIns := [], harness := (true, "7e4cf2ff7938b421d2eaa70375201f8834a95a8055884a47f21ec7428819173d"), looks := true }, kinds := [], alts := [], laidByText := true, laidKinds := [.data, .data, .data, .data, .sentinel, .sentinel, .pinned], laidTests := true, laidLooks := .later }
def CoursefileFreeCardSaid : Prop := Claim7.holds Tryz.pinned (.plain (OpenSpec.ofChange coursefileFreeSpec)) coursefileFreeCard

/-- THE TIED CARD OF 'timetablelaw10.CoursefileReturns'. -/
def coursefileReturnsCard : Claim7 := { stood := { row := coursefileReturnsRow, standIns := [], harness := (true, "7e4cf2ff7938b421d2eaa70375201f8834a95a8055884a47f21ec7428819173d"), looks := true }, kinds := [], alts := [], laidByText := true, laidKinds := [.data, .data, .data, .widerDeep, .data, .data, .sentinel, .sentinel, .pinned], laidTests := true, laidLooks := .later }
def CoursefileReturnsCardSaid : Prop := Claim7.holds Tryz.pinned (.plain (OpenSpec.ofChange coursefileReturnsSpec)) coursefileReturnsCard

/-- THE TIED CARD OF 'timetablelaw10.CoursefileValid'. -/
def coursefileValidCard : Claim7 := { stood := { row := coursefileValidRow, standIns := [], harness := (true, "7e4cf2ff7938b421d2eaa70375201f8834a95a8055884a47f21ec7428819173d"), looks := true }, kinds := [], alts := [], laidByText := true, laidKinds := [.data, .data, .data, .data, .data, .data, .sentinel, .sentinel, .pinned], laidTests := true, laidLooks := .later }
def CoursefileValidCardSaid : Prop := Claim7.holds Tryz.pinned (.plain (OpenSpec.ofChange coursefileValidSpec)) coursefileValidCard

/-- THE TIED CARD OF 'timetablelaw10.CoursefileMade'. -/
def coursefileMadeCard : Claim7 := { stood := { row := coursefileMadeRow, standIns := [], harness := (true, "7e4cf2ff7938b421d2eaa70375201f8834a95a8055884a47f21ec7428819173d"), looks := true }, kinds := [], alts := [], laidByText := true, laidKinds := [.data, .data, .data, .widerDeep, .data, .data, .data, .data, .sentinel, .sentinel, .pinned], laidTests := true, laidLooks := .later }
def CoursefileMadeCardSaid : Prop := Claim7.holds Tryz.pinned (.plain (OpenSpec.ofChange coursefileMadeSpec)) coursefileMadeCard

/-- THE SECOND FORM's CARD OF 'timetablelaw11.CurriculumGrows'. -/
def curriculumGrowsUptoCard : Claim7 := { stood := { row := curriculumGrowsUptoRow, standIns := [], harness := (true, "7e4cf2ff7938b421d2eaa70375201f8834a95a8055884a47f21ec7428819173d"), looks := true }, kinds := [], alts := [], laidByText := true, laidKinds := [.data, .data, .data, .widerDeep, .data, .sentinel, .sentinel, .pinned], laidTests := true, laidLooks := .later }
def CurriculumGrowsUptoCardSaid : Prop := Claim7.holds Tryz.pinned (.plain (OpenSpec.upto curriculumGrowsSpec)) curriculumGrowsUptoCard

/-- THE SECOND FORM's CARD OF 'timetablelaw11.CurriculumExact'. -/
def curriculumExactUptoCard : Claim7 := { stood := { row := curriculumExactUptoRow, standIns := [], harness := (true, "7e4cf2ff7938b421d2eaa70375201f8834a95a8055884a47f21ec7428819173d"), looks := true }, kinds := [], alts := [], laidByText := true, laidKinds := [.data, .data, .data, .data, .sentinel, .sentinel, .pinned], laidTests := true, laidLooks := .later }
def CurriculumExactUptoCardSaid : Prop := Claim7.holds Tryz.pinned (.plain (OpenSpec.upto curriculumExactSpec)) curriculumExactUptoCard

/-- THE SECOND FORM's CARD OF 'timetablelaw11.CurriculumMade'. -/
def curriculumMadeUptoCard : Claim7 := { stood := { row := curriculumMadeUptoRow, standIns := [], harness := (true, "7e4cf2ff7938b421d2eaa70375201f8834a95a8055884a47f21ec7428819173d"), looks := true }, kinds := [], alts := [], laidByText := true, laidKinds := [.data, .data, .data, .widerDeep, .data, .sentinel, .sentinel, .pinned], laidTests := true, laidLooks := .later }
def CurriculumMadeUptoCardSaid : Prop := Claim7.holds Tryz.pinned (.plain (OpenSpec.upto curriculumMadeSpec)) curriculumMadeUptoCard

/-- THE SECOND FORM's CARD OF 'timetablelaw11.CurriculumReturns'. -/
def curriculumReturnsUptoCard : Claim7 := { stood := { row := curriculumReturnsUptoRow, standIns := [], harness := (true, "7e4cf2ff7938b421d2eaa70375201f8834a95a8055884a47f21ec7428819173d"), looks := true }, kinds := [], alts := [], laidByText := true, laidKinds := [.data, .data, .data, .widerDeep, .data, .sentinel, .sentinel, .pinned], laidTests := true, laidLooks := .later }
def CurriculumReturnsUptoCardSaid : Prop := Claim7.holds Tryz.pinned (.plain (OpenSpec.upto curriculumReturnsSpec)) curriculumReturnsUptoCard

/-- THE SECOND FORM's CARD OF 'timetablelaw07.RoomfileReads'. -/
def roomfileReadsUptoCard : Claim7 := { stood := { row := roomfileReadsUptoRow, standIns := [], harness := (true, "7e4cf2ff7938b421d2eaa70375201f8834a95a8055884a47f21ec7428819173d"), looks := true }, kinds := [], alts := [], laidByText := true, laidKinds := [.data, .data, .data, .data, .data, .data, .sentinel, .sentinel, .pinned], laidTests := true, laidLooks := .later }
def RoomfileReadsUptoCardSaid : Prop := Claim7.holds Tryz.pinned (.plain (OpenSpec.upto roomfileReadsSpec)) roomfileReadsUptoCard

/-- THE SECOND FORM's CARD OF 'timetablelaw07.RoomfileValid'. -/
def roomfileValidUptoCard : Claim7 := { stood := { row := roomfileValidUptoRow, standIns := [], harness := (true, "7e4cf2ff7938b421d2eaa70375201f8834a95a8055884a47f21ec7428819173d"), looks := true }, kinds := [], alts := [], laidByText := true, laidKinds := [.data, .data, .data, .data, .data, .data, .sentinel, .sentinel, .pinned], laidTests := true, laidLooks := .later }
def RoomfileValidUptoCardSaid : Prop := Claim7.holds Tryz.pinned (.plain (OpenSpec.upto roomfileValidSpec)) roomfileValidUptoCard

/-- THE SECOND FORM's CARD OF 'timetablelaw10.CoursefileReads'. -/
def coursefileReadsUptoCard : Claim7 := { stood := { row := coursefileReadsUptoRow, standIns := [], harness := (true, "7e4cf2ff7938b421d2eaa70375201f8834a95a8055884a47f21ec7428819173d"), looks := true }, kinds := [], alts := [], laidByText := true, laidKinds := [.data, .data, .data, .data, .data, .data, .sentinel, .sentinel, .pinned], laidTests := true, laidLooks := .later }
def CoursefileReadsUptoCardSaid : Prop := Claim7.holds Tryz.pinned (.plain (OpenSpec.upto coursefileReadsSpec)) coursefileReadsUptoCard

/-- THE SECOND FORM's CARD OF 'timetablelaw10.CoursefileFree'. -/
def coursefileFreeUptoCard : Claim7 := { stood := { row := coursefileFreeUptoRow, standIns := [], harness := (true, "7e4cf2ff7938b421d2eaa70375201f8834a95a8055884a47f21ec7428819173d"), looks := true }, kinds := [], alts := [], laidByText := true, laidKinds := [.data, .data, .data, .data, .sentinel, .sentinel, .pinned], laidTests := true, laidLooks := .later }
def CoursefileFreeUptoCardSaid : Prop := Claim7.holds Tryz.pinned (.plain (OpenSpec.upto coursefileFreeSpec)) coursefileFreeUptoCard

/-- THE SECOND FORM's CARD OF 'timetablelaw10.CoursefileReturns'. -/
def coursefileReturnsUptoCard : Claim7 := { stood := { row := coursefileReturnsUptoRow, standIns := [], harness := (true, "7e4cf2ff7938b421d2eaa70375201f8834a95a8055884a47f21ec7428819173d"), looks := true }, kinds := [], alts := [], laidByText := true, laidKinds := [.data, .data, .data, .widerDeep, .data, .data, .sentinel, .sentinel, .pinned], laidTests := true, laidLooks := .later }
def CoursefileReturnsUptoCardSaid : Prop := Claim7.holds Tryz.pinned (.plain (OpenSpec.upto coursefileReturnsSpec)) coursefileReturnsUptoCard

/-- THE SECOND FORM's CARD OF 'timetablelaw10.CoursefileValid'. -/
def coursefileValidUptoCard : Claim7 := { stood := { row := coursefileValidUptoRow, standIns := [], harness := (true, "7e4cf2ff7938b421d2eaa70375201f8834a95a8055884a47f21ec7428819173d"), looks := true }, kinds := [], alts := [], laidByText := true, laidKinds := [.data, .data, .data, .data, .data, .data, .sentinel, .sentinel, .pinned], laidTests := true, laidLooks := .later }
def CoursefileValidUptoCardSaid : Prop := Claim7.holds Tryz.pinned (.plain (OpenSpec.upto coursefileValidSpec)) coursefileValidUptoCard

/-- THE SECOND FORM's CARD OF 'timetablelaw10.CoursefileMade'. -/
def coursefileMadeUptoCard : Claim7 := { stood := { row := coursefileMadeUptoRow, standIns := [], harness := (true, "7e4cf2ff7938b421d2eaa70375201f8834a95a8055884a47f21ec7428819173d"), looks := true }, kinds := [], alts := [], laidByText := true, laidKinds := [.data, .data, .data, .widerDeep, .data, .data, .data, .data, .sentinel, .sentinel, .pinned], laidTests := true, laidLooks := .later }
def CoursefileMadeUptoCardSaid : Prop := Claim7.holds Tryz.pinned (.plain (OpenSpec.upto coursefileMadeSpec)) coursefileMadeUptoCard
end Rows
end Go.Proofs.YtehgnnedaedpjaaGreatDoor
