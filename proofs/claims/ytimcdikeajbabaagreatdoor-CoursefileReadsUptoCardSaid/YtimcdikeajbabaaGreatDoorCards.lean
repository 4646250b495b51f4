/-
  DERIVED. GIVEN WITH THE SEED: THE CARDS: each row of YtimcdikeajbabaaGreatDoorRows.lean that lists a variable, with what it lists TIED to the program's text (the seventh form; the later family's looks); each row that meets fmt, with fmt's text TOLD by the authors' own Lean function (tested against real Go, not proved from fmt's source: count such statements apart). THE CARD IS WHAT COUNTS. Prove the row's statement (the work); the ties are given (YtimcdikeajbabaaGreatDoorTie.lean); close each card by the builder's one call (the guide's Derived/Test/ToyasCard.lean, 'card_holds'). Laid BY PROGRAM, IN A SANDBOX (cutbox-door.mjs). By AI agents, Wed Nov 11 2026. No macro, syntax, notation, axiom, sorry.
-/
import Derived.Test.YtimcdikeajbabaaGreatDoorRows
import GoSem.ClaimSeven
namespace Go.Proofs.YtimcdikeajbabaaGreatDoor
namespace Rows

/-- THE TIED CARD OF 'timetablelaw10.CoursefileReads'. -/
def coursefileReadsCard : Claim7 := { stood := { row := coursefileReadsRow, standIns := [], harness := (true, "95cad8ce9e3461c7e5f3f150256cffcd2b8b1ceb273ccbe1c5fa4aec156413f9"), looks := true }, kinds := [], alts := [], laidByText := true, laidKinds := [.data, .data, .data, .data, .data, .data, .sentinel, .sentinel, .pinned], laidTests := true, laidLooks := .later }
def CoursefileReadsCardSaid : Prop := Claim7.holds Tryz.pinned (.plain (OpenSpec.ofChange coursefileReadsSpec)) coursefileReadsCard

/-- THE TIED CARD OF 'timetablelaw10.CoursefileFree'. -/
def coursefileFreeCard : Claim7 := { stood := { row := coursefileFreeRow, standIns := [], harness := (true, "95cad8ce9e3461c7e5f3f150256cffcd2b8b1ceb273ccbe1c5fa4aec156413f9"), looks := true }, kinds := [], alts := [], laidByText := true, laidKinds := [.data, .data, .data, .data, .sentinel, .sentinel, .pinned], laidTests := true, laidLooks := .later }
def CoursefileFreeCardSaid : Prop := Claim7.holds Tryz.pinned (.plain (OpenSpec.ofChange coursefileFreeSpec)) coursefileFreeCard

/-- THE TIED CARD OF 'timetablelaw10.CoursefileReturns'. -/
def coursefileReturnsCard : Claim7 := { stood := { row := coursefileReturnsRow, standIns := [], harness := (true, "95cad8ce9e3461c7e5f3f150256cffcd2b8b1ceb273ccbe1c5fa4aec156413f9"), looks := true }, kinds := [], alts := [], laidByText := true, laidKinds := [.data, .data, .data, .widerDeep, .data, .data, .sentinel, .sentinel, .pinned], laidTests := true, laidLooks := .later }
def CoursefileReturnsCardSaid : Prop := Claim7.holds Tryz.pinned (.plain (OpenSpec.ofChange coursefileReturnsSpec)) coursefileReturnsCard

/-- THE TIED CARD OF 'timetablelaw10.CoursefileValid'. -/
def coursefileValidCard : Claim7 := { stood := { row := coursefileValidRow, standIns := [], harness := (true, "95cad8ce9e3461c7e5f3f150256cffcd2b8b1ceb273ccbe1c5fa4aec156413f9"), looks := true }, kinds := [], alts := [], laidByText := true, laidKinds := [.data, .data, .data, .data, .data, .data, .sentinel, .sentinel, .pinned], laidTests := true, laidLooks := .later }
def CoursefileValidCardSaid : Prop := Claim7.holds Tryz.pinned (.plain (OpenSpec.ofChange coursefileValidSpec)) coursefileValidCard

/-- THE TIED CARD OF 'timetablelaw10.CoursefileMade'. -/
def coursefileMadeCard : Claim7 := { stood := { row := coursefileMadeRow, standIns := [], harness := (true, "95cad8ce9e3461c7e5f3f150256cffcd2b8b1ceb273ccbe1c5fa4aec156413f9"), looks := true }, kinds := [], alts := [], laidByText := true, laidKinds := [.data, .data, .data, .widerDeep, .data, .data, .data, .data, .sentinel, .sentinel, .pinned], laidTests := true, laidLooks := .later }
def CoursefileMadeCardSaid : Prop := Claim7.holds Tryz.pinned (.plain (OpenSpec.ofChange coursefileMadeSpec)) coursefileMadeCard

/-- THE SECOND FORM's CARD OF 'timetablelaw10.CoursefileReads'. -/
def coursefileReadsUptoCard : Claim7 := { stood := { row := coursefileReadsUptoRow, standIns := [], harness := (true, "95cad8ce9e3461c7e5f3f150256cffcd2b8b1ceb273ccbe1c5fa4aec156413f9"), looks := true }, kinds := [], alts := [], laidByText := true, laidKinds := [.data, .data, .data, .data, .data, .data, .sentinel, .sentinel, .pinned], laidTests := true, laidLooks := .later }
def CoursefileReadsUptoCardSaid : Prop := Claim7.holds Tryz.pinned (.plain (OpenSpec.upto coursefileReadsSpec)) coursefileReadsUptoCard

/-- THE SECOND FORM's CARD OF 'timetablelaw10.CoursefileFree'. -/
def coursefileFreeUptoCard : Claim7 := { stood := { row := coursefileFreeUptoRow, standIns := [], harness := (true, "95cad8ce9e3461c7e5f3f150256cffcd2b8b1ceb273ccbe1c5fa4aec156413f9"), looks := true }, kinds := [], alts := [], laidByText := true, laidKinds := [.data, .data, .data, .data, .sentinel, .sentinel, .pinned], laidTests := true, laidLooks := .later }
def CoursefileFreeUptoCardSaid : Prop := Claim7.holds Tryz.pinned (.plain (OpenSpec.upto coursefileFreeSpec)) coursefileFreeUptoCard

/-- THE SECOND FORM's CARD OF 'timetablelaw10.CoursefileReturns'. -/
def coursefileReturnsUptoCard : Claim7 := { stood := { row := coursefileReturnsUptoRow, standIns := [], harness := (true, "95cad8ce9e3461c7e5f3f150256cffcd2b8b1ceb273ccbe1c5fa4aec156413f9"), looks := true }, kinds := [], alts := [], laidByText := true, laidKinds := [.data, .data, .data, .widerDeep, .data, .data, .sentinel, .sentinel, .pinned], laidTests := true, laidLooks := .later }
def CoursefileReturnsUptoCardSaid : Prop := Claim7.holds Tryz.pinned (.plain (OpenSpec.upto coursefileReturnsSpec)) coursefileReturnsUptoCard

/-- THE SECOND FORM's CARD OF 'timetablelaw10.CoursefileValid'. -/
def coursefileValidUptoCard : Claim7 := { stood := { row := coursefileValidUptoRow, standIns := [], harness := (true, "95cad8ce9e3461c7e5f3f150256cffcd2b8b1ceb273ccbe1c5fa4aec156413f9"), looks := true }, kinds := [], alts := [], laidByText := true, laidKinds := [.data, .data, .data, .data, .data, .data, .sentinel, .sentinel, .pinned], laidTests := true, laidLooks := .later }
def CoursefileValidUptoCardSaid : Prop := Claim7.holds Tryz.pinned (.plain (OpenSpec.upto coursefileValidSpec)) coursefileValidUptoCard

/-- THE SECOND FORM's CARD OF 'timetablelaw10.CoursefileMade'. -/
def coursefileMadeUptoCard : Claim7 := { stood := { row := coursefileMadeUptoRow, standIns := [], harness := (true, "95cad8ce9e3461c7e5f3f150256cffcd2b8b1ceb273ccbe1c5fa4aec156413f9"), looks := true }, kinds := [], alts := [], laidByText := true, laidKinds := [.data, .data, .data, .widerDeep, .data, .data, .data, .data, .sentinel, .sentinel, .pinned], laidTests := true, laidLooks := .later }
def CoursefileMadeUptoCardSaid : Prop := Claim7.holds Tryz.pinned (.plain (OpenSpec.upto coursefileMadeSpec)) coursefileMadeUptoCard
end Rows
end Go.Proofs.YtimcdikeajbabaaGreatDoor
