/-
  DERIVED. GIVEN WITH THE SEED: THE CARDS: each row of YtonpfohhedcjbaaGreatDoorRows.lean that lists a variable, with what it lists TIED to the program's text (the seventh form; the later family's looks); each row that meets fmt, with fmt's text TOLD by the authors' own Lean function (tested against real Go, not proved from fmt's source: count such statements apart). THE CARD IS WHAT COUNTS. Prove the row's statement (the work); the ties are given (YtonpfohhedcjbaaGreatDoorTie.lean); close each card by the builder's one call (the guide's Derived/Test/ToyasCard.lean, 'card_holds'). Laid BY PROGRAM, IN A SANDBOX (cutbox-door.mjs). By AI agents, Wed Nov 11 2026. No macro, syntax, notation, axiom, sorry.
-/
import Derived.Test.YtonpfohhedcjbaaGreatDoorRows
import GoSem.ClaimSeven
namespace Go.Proofs.YtonpfohhedcjbaaGreatDoor
namespace Rows

/-- THE TIED CARD OF 'timetablelaw11.CurriculumGrows'. -/
def curriculumGrowsCard : Claim7 := { stood := { row := curriculumGrowsRow, standIns := [], harness := (true, "de63a9115800bc6c646939929d957b81cce167b0a4764f56e988466623c34fb5"), looks := true }, kinds := [], alts := [], laidByText := true, laidKinds := [.data, .data, .data, .widerDeep, .data, .sentinel, .sentinel, .pinned], laidTests := true, laidLooks := .later }
def CurriculumGrowsCardSaid : Prop := Claim7.holds Tryz.pinned (.plain (OpenSpec.ofChange curriculumGrowsSpec)) curriculumGrowsCard

/-- THE TIED CARD OF 'timetablelaw11.CurriculumMade'. -/
def curriculumMadeCard : Claim7 := { stood := { row := curriculumMadeRow, standIns := [], harness := (true, "de63a9115800bc6c646939929d957b81cce167b0a4764f56e988466623c34fb5"), looks := true }, kinds := [], alts := [], laidByText := true, laidKinds := [.data, .data, .data, .widerDeep, .data, .sentinel, .sentinel, .pinned], laidTests := true, laidLooks := .later }
def CurriculumMadeCardSaid : Prop := Claim7.holds Tryz.pinned (.plain (OpenSpec.ofChange curriculumMadeSpec)) curriculumMadeCard

/-- THE TIED CARD OF 'timetablelaw11.CurriculumReturns'. -/
def curriculumReturnsCard : Claim7 := { stood := { row := curriculumReturnsRow, standIns := [], harness := (true, "de63a9115800bc6c646939929d957b81cce167b0a4764f56e988466623c34fb5"), looks := true }, kinds := [], alts := [], laidByText := true, laidKinds := [.data, .data, .data, .widerDeep, .data, .sentinel, .sentinel, .pinned], laidTests := true, laidLooks := .later }
def CurriculumReturnsCardSaid : Prop := Claim7.holds Tryz.pinned (.plain (OpenSpec.ofChange curriculumReturnsSpec)) curriculumReturnsCard

/-- THE SECOND FORM's CARD OF 'timetablelaw11.CurriculumGrows'. -/
def curriculumGrowsUptoCard : Claim7 := { stood := { row := curriculumGrowsUptoRow, standIns := [], harness := (true, "de63a9115800bc6c646939929d957b81cce167b0a4764f56e988466623c34fb5"), looks := true }, kinds := [], alts := [], laidByText := true, laidKinds := [.data, .data, .data, .widerDeep, .data, .sentinel, .sentinel, .pinned], laidTests := true, laidLooks := .later }
def CurriculumGrowsUptoCardSaid : Prop := Claim7.holds Tryz.pinned (.plain (OpenSpec.upto curriculumGrowsSpec)) curriculumGrowsUptoCard

/-- THE SECOND FORM's CARD OF 'timetablelaw11.CurriculumMade'. -/
def curriculumMadeUptoCard : Claim7 := { stood := { row := curriculumMadeUptoRow, standIns := [], harness := (true, "de63a9115800bc6c646939929d957b81cce167b0a4764f56e988466623c34fb5"), looks := true }, kinds := [], alts := [], laidByText := true, laidKinds := [.data, .data, .data, .widerDeep, .data, .sentinel, .sentinel, .pinned], laidTests := true, laidLooks := .later }
def CurriculumMadeUptoCardSaid : Prop := Claim7.holds Tryz.pinned (.plain (OpenSpec.upto curriculumMadeSpec)) curriculumMadeUptoCard

/-- THE SECOND FORM's CARD OF 'timetablelaw11.CurriculumReturns'. -/
def curriculumReturnsUptoCard : Claim7 := { stood := { row := curriculumReturnsUptoRow, standIns := [], harness := (true, "de63a9115800bc6c646939929d957b81cce167b0a4764f56e988466623c34fb5"), looks := true }, kinds := [], alts := [], laidByText := true, laidKinds := [.data, .data, .data, .widerDeep, .data, .sentinel, .sentinel, .pinned], laidTests := true, laidLooks := .later }
def CurriculumReturnsUptoCardSaid : Prop := Claim7.holds Tryz.pinned (.plain (OpenSpec.upto curriculumReturnsSpec)) curriculumReturnsUptoCard
end Rows
end Go.Proofs.YtonpfohhedcjbaaGreatDoor
