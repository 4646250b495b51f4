/-
  DERIVED. GIVEN WITH THE SEED: THE CARDS: each row of YtjdhjnciokhbkaaGreatDoorRows.lean that lists a variable, with what it lists TIED to the program's text (the seventh form; the later family's looks); each row that meets fmt, with fmt's text TOLD by the authors' own Lean function (tested against real Go, not proved from fmt's source: count such statements apart). THE CARD IS WHAT COUNTS. Prove the row's statement (the work); the ties are given (YtjdhjnciokhbkaaGreatDoorTie.lean); close each card by the builder's one call (the guide's Derived/Test/ToyasCard.lean, 'card_holds'). Laid BY PROGRAM, IN A SANDBOX (cutbox-door.mjs). By AI agents, Wed Nov 11 2026. No macro, syntax, notation, axiom, sorry.
-/
import Derived.Test.YtjdhjnciokhbkaaGreatDoorRows
import GoSem.ClaimSeven
namespace Go.Proofs.YtjdhjnciokhbkaaGreatDoor
namespace Rows

/-- THE TIED CARD OF 'timetablelaw11.CurriculumGrows'. -/
def curriculumGrowsCard : Claim7 := { stood := { row := curriculumGrowsRow, standIns := [], harness := (true, "4436e0cc4cead5eff5bc111426379fbdecc79adb291fa1650ea6733c5be4a2b7"), looks := true }, kinds := [], alts := [], laidByText := true, laidKinds := [.data, .data, .data, .widerDeep, .data, .sentinel, .sentinel, .pinned], laidTests := true, laidLooks := .later }
def CurriculumGrowsCardSaid : Prop := Claim7.holds Tryz.pinned (.plain (OpenSpec.ofChange curriculumGrowsSpec)) curriculumGrowsCard

/-- THE TIED CARD OF 'timetablelaw03.CodesCompares'. -/
def codesComparesCard : Claim7 := { stood := { row := codesComparesRow, standIns := [], harness := (true, "4436e0cc4cead5eff5bc111426379fbdecc79adb291fa1650ea6733c5be4a2b7"), looks := true }, kinds := [], alts := [], laidByText := true, laidKinds := [.data, .data, .data, .data, .sentinel, .sentinel, .pinned], laidTests := true, laidLooks := .later }
def CodesComparesCardSaid : Prop := Claim7.holds Tryz.pinned (.plain (OpenSpec.ofChange codesComparesSpec)) codesComparesCard

/-- THE TIED CARD OF 'timetablelaw03.CodesOrders'. -/
def codesOrdersCard : Claim7 := { stood := { row := codesOrdersRow, standIns := [], harness := (true, "4436e0cc4cead5eff5bc111426379fbdecc79adb291fa1650ea6733c5be4a2b7"), looks := true }, kinds := [], alts := [], laidByText := true, laidKinds := [.data, .data, .data, .data, .sentinel, .sentinel, .pinned], laidTests := true, laidLooks := .later }
def CodesOrdersCardSaid : Prop := Claim7.holds Tryz.pinned (.plain (OpenSpec.ofChange codesOrdersSpec)) codesOrdersCard

/-- THE TIED CARD OF 'timetablelaw03.CodesLists'. -/
def codesListsCard : Claim7 := { stood := { row := codesListsRow, standIns := [], harness := (true, "4436e0cc4cead5eff5bc111426379fbdecc79adb291fa1650ea6733c5be4a2b7"), looks := true }, kinds := [], alts := [], laidByText := true, laidKinds := [.data, .data, .data, .data, .sentinel, .sentinel, .pinned], laidTests := true, laidLooks := .later }
def CodesListsCardSaid : Prop := Claim7.holds Tryz.pinned (.plain (OpenSpec.ofChange codesListsSpec)) codesListsCard

/-- THE TIED CARD OF 'timetablelaw03.CodesRanges'. -/
def codesRangesCard : Claim7 := { stood := { row := codesRangesRow, standIns := [], harness := (true, "4436e0cc4cead5eff5bc111426379fbdecc79adb291fa1650ea6733c5be4a2b7"), looks := true }, kinds := [], alts := [], laidByText := true, laidKinds := [.data, .data, .data, .data, .sentinel, .sentinel, .pinned], laidTests := true, laidLooks := .later }
def CodesRangesCardSaid : Prop := Claim7.holds Tryz.pinned (.plain (OpenSpec.ofChange codesRangesSpec)) codesRangesCard

/-- THE TIED CARD OF 'timetablelaw11.CurriculumExact'. -/
def curriculumExactCard : Claim7 := { stood := { row := curriculumExactRow, standIns := [], harness := (true, "4436e0cc4cead5eff5bc111426379fbdecc79adb291fa1650ea6733c5be4a2b7"), looks := true }, kinds := [], alts := [], laidByText := true, laidKinds := [.data, .data, .data, .data, .sentinel, .sentinel, .pinned], laidTests := true, laidLooks := .later }
def CurriculumExactCardSaid : Prop := Claim7.holds Tryz.pinned (.plain (OpenSpec.ofChange curriculumExactSpec)) curriculumExactCard

/-- THE TIED CARD OF 'timetablelaw11.CurriculumMade'. -/
def curriculumMadeCard : Claim7 := { stood := { row := curriculumMadeRow, standIns := [], harness := (true, "4436e0cc4cead5eff5bc111426379fbdecc79adb291fa1650ea6733c5be4a2b7"), looks := true }, kinds := [], alts := [], laidByText := true, laidKinds := [.data, .data, .data, .widerDeep, .data, .sentinel, .sentinel, .pinned], laidTests := true, laidLooks := .later }
def CurriculumMadeCardSaid : Prop := Claim7.holds Tryz.pinned (.plain (OpenSpec.ofChange curriculumMadeSpec)) curriculumMadeCard

/-- THE TIED CARD OF 'timetablelaw11.CurriculumReturns'. -/
def curriculumReturnsCard : Claim7 := { stood := { row := curriculumReturnsRow, standIns := [], harness := (true, "4436e0cc4cead5eff5bc111426379fbdecc79adb291fa1650ea6733c5be4a2b7"), looks := true }, kinds := [], alts := [], laidByText := true, laidKinds := [.data, .data, .data, .widerDeep, .data, .sentinel, .sentinel, .pinned], laidTests := true, laidLooks := .later }
def CurriculumReturnsCardSaid : Prop := Claim7.holds Tryz.pinned (.plain (OpenSpec.ofChange curriculumReturnsSpec)) curriculumReturnsCard

/-- THE TIED CARD OF 'timetablelaw03.CodesJoins'. -/
def codesJoinsCard : Claim7 := { stood := { row := codesJoinsRow, standIns := [], harness := (true, "4436e0cc4cead5eff5bc111426379fbdecc79adb291fa1650ea6733c5be4a2b7"), looks := true }, kinds := [], alts := [], laidByText := true, laidKinds := [.data, .data, .data, .data, .sentinel, .sentinel, .pinned], laidTests := true, laidLooks := .later }
def CodesJoinsCardSaid : Prop := Claim7.holds Tryz.pinned (.plain (OpenSpec.ofChange codesJoinsSpec)) codesJoinsCard

/-- THE TIED CARD OF 'timetablelaw03.CodesReturns'. -/
def codesReturnsCard : Claim7 := { stood := { row := codesReturnsRow, standIns := [], harness := (true, "4436e0cc4cead5eff5bc111426379fbdecc79adb291fa1650ea6733c5be4a2b7"), looks := true }, kinds := [], alts := [], laidByText := true, laidKinds := [.data, .data, .data, .data, .sentinel, .sentinel, .pinned], laidTests := true, laidLooks := .later }
def CodesReturnsCardSaid : Prop := Claim7.holds Tryz.pinned (.plain (OpenSpec.ofChange codesReturnsSpec)) codesReturnsCard

/-- THE SECOND FORM's CARD OF 'timetablelaw11.CurriculumGrows'. -/
def curriculumGrowsUptoCard : Claim7 := { stood := { row := curriculumGrowsUptoRow, standIns := [], harness := (true, "4436e0cc4cead5eff5bc111426379fbdecc79adb291fa1650ea6733c5be4a2b7"), looks := true }, kinds := [], alts := [], laidByText := true, laidKinds := [.data, .data, .data, .widerDeep, .data, .sentinel, .sentinel, .pinned], laidTests := true, laidLooks := .later }
def CurriculumGrowsUptoCardSaid : Prop := Claim7.holds Tryz.pinned (.plain (OpenSpec.upto curriculumGrowsSpec)) curriculumGrowsUptoCard

/-- THE SECOND FORM's CARD OF 'timetablelaw03.CodesCompares'. -/
def codesComparesUptoCard : Claim7 := { stood := { row := codesComparesUptoRow, standIns := [], harness := (true, "4436e0cc4cead5eff5bc111426379fbdecc79adb291fa1650ea6733c5be4a2b7"), looks := true }, kinds := [], alts := [], laidByText := true, laidKinds := [.data, .data, .data, .data, .sentinel, .sentinel, .pinned], laidTests := true, laidLooks := .later }
def CodesComparesUptoCardSaid : Prop := Claim7.holds Tryz.pinned (.plain (OpenSpec.upto codesComparesSpec)) codesComparesUptoCard

/-- THE SECOND FORM's CARD OF 'timetablelaw03.CodesOrders'. -/
def codesOrdersUptoCard : Claim7 := { stood := { row := codesOrdersUptoRow, standIns := [], harness := (true, "4436e0cc4cead5eff5bc111426379fbdecc79adb291fa1650ea6733c5be4a2b7"), looks := true }, kinds := [], alts := [], laidByText := true, laidKinds := [.data, .data, .data, .data, .sentinel, .sentinel, .pinned], laidTests := true, laidLooks := .later }
def CodesOrdersUptoCardSaid : Prop := Claim7.holds Tryz.pinned (.plain (OpenSpec.upto codesOrdersSpec)) codesOrdersUptoCard

/-- THE SECOND FORM's CARD OF 'timetablelaw03.CodesLists'. -/
def codesListsUptoCard : Claim7 := { stood := { row := codesListsUptoRow, standIns := [], harness := (true, "4436e0cc4cead5eff5bc111426379fbdecc79adb291fa1650ea6733c5be4a2b7"), looks := true }, kinds := [], alts := [], laidByText := true, laidKinds := [.data, .data, .data, .data, .sentinel, .sentinel, .pinned], laidTests := true, laidLooks := .later }
def CodesListsUptoCardSaid : Prop := Claim7.holds Tryz.pinned (.plain (OpenSpec.upto codesListsSpec)) codesListsUptoCard

/-- THE SECOND FORM's CARD OF 'timetablelaw03.CodesRanges'. -/
def codesRangesUptoCard : Claim7 := { stood := { row := codesRangesUptoRow, standIns := [], harness := (true, "4436e0cc4cead5eff5bc111426379fbdecc79adb291fa1650ea6733c5be4a2b7"), looks := true }, kinds := [], alts := [], laidByText := true, laidKinds := [.data, .data, .data, .data, .sentinel, .sentinel, .pinned], laidTests := true, laidLooks := .later }
def CodesRangesUptoCardSaid : Prop := Claim7.holds Tryz.pinned (.plain (OpenSpec.upto codesRangesSpec)) codesRangesUptoCard

/-- THE SECOND FORM's CARD OF 'timetablelaw11.CurriculumExact'. -/
def curriculumExactUptoCard : Claim7 := { stood := { row := curriculumExactUptoRow, standIns := [], harness := (true, "4436e0cc4cead5eff5bc111426379fbdecc79adb291fa1650ea6733c5be4a2b7"), looks := true }, kinds := [], alts := [], laidByText := true, laidKinds := [.data, .data, .data, .data, .sentinel, .sentinel, .pinned], laidTests := true, laidLooks := .later }
def CurriculumExactUptoCardSaid : Prop := Claim7.holds Tryz.pinned (.plain (OpenSpec.upto curriculumExactSpec)) curriculumExactUptoCard

/-- THE SECOND FORM's CARD OF 'timetablelaw11.CurriculumMade'. -/
def curriculumMadeUptoCard : Claim7 := { stood := { row := curriculumMadeUptoRow, standIns := [], harness := (true, "4436e0cc4cead5eff5bc111426379fbdecc79adb291fa1650ea6733c5be4a2b7"), looks := true }, kinds := [], alts := [], laidByText := true, laidKinds := [.data, .data, .data, .widerDeep, .data, .sentinel, .sentinel, .pinned], laidTests := true, laidLooks := .later }
def CurriculumMadeUptoCardSaid : Prop := Claim7.holds Tryz.pinned (.plain (OpenSpec.upto curriculumMadeSpec)) curriculumMadeUptoCard

/-- THE SECOND FORM's CARD OF 'timetablelaw11.CurriculumReturns'. -/
def curriculumReturnsUptoCard : Claim7 := { stood := { row := curriculumReturnsUptoRow, standIns := [], harness := (true, "4436e0cc4cead5eff5bc111426379fbdecc79adb291fa1650ea6733c5be4a2b7"), looks := true }, kinds := [], alts := [], laidByText := true, laidKinds := [.data, .data, .data, .widerDeep, .data, .sentinel, .sentinel, .pinned], laidTests := true, laidLooks := .later }
def CurriculumReturnsUptoCardSaid : Prop := Claim7.holds Tryz.pinned (.plain (OpenSpec.upto curriculumReturnsSpec)) curriculumReturnsUptoCard

/-- THE SECOND FORM's CARD OF 'timetablelaw03.CodesJoins'. -/
def codesJoinsUptoCard : Claim7 := { stood := { row := codesJoinsUptoRow, standIns := [], harness := (true, "4436e0cc4cead5eff5bc111426379fbdecc79adb291fa1650ea6733c5be4a2b7"), looks := true }, kinds := [], alts := [], laidByText := true, laidKinds := [.data, .data, .data, .data, .sentinel, .sentinel, .pinned], laidTests := true, laidLooks := .later }
def CodesJoinsUptoCardSaid : Prop := Claim7.holds Tryz.pinned (.plain (OpenSpec.upto codesJoinsSpec)) codesJoinsUptoCard

/-- THE SECOND FORM's CARD OF 'timetablelaw03.CodesReturns'. -/
def codesReturnsUptoCard : Claim7 := { stood := { row := codesReturnsUptoRow, standIns := [], harness := (true, "4436e0cc4cead5eff5bc111426379fbdecc79adb291fa1650ea6733c5be4a2b7"), looks := true }, kinds := [], alts := [], laidByText := true, laidKinds := [.data, .data, .data, .data, .sentinel, .sentinel, .pinned], laidTests := true, laidLooks := .later }
def CodesReturnsUptoCardSaid : Prop := Claim7.holds Tryz.pinned (.plain (OpenSpec.upto codesReturnsSpec)) codesReturnsUptoCard
end Rows
end Go.Proofs.YtjdhjnciokhbkaaGreatDoor
