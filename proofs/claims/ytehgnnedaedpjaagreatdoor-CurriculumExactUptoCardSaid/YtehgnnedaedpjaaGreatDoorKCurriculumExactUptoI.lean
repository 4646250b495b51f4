/- Main, and the row's form, of the statement CurriculumExact. No condition. -/
import Derived.Test.YtehgnnedaedpjaaGreatDoorKVars
namespace Go.Proofs.YtehgnnedaedpjaaGreatDoor.lawCurriculumExactUpto
open Go.ChangeShapes Go.WideShapes Go.ChangeAt Go.RowKit
set_option maxRecDepth 100000

theorem cw : Rows.curriculumExactUptoRow.wfByText (Rows.OpenSpec.upto Rows.curriculumExactSpec) = true := by kernel_rfl
theorem cm : Tryz.pinned.checked.prog.mainIs = some (Rows.curriculumExactUptoCard.stood.harness.1, Rows.curriculumExactUptoCard.stood.harness.2.toList) := by kernel_rfl
end Go.Proofs.YtehgnnedaedpjaaGreatDoor.lawCurriculumExactUpto
