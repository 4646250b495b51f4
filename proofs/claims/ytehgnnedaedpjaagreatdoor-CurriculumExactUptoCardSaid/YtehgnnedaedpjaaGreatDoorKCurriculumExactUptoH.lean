/- The statement CurriculumExact goes by no other road. No condition. -/
import Derived.Test.YtehgnnedaedpjaaGreatDoorKVars
namespace Go.Proofs.YtehgnnedaedpjaaGreatDoor.lawCurriculumExactUpto
open Go.ChangeShapes Go.WideShapes Go.ChangeAt Go.RowKit
set_option maxRecDepth 100000

theorem cg : false = Rows.curriculumExactUptoRow.goesBy Tryz.pinned.checked.prog := by kernel_rfl
end Go.Proofs.YtehgnnedaedpjaaGreatDoor.lawCurriculumExactUpto
