/- Closed facts of the statement CurriculumExact. No condition. -/
import Derived.Test.YtehgnnedaedpjaaGreatDoorKVars
namespace Go.Proofs.YtehgnnedaedpjaaGreatDoor.lawCurriculumExactUpto
open Go.ChangeShapes Go.WideShapes Go.ChangeAt Go.RowKit
set_option maxRecDepth 100000

theorem k10 : (Rows.curriculumExactUptoRow.inPlace == Tryz.pinned.checked.prog.inPlace 4) = true := by kernel_rfl
theorem k11 : (Rows.curriculumExactUptoRow.unfollowed == Tryz.pinned.checked.prog.unfollowed 4) = true := by kernel_rfl
theorem k12 : (Rows.curriculumExactUptoRow.recurses == Tryz.pinned.checked.prog.recurses 4) = true := by kernel_rfl
theorem k13 : (Rows.curriculumExactUptoRow.named == Tryz.pinned.checked.prog.varsNamed 4) = true := by kernel_rfl
theorem closed : joinedFacts Tryz.pinned.checked.prog 4 Tryz.f4 (Rows.OpenSpec.upto Rows.curriculumExactSpec).bare Rows.curriculumExactUptoRow = true := by
  unfold joinedFacts
  rw [k10, k11, k12, k13]
  kernel_rfl
end Go.Proofs.YtehgnnedaedpjaaGreatDoor.lawCurriculumExactUpto
