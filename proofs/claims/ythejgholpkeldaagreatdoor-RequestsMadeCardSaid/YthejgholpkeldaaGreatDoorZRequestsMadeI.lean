/- Main, and the row's form, of the statement RequestsMade. No condition. -/
import Derived.Test.YthejgholpkeldaaGreatDoorCards
import Derived.Test.YthejgholpkeldaaGreatDoorTie
import Derived.LaidMore
import Derived.Lay
import Derived.Stop.LaidErr
import Derived.Deep.DeepHandedRow
import Derived.Lib.LaidU8
import Derived.Test.YthejgholpkeldaaGreatDoorZSameL
namespace Go.Proofs.YthejgholpkeldaaGreatDoor.lawRequestsMade
open Go.ChangeShapes Go.WideShapes Go.ChangeAt Go.RowKit
set_option maxRecDepth 100000

theorem cw : Rows.requestsMadeRow.wfByText (OpenSpec.ofChange Rows.requestsMadeSpec) = true := by kernel_rfl
theorem cm : Tryz.pinned.checked.prog.mainIs = some (Rows.requestsMadeCard.stood.harness.1, Rows.requestsMadeCard.stood.harness.2.toList) := by kernel_rfl
end Go.Proofs.YthejgholpkeldaaGreatDoor.lawRequestsMade
