/- Main, and the row's form, of the statement RoomfileReads. No condition. -/
import Derived.Test.YtnbcaklnpflihaaGreatDoorKRecArg
namespace Go.Proofs.YtnbcaklnpflihaaGreatDoor.lawRoomfileReadsUpto
open Go.ChangeShapes Go.WideShapes Go.ChangeAt Go.RowKit
set_option maxRecDepth 100000

theorem cw : Rows.roomfileReadsUptoRow.wfByText (Rows.OpenSpec.upto Rows.roomfileReadsSpec) = true := by kernel_rfl
theorem cm : Tryz.pinned.checked.prog.mainIs = some (Rows.roomfileReadsUptoCard.stood.harness.1, Rows.roomfileReadsUptoCard.stood.harness.2.toList) := by kernel_rfl
end Go.Proofs.YtnbcaklnpflihaaGreatDoor.lawRoomfileReadsUpto
