/- Main, and the row's form, of the statement RoomfileValid. No condition. -/
import Derived.Test.YtnbcaklnpflihaaGreatDoorKKindArg
namespace Go.Proofs.YtnbcaklnpflihaaGreatDoor.lawRoomfileValid
open Go.ChangeShapes Go.WideShapes Go.ChangeAt Go.RowKit
set_option maxRecDepth 100000

theorem cw : Rows.roomfileValidRow.wfByText (OpenSpec.ofChange Rows.roomfileValidSpec) = true := by kernel_rfl
theorem cm : Tryz.pinned.checked.prog.mainIs = some (Rows.roomfileValidCard.stood.harness.1, Rows.roomfileValidCard.stood.harness.2.toList) := by kernel_rfl
end Go.Proofs.YtnbcaklnpflihaaGreatDoor.lawRoomfileValid
