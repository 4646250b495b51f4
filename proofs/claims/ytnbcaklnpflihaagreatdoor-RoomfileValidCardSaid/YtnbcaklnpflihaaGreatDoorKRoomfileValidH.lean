/- The statement RoomfileValid goes by no other road. No condition. -/
import Derived.Test.YtnbcaklnpflihaaGreatDoorKKindArg
namespace Go.Proofs.YtnbcaklnpflihaaGreatDoor.lawRoomfileValid
open Go.ChangeShapes Go.WideShapes Go.ChangeAt Go.RowKit
set_option maxRecDepth 100000

theorem cg : false = Rows.roomfileValidRow.goesBy Tryz.pinned.checked.prog := by kernel_rfl
end Go.Proofs.YtnbcaklnpflihaaGreatDoor.lawRoomfileValid
