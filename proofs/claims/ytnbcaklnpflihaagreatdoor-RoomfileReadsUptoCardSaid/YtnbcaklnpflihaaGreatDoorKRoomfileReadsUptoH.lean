/- The statement RoomfileReads goes by no other road. No condition. -/
import Derived.Test.YtnbcaklnpflihaaGreatDoorKRecArg
namespace Go.Proofs.YtnbcaklnpflihaaGreatDoor.lawRoomfileReadsUpto
open Go.ChangeShapes Go.WideShapes Go.ChangeAt Go.RowKit
set_option maxRecDepth 100000

theorem cg : false = Rows.roomfileReadsUptoRow.goesBy Tryz.pinned.checked.prog := by kernel_rfl
end Go.Proofs.YtnbcaklnpflihaaGreatDoor.lawRoomfileReadsUpto
