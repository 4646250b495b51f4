/- Closed facts of the statement RoomfileReads. No condition. -/
import Derived.Test.YtnbcaklnpflihaaGreatDoorKRecArg
namespace Go.Proofs.YtnbcaklnpflihaaGreatDoor.lawRoomfileReadsUpto
open Go.ChangeShapes Go.WideShapes Go.ChangeAt Go.RowKit
set_option maxRecDepth 100000

theorem k10 : (Rows.roomfileReadsUptoRow.inPlace == Tryz.pinned.checked.prog.inPlace 3) = true := by kernel_rfl
theorem k11 : (Rows.roomfileReadsUptoRow.unfollowed == Tryz.pinned.checked.prog.unfollowed 3) = true := by kernel_rfl
theorem k12 : (Rows.roomfileReadsUptoRow.recurses == Tryz.pinned.checked.prog.recurses 3) = true := by kernel_rfl
theorem k13 : (Rows.roomfileReadsUptoRow.named == Tryz.pinned.checked.prog.varsNamed 3) = true := by kernel_rfl
theorem closed : joinedFacts Tryz.pinned.checked.prog 3 Tryz.f3 (Rows.OpenSpec.upto Rows.roomfileReadsSpec).bare Rows.roomfileReadsUptoRow = true := by
  unfold joinedFacts
  rw [k10, k11, k12, k13]
  kernel_rfl
end Go.Proofs.YtnbcaklnpflihaaGreatDoor.lawRoomfileReadsUpto
