/- Closed facts of the statement RoomfileValid. No condition. -/
import Derived.Test.YtnbcaklnpflihaaGreatDoorKKindArg
namespace Go.Proofs.YtnbcaklnpflihaaGreatDoor.lawRoomfileValid
open Go.ChangeShapes Go.WideShapes Go.ChangeAt Go.RowKit
set_option maxRecDepth 100000

theorem k10 : (Rows.roomfileValidRow.inPlace == Tryz.pinned.checked.prog.inPlace 4) = true := by kernel_rfl
theorem k11 : (Rows.roomfileValidRow.unfollowed == Tryz.pinned.checked.prog.unfollowed 4) = true := by kernel_rfl
theorem k12 : (Rows.roomfileValidRow.recurses == Tryz.pinned.checked.prog.recurses 4) = true := by kernel_rfl
theorem k13 : (Rows.roomfileValidRow.named == Tryz.pinned.checked.prog.varsNamed 4) = true := by kernel_rfl
theorem closed : joinedFacts Tryz.pinned.checked.prog 4 Tryz.f4 (OpenSpec.ofChange Rows.roomfileValidSpec).bare Rows.roomfileValidRow = true := by
  unfold joinedFacts
  rw [k10, k11, k12, k13]
  kernel_rfl
end Go.Proofs.YtnbcaklnpflihaaGreatDoor.lawRoomfileValid
