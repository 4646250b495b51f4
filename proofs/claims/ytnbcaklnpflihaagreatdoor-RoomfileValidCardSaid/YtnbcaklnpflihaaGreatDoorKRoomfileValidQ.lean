/- PROVED: timetablelaw07.RoomfileValid returns true for every list of rooms, grid and number of weeks: the layer's Valid and Write answer as the second program's do -/
import Derived.Test.YtnbcaklnpflihaaGreatDoorKRoomfileValidP
import Derived.Test.YtnbcaklnpflihaaGreatDoorKRoomfileValidH
import Derived.Test.YtnbcaklnpflihaaGreatDoorKRoomfileValidI
namespace Go.Proofs.YtnbcaklnpflihaaGreatDoor.lawRoomfileValid
open Go.ChangeShapes Go.WideShapes Go.ChangeAt Go.RowKit
set_option maxRecDepth 100000

theorem card : Rows.RoomfileValidCardSaid :=
  Claim7.holds_tied_plain_at .later [] _ _ _ _ said (fun _ h => by cases h) cw (fun _ h => by cases h) roomfileValid_row_tie rfl ⟨rfl, rfl⟩ cm rfl plain cg
#print axioms card
end Go.Proofs.YtnbcaklnpflihaaGreatDoor.lawRoomfileValid
