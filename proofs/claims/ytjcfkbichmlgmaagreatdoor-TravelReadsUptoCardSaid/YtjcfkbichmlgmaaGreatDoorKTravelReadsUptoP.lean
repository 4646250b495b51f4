/- PROVED: timetablelaw08.TravelReads returns true for every list of records: the layer reads ways as the second program does. Conditions: what the call reads is of bulk at most 1048576 (the statement's own bound); the listed package-level variables hold what the program's text lays (tied by the card). -/
import Derived.ChangeMaps5
import Derived.Test.YtjcfkbichmlgmaaGreatDoorKVars
import Derived.Test.YtjcfkbichmlgmaaGreatDoorKRecArg
import Derived.Test.YtjcfkbichmlgmaaGreatDoorKLawReads8
namespace Go.Proofs.YtjcfkbichmlgmaaGreatDoor.lawTravelReadsUpto
open Go.ChangeShapes Go.WideShapes Go.ChangeAt Go.RowKit
set_option maxRecDepth 100000

theorem reads0 (os : Os) {H : Type} (enc : TypeId × Value → H) : ∃ places, DataW.whole enc Tryz.prog ((World.laidAll Tryz.prog os Rows.travelReadsUptoRow.laid).forCall (fun _ _ => 0) ⟨#[], #[.slice none 0 0], []⟩).memory Tryz.f3.params.toList Rows.travelReadsSpec.vars false [.slice none 0 0] 8 =
    some ([.nil], [], places) :=
  ⟨[], by kernel_rfl⟩
theorem met0 (os : Os) : laidMet Tryz.prog Rows.travelReadsUptoRow.laid ((World.laidAll Tryz.prog os Rows.travelReadsUptoRow.laid).forCall (fun _ _ => 0) ⟨#[], #[.slice none 0 0], []⟩).memory :=
  laidMet_laidAll _ (by kernel_rfl) (by kernel_rfl)
theorem shaped0 (os : Os) : ((World.laidAll Tryz.prog os Rows.travelReadsUptoRow.laid).forCall (fun _ _ => 0) ⟨#[], #[.slice none 0 0], []⟩).Shaped Tryz.checked.prog :=
  World.shaped_of_ZipB (by kernel_rfl) (by kernel_rfl)
theorem ok0 (os : Os) : Input.okWideB Tryz.checked.prog ((World.laidAll Tryz.prog os Rows.travelReadsUptoRow.laid).forCall (fun _ _ => 0) ⟨#[], #[.slice none 0 0], []⟩) 3 ⟨#[], #[.slice none 0 0], []⟩ = true := by kernel_rfl

#print axioms card
end Go.Proofs.YtjcfkbichmlgmaaGreatDoor.lawTravelReadsUpto
