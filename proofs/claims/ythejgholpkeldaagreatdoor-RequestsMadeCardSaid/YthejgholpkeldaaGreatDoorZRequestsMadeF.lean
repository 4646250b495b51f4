/- Closed facts of the statement RequestsMade. No condition. -/
import Derived.Test.YthejgholpkeldaaGreatDoorCards
import Derived.Test.YthejgholpkeldaaGreatDoorTie
import Derived.ProofKit
import Derived.OpenShut
import Derived.LaidMore
import Derived.Lay
import Derived.Stop.LaidErr
import Derived.Deep.DeepHandedRow
import Derived.Lib.LaidU8
import Derived.Test.YthejgholpkeldaaGreatDoorZEnds
namespace Go.Proofs.YthejgholpkeldaaGreatDoor.lawRequestsMade
open Go.ChangeShapes Go.WideShapes Go.ChangeAt Go.RowKit
set_option maxRecDepth 100000

theorem k10 : (Rows.requestsMadeRow.inPlace == Tryz.pinned.checked.prog.inPlace 3) = true := by kernel_rfl
theorem k11 : (Rows.requestsMadeRow.unfollowed == Tryz.pinned.checked.prog.unfollowed 3) = true := by kernel_rfl
theorem k12 : (Rows.requestsMadeRow.recurses == Tryz.pinned.checked.prog.recurses 3) = true := by kernel_rfl
theorem k13 : (Rows.requestsMadeRow.named == Tryz.pinned.checked.prog.varsNamed 3) = true := by kernel_rfl
theorem closed : joinedFacts Tryz.pinned.checked.prog 3 Tryz.f3 (OpenSpec.ofChange Rows.requestsMadeSpec).bare Rows.requestsMadeRow = true := by
  unfold joinedFacts
  rw [k10, k11, k12, k13]
  kernel_rfl
end Go.Proofs.YthejgholpkeldaaGreatDoor.lawRequestsMade
