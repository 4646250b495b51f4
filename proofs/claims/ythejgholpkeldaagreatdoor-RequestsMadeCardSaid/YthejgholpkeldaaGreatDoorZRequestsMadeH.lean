/- The statement RequestsMade goes by no other road. No condition. -/
import Derived.Test.YthejgholpkeldaaGreatDoorCards
import Derived.Test.YthejgholpkeldaaGreatDoorTie
import Derived.LaidMore
import Derived.Lay
import Derived.Stop.LaidErr
import Derived.Deep.DeepHandedRow
import Derived.Lib.LaidU8
import Derived.Test.YthejgholpkeldaaGreatDoorZSameL
namespace Go.Proofs.YthejgholpkeldaaGreatDoor.lawRequestsMade
open Go.ChangeShapes Go.WideShapes Go.ChangeAt Go.RowKit
set_option maxRecDepth 100000

theorem cg : false = Rows.requestsMadeRow.goesBy Tryz.pinned.checked.prog := by kernel_rfl
end Go.Proofs.YthejgholpkeldaaGreatDoor.lawRequestsMade
