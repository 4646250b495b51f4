/- The statement RequestsReturns goes by no other road. No condition. -/
import Derived.Test.YthejgholpkeldaaGreatDoorRows
import Derived.WalkKit
import Derived.WalkSpells
import Derived.WalkLawsBesides
import Derived.BigGuardPart
import Derived.Lib.Hide
import Derived.Laws.BitsAllLaws
import Derived.Laws.BitsLemmas
import Derived.Lib.LaidTab
import Derived.Test.YthejgholpkeldaaGreatDoorShelf
import Derived.Lib.ConvBytes
import Derived.Deep.QuietTactic
import Derived.BigQuiet
import Derived.Test.YthejgholpkeldaaGreatDoorCards
import Derived.Test.YthejgholpkeldaaGreatDoorTie
import Derived.ProofKit
import Derived.OpenShut
import Derived.LaidMore
import Derived.Lay
import Derived.SevenTiedAt
import Derived.Stop.Joined
import Derived.Stop.LaidErr
import Derived.Deep.DeepHandedRow
import Derived.Lib.LaidU8
import Derived.LaidSub
import Derived.Test.YthejgholpkeldaaGreatDoorYSameL
namespace Go.Proofs.YthejgholpkeldaaGreatDoor.lawRequestsReturns
open Go.ChangeShapes Go.WideShapes Go.ChangeAt Go.RowKit
set_option maxRecDepth 100000

theorem cg : false = Rows.requestsReturnsRow.goesBy Tryz.pinned.checked.prog := by kernel_rfl
end Go.Proofs.YthejgholpkeldaaGreatDoor.lawRequestsReturns
