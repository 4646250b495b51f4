/- Closed facts of the statement RequestsReturns. No condition. -/
import Derived.Test.YthejgholpkeldaaGreatDoorRows
import Derived.WalkKit
import Derived.WalkSpells
import Derived.WalkLawsBesides
import Derived.BigGuardPart
import Derived.Lib.Hide
import Derived.Laws.BitsAllLaws
import Derived.Laws.BitsLemmas
import Derived.Lib.LaidTab
import Derived.Test.YthejgholpkeldaaGreatDoorShelf
import Derived.Lib.ConvBytes
import Derived.Deep.QuietTactic
import Derived.BigQuiet
import Derived.Test.YthejgholpkeldaaGreatDoorCards
import Derived.Test.YthejgholpkeldaaGreatDoorTie
import Derived.ProofKit
import Derived.OpenShut
import Derived.LaidMore
import Derived.Lay
import Derived.SevenTiedAt
import Derived.Stop.Joined
import Derived.Stop.LaidErr
import Derived.Deep.DeepHandedRow
import Derived.Lib.LaidU8
import Derived.LaidSub
import Derived.Test.YthejgholpkeldaaGreatDoorYEnds
namespace Go.Proofs.YthejgholpkeldaaGreatDoor.lawRequestsReturns
open Go.ChangeShapes Go.WideShapes Go.ChangeAt Go.RowKit
set_option maxRecDepth 100000

theorem k10 : (Rows.requestsReturnsRow.inPlace == Tryz.pinned.checked.prog.inPlace 4) = true := by kernel_rfl
theorem k11 : (Rows.requestsReturnsRow.unfollowed == Tryz.pinned.checked.prog.unfollowed 4) = true := by kernel_rfl
theorem k12 : (Rows.requestsReturnsRow.recurses == Tryz.pinned.checked.prog.recurses 4) = true := by kernel_rfl
theorem k13 : (Rows.requestsReturnsRow.named == Tryz.pinned.checked.prog.varsNamed 4) = true := by kernel_rfl
theorem closed : joinedFacts Tryz.pinned.checked.prog 4 Tryz.f4 (OpenSpec.ofChange Rows.requestsReturnsSpec).bare Rows.requestsReturnsRow = true := by
  unfold joinedFacts
  rw [k10, k11, k12, k13]
  kernel_rfl
end Go.Proofs.YthejgholpkeldaaGreatDoor.lawRequestsReturns
