/- Closed facts of the statement CoursefileReturns. No condition. -/
import Derived.Test.YtimcdikeajbabaaGreatDoorRows
import Derived.WalkKit
import Derived.WalkSpells
import Derived.WalkLawsBesides
import Derived.BigGuardPart
import Derived.Lib.Hide
import Derived.Laws.BitsAllLaws
import Derived.Laws.BitsLemmas
import Derived.Lib.LaidTab
import Derived.Test.YtimcdikeajbabaaGreatDoorShelf
import Derived.Lib.ConvBytes
import Derived.Deep.QuietTactic
import Derived.BigQuiet
import Derived.Test.YtimcdikeajbabaaGreatDoorCards
import Derived.Test.YtimcdikeajbabaaGreatDoorTie
import Derived.ProofKit
import Derived.OpenShut
import Derived.LaidMore
import Derived.Lay
import Derived.SevenTiedAt
import Derived.Stop.Joined
import Derived.Stop.LaidErr
import Derived.Deep.DeepHandedRow
import Derived.Lib.LaidU8
import Derived.LaidSub
import Derived.Test.YtimcdikeajbabaaGreatDoorYEnds
namespace Go.Proofs.YtimcdikeajbabaaGreatDoor.lawCoursefileReturns
open Go.ChangeShapes Go.WideShapes Go.ChangeAt Go.RowKit
set_option maxRecDepth 100000

theorem k10 : (Rows.coursefileReturnsRow.inPlace == Tryz.pinned.checked.prog.inPlace 5) = true := by kernel_rfl
theorem k11 : (Rows.coursefileReturnsRow.unfollowed == Tryz.pinned.checked.prog.unfollowed 5) = true := by kernel_rfl
theorem k12 : (Rows.coursefileReturnsRow.recurses == Tryz.pinned.checked.prog.recurses 5) = true := by kernel_rfl
theorem k13 : (Rows.coursefileReturnsRow.named == Tryz.pinned.checked.prog.varsNamed 5) = true := by kernel_rfl
theorem closed : joinedFacts Tryz.pinned.checked.prog 5 Tryz.f5 (OpenSpec.ofChange Rows.coursefileReturnsSpec).bare Rows.coursefileReturnsRow = true := by
  unfold joinedFacts
  rw [k10, k11, k12, k13]
  kernel_rfl
end Go.Proofs.YtimcdikeajbabaaGreatDoor.lawCoursefileReturns
