/- Main, and the row's form, of the statement RequestsLimits. No condition. -/
import Derived.Test.YtpojkgfckepoeaaGreatDoorRows
import Derived.WalkKit
import Derived.WalkSpells
import Derived.WalkLawsBesides
import Derived.BigGuardPart
import Derived.Lib.Hide
import Derived.Laws.BitsAllLaws
import Derived.Laws.BitsLemmas
import Derived.Lib.LaidTab
import Derived.Test.YtpojkgfckepoeaaGreatDoorShelf
import Derived.Lib.ConvBytes
import Derived.Deep.QuietTactic
import Derived.BigQuiet
import Derived.Test.YtpojkgfckepoeaaGreatDoorCards
import Derived.Test.YtpojkgfckepoeaaGreatDoorTie
import Derived.ProofKit
import Derived.OpenShut
import Derived.LaidMore
import Derived.Lay
import Derived.SevenTiedAt
import Derived.Stop.Joined
import Derived.Stop.LaidErr
import Derived.Deep.DeepHandedRow
import Derived.Lib.LaidU8
import Derived.LaidSub
import Derived.Test.YtpojkgfckepoeaaGreatDoorXSameL
namespace Go.Proofs.YtpojkgfckepoeaaGreatDoor.lawRequestsLimits
open Go.ChangeShapes Go.WideShapes Go.ChangeAt Go.RowKit
set_option maxRecDepth 100000

theorem cw : Rows.requestsLimitsRow.wfByText (OpenSpec.ofChange Rows.requestsLimitsSpec) = true := by kernel_rfl
theorem cm : Tryz.pinned.checked.prog.mainIs = some (Rows.requestsLimitsCard.stood.harness.1, Rows.requestsLimitsCard.stood.harness.2.toList) := by kernel_rfl
end Go.Proofs.YtpojkgfckepoeaaGreatDoor.lawRequestsLimits
