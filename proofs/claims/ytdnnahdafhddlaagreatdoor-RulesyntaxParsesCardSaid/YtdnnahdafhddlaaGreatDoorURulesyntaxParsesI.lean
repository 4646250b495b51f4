/- Main, and the row's form, of the statement RulesyntaxParses. No condition. -/
import Derived.Test.YtdnnahdafhddlaaGreatDoorCards
import Derived.Test.YtdnnahdafhddlaaGreatDoorTie
import Derived.LaidMore
import Derived.Lay
import Derived.Stop.LaidErr
import Derived.Deep.DeepHandedRow
import Derived.Lib.LaidU8
import Derived.Test.YtdnnahdafhddlaaGreatDoorUSameL
namespace Go.Proofs.YtdnnahdafhddlaaGreatDoor.lawRulesyntaxParses
open Go.ChangeShapes Go.WideShapes Go.ChangeAt Go.RowKit
set_option maxRecDepth 100000

theorem cw : Rows.rulesyntaxParsesRow.wfByText (OpenSpec.ofChange Rows.rulesyntaxParsesSpec) = true := by kernel_rfl
theorem cm : Tryz.pinned.checked.prog.mainIs = some (Rows.rulesyntaxParsesCard.stood.harness.1, Rows.rulesyntaxParsesCard.stood.harness.2.toList) := by kernel_rfl
end Go.Proofs.YtdnnahdafhddlaaGreatDoor.lawRulesyntaxParses
