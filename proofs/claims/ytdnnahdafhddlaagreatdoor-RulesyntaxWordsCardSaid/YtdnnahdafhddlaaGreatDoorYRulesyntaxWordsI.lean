/- Main, and the row's form, of the statement RulesyntaxWords. No condition. -/
import Derived.Test.YtdnnahdafhddlaaGreatDoorCards
import Derived.Test.YtdnnahdafhddlaaGreatDoorTie
import Derived.LaidMore
import Derived.Lay
import Derived.Stop.LaidErr
import Derived.Deep.DeepHandedRow
import Derived.Lib.LaidU8
import Derived.Test.YtdnnahdafhddlaaGreatDoorYSameL
namespace Go.Proofs.YtdnnahdafhddlaaGreatDoor.lawRulesyntaxWords
open Go.ChangeShapes Go.WideShapes Go.ChangeAt Go.RowKit
set_option maxRecDepth 100000

theorem cw : Rows.rulesyntaxWordsRow.wfByText (OpenSpec.ofChange Rows.rulesyntaxWordsSpec) = true := by kernel_rfl
theorem cm : Tryz.pinned.checked.prog.mainIs = some (Rows.rulesyntaxWordsCard.stood.harness.1, Rows.rulesyntaxWordsCard.stood.harness.2.toList) := by kernel_rfl
end Go.Proofs.YtdnnahdafhddlaaGreatDoor.lawRulesyntaxWords
