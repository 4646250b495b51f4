/- The statement RulesyntaxWords goes by no other road. No condition. -/
import Derived.Test.YtdnnahdafhddlaaGreatDoorCards
import Derived.Test.YtdnnahdafhddlaaGreatDoorTie
import Derived.LaidMore
import Derived.Lay
import Derived.Stop.LaidErr
import Derived.Deep.DeepHandedRow
import Derived.Lib.LaidU8
import Derived.Test.YtdnnahdafhddlaaGreatDoorYSameL
namespace Go.Proofs.YtdnnahdafhddlaaGreatDoor.lawRulesyntaxWords
open Go.ChangeShapes Go.WideShapes Go.ChangeAt Go.RowKit
set_option maxRecDepth 100000

theorem cg : false = Rows.rulesyntaxWordsRow.goesBy Tryz.pinned.checked.prog := by kernel_rfl
end Go.Proofs.YtdnnahdafhddlaaGreatDoor.lawRulesyntaxWords
