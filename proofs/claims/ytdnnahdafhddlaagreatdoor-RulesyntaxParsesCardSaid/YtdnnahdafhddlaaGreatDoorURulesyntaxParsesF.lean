/- Closed facts of the statement RulesyntaxParses. No condition. -/
import Derived.Test.YtdnnahdafhddlaaGreatDoorCards
import Derived.Test.YtdnnahdafhddlaaGreatDoorTie
import Derived.ProofKit
import Derived.OpenShut
import Derived.LaidMore
import Derived.Lay
import Derived.Stop.LaidErr
import Derived.Deep.DeepHandedRow
import Derived.Lib.LaidU8
import Derived.Test.YtdnnahdafhddlaaGreatDoorUEnds
namespace Go.Proofs.YtdnnahdafhddlaaGreatDoor.lawRulesyntaxParses
open Go.ChangeShapes Go.WideShapes Go.ChangeAt Go.RowKit
set_option maxRecDepth 100000

theorem k10 : (Rows.rulesyntaxParsesRow.inPlace == Tryz.pinned.checked.prog.inPlace 3) = true := by kernel_rfl
theorem k11 : (Rows.rulesyntaxParsesRow.unfollowed == Tryz.pinned.checked.prog.unfollowed 3) = true := by kernel_rfl
theorem k12 : (Rows.rulesyntaxParsesRow.recurses == Tryz.pinned.checked.prog.recurses 3) = true := by kernel_rfl
theorem k13 : (Rows.rulesyntaxParsesRow.named == Tryz.pinned.checked.prog.varsNamed 3) = true := by kernel_rfl
theorem closed : joinedFacts Tryz.pinned.checked.prog 3 Tryz.f3 (OpenSpec.ofChange Rows.rulesyntaxParsesSpec).bare Rows.rulesyntaxParsesRow = true := by
  unfold joinedFacts
  rw [k10, k11, k12, k13]
  kernel_rfl
end Go.Proofs.YtdnnahdafhddlaaGreatDoor.lawRulesyntaxParses
