/- The witness and the looks of the statement RulesyntaxWords. No condition. -/
import Derived.Test.YtdnnahdafhddlaaGreatDoorCards
import Derived.Test.YtdnnahdafhddlaaGreatDoorTie
import Derived.ProofKit
import Derived.OpenShut
import Derived.LaidMore
import Derived.Lay
import Derived.Stop.LaidErr
import Derived.Deep.DeepHandedRow
import Derived.Lib.LaidU8
import Derived.Test.YtdnnahdafhddlaaGreatDoorYEnds
namespace Go.Proofs.YtdnnahdafhddlaaGreatDoor.lawRulesyntaxWords
open Go.ChangeShapes Go.WideShapes Go.ChangeAt Go.RowKit
set_option maxRecDepth 100000

theorem reads0 (os : Os) {H : Type} (enc : TypeId × Value → H) : ∃ places, DataW.whole enc Tryz.prog ((World.laidAll Tryz.prog os Rows.rulesyntaxWordsRow.laid).forCall (fun _ _ => 0) ⟨#[], #[.slice none 0 0], []⟩).memory Tryz.f4.params.toList Rows.rulesyntaxWordsSpec.vars false [.slice none 0 0] 8 =
    some ([.nil], [], places) :=
  ⟨[], by kernel_rfl⟩
theorem met0 (os : Os) : laidMet Tryz.prog Rows.rulesyntaxWordsRow.laid ((World.laidAll Tryz.prog os Rows.rulesyntaxWordsRow.laid).forCall (fun _ _ => 0) ⟨#[], #[.slice none 0 0], []⟩).memory :=
  laidMet_laidAll _ (by kernel_rfl) (by kernel_rfl)
theorem shaped0 (os : Os) : ((World.laidAll Tryz.prog os Rows.rulesyntaxWordsRow.laid).forCall (fun _ _ => 0) ⟨#[], #[.slice none 0 0], []⟩).Shaped Tryz.checked.prog :=
  World.shaped_of_ZipB (by kernel_rfl) (by kernel_rfl)
theorem ok0 (os : Os) : Input.okWideB Tryz.checked.prog ((World.laidAll Tryz.prog os Rows.rulesyntaxWordsRow.laid).forCall (fun _ _ => 0) ⟨#[], #[.slice none 0 0], []⟩) 4 ⟨#[], #[.slice none 0 0], []⟩ = true := by kernel_rfl
/-- No parameter wants a stand-in; the program's own looks are as the card says. -/
theorem plain (f : FuncId) (fn : Func) (hf : Tryz.pinned.checked.prog.funcNamed "timetable/timetablelaw14.RulesyntaxWords" = some f) (hfn : Tryz.pinned.checked.prog.funcs[f]? = some fn) :
    Rows.rulesyntaxWordsCard.stood.looks = Tryz.pinned.checked.prog.looks [] ∧ ∀ (j : Nat) t, fn.params[j]? = some t → Tryz.pinned.checked.prog.wantsStandIn t = false := by
  obtain rfl : f = 4 := Option.some.inj ((show Tryz.prog.funcNamed "timetable/timetablelaw14.RulesyntaxWords" = some 4 by kernel_rfl).symm.trans hf) |>.symm
  obtain rfl : fn = Tryz.f4 := (Option.some.inj (Tryz.func4.symm.trans hfn)).symm
  refine ⟨by kernel_rfl, fun j t ht => ?_⟩
  have hall : (Tryz.f4.params.toList.all fun u => !Tryz.prog.wantsStandIn u) = true := by kernel_rfl
  exact (show Tryz.prog.wantsStandIn t = false by simpa using List.all_eq_true.1 hall t (by simpa using Array.mem_of_getElem? ht))

end Go.Proofs.YtdnnahdafhddlaaGreatDoor.lawRulesyntaxWords
