/- Laws that make a grid and two times: the state that they carry. Conditions: the numbers can be read; the program's variables hold what Std says. -/
import Derived.Test.YtimcdikeajbabaaGreatDoorRows
import Derived.WalkKit
import Derived.WalkSpells
import Derived.WalkLawsBesides
import Derived.BigGuardPart
import Derived.Lib.Hide
import Derived.Laws.BitsAllLaws
import Derived.Laws.BitsLemmas
import Derived.Lib.LaidTab
import Derived.Test.YtimcdikeajbabaaGreatDoorShelf
import Derived.Lib.ConvBytes
import Derived.Deep.QuietTactic
import Derived.BigQuiet
import Derived.Lib.SmallJoins
import Derived.Lib.SplitLaws
import Derived.Lib.CountLaws
import Derived.Lib.IndexMore
import Derived.Lib.Split
import Derived.Lib.Join
import Derived.Laws.ResultCell
import Derived.RegionTactic
import Derived.BigRegion
import Derived.Deep.RegionHeld3
import Derived.Deep.DeepCutAuto
import Derived.Test.YtimcdikeajbabaaGreatDoorZDice
namespace Go.Proofs.YtimcdikeajbabaaGreatDoor
open Go.RowKit

theorem size_drew' (w : World) : w.drew.heap.size = w.heap.size := rfl
theorem Box4.setOther {w : World} {g c : Nat} {a b x0 x1 x : Value} (h : Box4 w g a b x0 x1) (hne : g ≠ c) (j : Nat) : Box4 (w.setCell ⟨c, j, none⟩ x) g a b x0 x1 := by
  have ho : ∀ y, (w.setCell ⟨c, j, none⟩ x).cell? ⟨g, y, none⟩ = w.cell? ⟨g, y, none⟩ := fun y => World.cell?_setCell_other _ _ _ _ (fun e => hne (by injection e with e1; exact e1.symm))
  exact ⟨(ho _).trans h.c0, (ho _).trans h.c1, (ho _).trans h.c2, (ho _).trans h.c3⟩
end Go.Proofs.YtimcdikeajbabaaGreatDoor
