/- Laws that make a grid and two times: the state that they carry. Conditions: the numbers can be read; the program's variables hold what Std says. -/
import Derived.Lib.SmallJoins
import Derived.Test.YtdnnahdafhddlaaGreatDoorYDice
namespace Go.Proofs.YtdnnahdafhddlaaGreatDoor
open Go.RowKit

theorem box_same {w : World} {c : Nat} (h : ∀ j, j < 4 → ∃ v, w.cell? ⟨c, j, none⟩ = some v) (y0 y1 y2 y3 : Value) :
    Box4 ((((w.setCell ⟨c, 0, none⟩ y0).setCell ⟨c, 1, none⟩ y1).setCell ⟨c, 2, none⟩ y2).setCell ⟨c, 3, none⟩ y3) c y0 y1 y2 y3 := by
  obtain ⟨q0, q1, q2, q3⟩ := set4_cells w c y0 y1 y2 y3 h _ rfl
  exact ⟨q0, q1, q2, q3⟩
end Go.Proofs.YtdnnahdafhddlaaGreatDoor
