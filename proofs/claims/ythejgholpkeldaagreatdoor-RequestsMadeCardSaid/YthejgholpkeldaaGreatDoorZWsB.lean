/- Walks of package weekset, on: numbers, items. -/
import Derived.Test.YthejgholpkeldaaGreatDoorRows
import Derived.WalkKit
import Derived.WalkSpells
import Derived.WalkLawsBesides
import Derived.BigGuardPart
import Derived.Lib.Hide
import Derived.Laws.BitsAllLaws
import Derived.Laws.BitsLemmas
import Derived.Lib.LaidTab
import Derived.Test.YthejgholpkeldaaGreatDoorShelf
import Derived.Lib.ConvBytes
import Derived.Deep.QuietTactic
import Derived.BigQuiet
import Derived.Lib.SmallJoins
import Derived.Test.YthejgholpkeldaaGreatDoorZDice
namespace Go.Proofs.YthejgholpkeldaaGreatDoor
open Go.RowKit

theorem ba_at0 (s : ByteArray) (h : 0 < s.size) : s.data.toList[0]? = some s[0] := by
  have h' : 0 < s.data.toList.length := by simpa using h
  rw [List.getElem?_eq_getElem h']; rfl
theorem ba_len (s : ByteArray) : s.data.toList.length = s.size := by simp

-- <number>
end Go.Proofs.YthejgholpkeldaaGreatDoor
