/- Laws that make a grid and two times: the state that they carry. Conditions: the numbers can be read; the program's variables hold what Std says. -/
import Derived.Test.YtimcdikeajbabaaGreatDoorRows
import Derived.WalkKit
import Derived.WalkSpells
import Derived.WalkLawsBesides
import Derived.BigGuardPart
import Derived.Lib.Hide
import Derived.Laws.BitsAllLaws
import Derived.Laws.BitsLemmas
import Derived.Lib.LaidTab
import Derived.Test.YtimcdikeajbabaaGreatDoorShelf
import Derived.Lib.ConvBytes
import Derived.Deep.QuietTactic
import Derived.BigQuiet
import Derived.Lib.SmallJoins
import Derived.Lib.SplitLaws
import Derived.Lib.CountLaws
import Derived.Lib.IndexMore
import Derived.Lib.Split
import Derived.Lib.Join
import Derived.Laws.ResultCell
import Derived.RegionTactic
import Derived.BigRegion
import Derived.Deep.RegionHeld3
import Derived.Deep.DeepCutAuto
import Derived.Test.YtimcdikeajbabaaGreatDoorYDice
namespace Go.Proofs.YtimcdikeajbabaaGreatDoor
open Go.RowKit

/-- A time that fits a grid of d days and s slots, in n weeks. -/
structure TimeB (n : Nat) (d s x1 x2 x3 x4 : Int) : Prop where
  w1 : 1 ≤ x1
  w2 : x1 < ((2 ^ n : Nat) : Int)
  d1 : 0 ≤ x2
  d2 : x2 < d
  s1 : 0 ≤ x3
  l1 : 1 ≤ x4
  s2 : x3 + x4 ≤ s
theorem size_set (w : World) (p : Addr) (u : Value) : (w.setCell p u).heap.size = w.heap.size := by simp [World.setCell]
end Go.Proofs.YtimcdikeajbabaaGreatDoor
