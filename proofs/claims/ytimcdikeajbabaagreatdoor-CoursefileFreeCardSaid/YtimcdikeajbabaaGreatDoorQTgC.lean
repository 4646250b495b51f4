/- Walks of packages timegrid and timetableref06, on: between, overlap, before, clock. No condition. -/
import Derived.Test.YtimcdikeajbabaaGreatDoorRows
import Derived.WalkKit
import Derived.WalkSpells
import Derived.WalkLawsBesides
import Derived.BigGuardPart
import Derived.Lib.Hide
import Derived.Laws.BitsAllLaws
import Derived.Laws.BitsLemmas
import Derived.Lib.LaidTab
import Derived.Test.YtimcdikeajbabaaGreatDoorShelf
import Derived.Lib.ConvBytes
import Derived.Deep.QuietTactic
import Derived.BigQuiet
import Derived.Test.YtimcdikeajbabaaGreatDoorQTgB
namespace Go.Proofs.YtimcdikeajbabaaGreatDoor
open Go.RowKit

/-- Do two times meet: sound, a common week, one day. -/
def meetB (a1 a2 a3 a4 b1 b2 b3 b4 : Int) : Bool := soundB a1 a2 a3 a4 && soundB b1 b2 b3 b4 && !(bits .and .i64 a1 b1 == 0) && decide (a2 = b2)
def betweenV (a1 a2 a3 a4 b1 b2 b3 b4 : Int) : Int := if meetB a1 a2 a3 a4 b1 b2 b3 b4 then max (-1) (max (b3 - a3 - a4) (a3 - b3 - b4)) else 0
theorem meetB_parts {a1 a2 a3 a4 b1 b2 b3 b4 : Int} (h : meetB a1 a2 a3 a4 b1 b2 b3 b4 = true) : soundB a1 a2 a3 a4 = true ∧ soundB b1 b2 b3 b4 = true ∧ (bits .and .i64 a1 b1 == 0) = false ∧ a2 = b2 := by
  simp only [meetB, Bool.and_eq_true, decide_eq_true_eq, Bool.not_eq_true'] at h
  exact ⟨h.1.1.1, h.1.1.2, h.1.2, h.2⟩
theorem meetB_mk {a1 a2 a3 a4 b1 b2 b3 b4 : Int} (h1 : soundB a1 a2 a3 a4 = true) (h2 : soundB b1 b2 b3 b4 = true) (h3 : (bits .and .i64 a1 b1 == 0) = false) (h4 : a2 = b2) : meetB a1 a2 a3 a4 b1 b2 b3 b4 = true := by
  subst h4; simp [meetB, h1, h2, h3]
theorem meetB_no1 {a1 a2 a3 a4 b1 b2 b3 b4 : Int} (h : soundB a1 a2 a3 a4 = false) : meetB a1 a2 a3 a4 b1 b2 b3 b4 = false := by simp [meetB, h]
theorem meetB_no2 {a1 a2 a3 a4 b1 b2 b3 b4 : Int} (h : soundB b1 b2 b3 b4 = false) : meetB a1 a2 a3 a4 b1 b2 b3 b4 = false := by simp [meetB, h]
theorem meetB_no3 {a1 a2 a3 a4 b1 b2 b3 b4 : Int} (h : (bits .and .i64 a1 b1 == 0) = true) : meetB a1 a2 a3 a4 b1 b2 b3 b4 = false := by simp [meetB, h]
theorem meetB_no4 {a1 a2 a3 a4 b1 b2 b3 b4 : Int} (h : a2 ≠ b2) : meetB a1 a2 a3 a4 b1 b2 b3 b4 = false := by simp [meetB, h]
theorem betweenV_no {a1 a2 a3 a4 b1 b2 b3 b4 : Int} (h : meetB a1 a2 a3 a4 b1 b2 b3 b4 = false) : betweenV a1 a2 a3 a4 b1 b2 b3 b4 = 0 := by simp [betweenV, h]
theorem betweenV_yes {a1 a2 a3 a4 b1 b2 b3 b4 : Int} (h : meetB a1 a2 a3 a4 b1 b2 b3 b4 = true) : betweenV a1 a2 a3 a4 b1 b2 b3 b4 = max (-1) (max (b3 - a3 - a4) (a3 - b3 - b4)) := by simp [betweenV, h]

/-- Overlap. -/
def overlapB (a1 a2 a3 a4 b1 b2 b3 b4 : Int) : Bool := meetB a1 a2 a3 a4 b1 b2 b3 b4 && decide (betweenV a1 a2 a3 a4 b1 b2 b3 b4 < 0)
/-- Before. -/
def beforeB (a1 a2 a3 a4 b1 b2 b3 b4 : Int) : Bool := soundB a1 a2 a3 a4 && soundB b1 b2 b3 b4 && decide (a2 < b2 ∨ a2 = b2 ∧ a3 + a4 ≤ b3)
end Go.Proofs.YtimcdikeajbabaaGreatDoor
