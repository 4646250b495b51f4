/- Walks of timetableref07.SameTimes, timetableref02.SameProblems, timetableref09.Same, where both hold the same. Conditions: the cells. -/
import Derived.Test.YtimcdikeajbabaaGreatDoorRows
import Derived.WalkKit
import Derived.WalkSpells
import Derived.WalkLawsBesides
import Derived.BigGuardPart
import Derived.Lib.Hide
import Derived.Laws.BitsAllLaws
import Derived.Laws.BitsLemmas
import Derived.Lib.LaidTab
import Derived.Test.YtimcdikeajbabaaGreatDoorShelf
import Derived.Lib.ConvBytes
import Derived.Deep.QuietTactic
import Derived.BigQuiet
import Derived.Laws.ResultCell
import Derived.RegionTactic
import Derived.BigRegion
import Derived.Deep.RegionHeld3
import Derived.Deep.DeepCutAuto
import Derived.Lib.SmallJoins
import Derived.Lib.SplitLaws
import Derived.Lib.CountLaws
import Derived.Lib.IndexMore
import Derived.Lib.Split
import Derived.Lib.Join
import Derived.Lib.ItoaNum
import Derived.Laws.AppendOwn
import Derived.Deep.AppendLies
import Derived.Test.YtimcdikeajbabaaGreatDoorUStaffB
namespace Go.Proofs.YtimcdikeajbabaaGreatDoor
open Go.RowKit
set_option maxRecDepth 100000

set_option maxHeartbeats 4000000 in
theorem r7Same_walk (A A' : Option Addr) (n c c' : Nat) (X : Nat → T4) (w : World) (hn : n ≤ 9223372036854775807) (h1 : CellsAt w.heap.size w A 4 n fun j => encT (X j)) (h2 : CellsAt w.heap.size w A' 4 n fun j => encT (X j)) :
    Calls Tryz.prog 25 #[.slice A n c, .slice A' n c'] w fun e w' => e = .returned (.bool true) ∧ Below w.heap.size w w' := by
  go_enter Tryz.func25, Tryz.ntmps25
  go_wp2
  go_loopw [5] (fun i wr => ∃ j : Nat, j ≤ n ∧ i = .int .i64 j ∧ Below w.heap.size w wr) (fun i _ => n - (intOf i).toNat)
  case atStart => exact ⟨0, Nat.zero_le _, rfl, Below.refl _ _⟩
  case round =>
    obtain ⟨j, hj, rfl, hb⟩ := hrel
    by_cases hlt : j < n
    · obtain ⟨b1, o1, rfl, hb1, k1⟩ := (h1.below hb) (by omega)
      obtain ⟨b2, o2, rfl, hb2, k2⟩ := (h2.below hb) (by omega)
      have a0 := k1 j hlt 0 _ rfl
      have a1 := k1 j hlt 1 _ rfl
      have a2 := k1 j hlt 2 _ rfl
      have a3 := k1 j hlt 3 _ rfl
      have e0 := k2 j hlt 0 _ rfl
      have e1 := k2 j hlt 1 _ rfl
      have e2 := k2 j hlt 2 _ rfl
      have e3 := k2 j hlt 3 _ rfl
      obtain ⟨⟨x1, x2, x3, x4⟩, hX⟩ : ∃ q, X j = q := ⟨_, rfl⟩
      rw [hX] at a0 a1 a2 a3 e0 e1 e2 e3
      rw [Nat.add_zero] at a0 e0
      have hz := hb.size
      have hb1r : b1 < wr.heap.size := by omega
      have hb2r : b2 < wr.heap.size := by omega
      have hj0 : (0 : Int) ≤ (j : Int) := by omega
      have hj1 : (j : Int) < (n : Int) := by omega
      clear k1 k2 h1 h2 hX
      go_wp2_with fail
      go_region
      all_goals
        go_wp2
        go_roundw
        case rel => exact ⟨j + 1, by omega, by go_num, by first | exact ext_drew hb | exact hb⟩
        case measure => simp [intOf]; omega
    · obtain rfl : j = n := by omega
      go_wp2
      go_ret
      exact ⟨rfl, hb⟩
end Go.Proofs.YtimcdikeajbabaaGreatDoor
