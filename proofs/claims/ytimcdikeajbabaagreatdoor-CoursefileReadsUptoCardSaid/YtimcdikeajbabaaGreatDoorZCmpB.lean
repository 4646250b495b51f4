/- Walks of the comparisons of codes, down to their elements. No condition. Walks of codes.elements, Compare and timetableref03.Compare. Conditions: the texts' lengths are ints. -/
import Derived.Test.YtimcdikeajbabaaGreatDoorRows
import Derived.WalkKit
import Derived.WalkSpells
import Derived.WalkLawsBesides
import Derived.BigGuardPart
import Derived.Lib.Hide
import Derived.Laws.BitsAllLaws
import Derived.Laws.BitsLemmas
import Derived.Lib.LaidTab
import Derived.Test.YtimcdikeajbabaaGreatDoorShelf
import Derived.Lib.ConvBytes
import Derived.Deep.QuietTactic
import Derived.BigQuiet
import Derived.Laws.ResultCell
import Derived.RegionTactic
import Derived.BigRegion
import Derived.Deep.RegionHeld3
import Derived.Deep.DeepCutAuto
import Derived.Lib.SmallJoins
import Derived.Lib.SplitLaws
import Derived.Lib.CountLaws
import Derived.Lib.IndexMore
import Derived.Lib.Split
import Derived.Lib.Join
import Derived.Lib.ItoaNum
import Derived.Laws.AppendOwn
import Derived.Test.YtimcdikeajbabaaGreatDoorShelfT
import Derived.Test.YtimcdikeajbabaaGreatDoorZSameL
namespace Go.Proofs.YtimcdikeajbabaaGreatDoor
open Go.RowKit
set_option maxRecDepth 100000

/-! Plain. -/
theorem ext_list (s : ByteArray) (f j : Nat) : (s.extract f j).data.toList = (s.data.toList.drop f).take (j - f) := by
  simp
theorem len_size (s : ByteArray) : s.data.toList.length = s.size := by simp
/-- cmp.Or of two. -/
theorem or_walk (b : Nat) (x y : Int) (w : World) (h0 : w.cell? ⟨b, 0, none⟩ = some (.int .i64 x)) (h1 : w.cell? ⟨b, 1, none⟩ = some (.int .i64 y)) :
    Calls Tryz.prog 154 #[.slice (some ⟨b, 0, none⟩) 2 2] w fun e w' => e = .returned (.int .i64 (if x ≠ 0 then x else y)) ∧ w = w' := by
  have hl : b < w.heap.size := World.block_lt_of_cell? _ _ h0
  by_cases hx : x = 0
  · subst hx
    rw [if_neg (by simp)]
    by_cases hy : y = 0
    · subst hy
      go_enter Tryz.func154, Tryz.ntmps154
      go_wp2
      go_loop [8] (fun i => ∃ j : Nat, j ≤ 2 ∧ i = .int .i64 j) (fun i => 2 - (intOf i).toNat)
      case atStart => exact ⟨0, Nat.zero_le _, rfl⟩
      case round =>
        obtain ⟨j, hj, rfl⟩ := hrel
        match j, hj with
        | 0, _ =>
          go_wp2
          go_round
          case rel => exact ⟨1, by omega, by go_num⟩
          case measure => decide
        | 1, _ =>
          go_wp2
          go_round
          case rel => exact ⟨2, by omega, by go_num⟩
          case measure => decide
        | 2, _ =>
          go_wp2
          go_ret
          exact ⟨rfl, rfl⟩
    · have hy2 : (y != 0) = true := by simpa using hy
      go_enter Tryz.func154, Tryz.ntmps154
      go_wp2
      go_loop [8] (fun i => ∃ j : Nat, j ≤ 1 ∧ i = .int .i64 j) (fun i => 2 - (intOf i).toNat)
      case atStart => exact ⟨0, Nat.zero_le _, rfl⟩
      case round =>
        obtain ⟨j, hj, rfl⟩ := hrel
        match j, hj with
        | 0, _ =>
          go_wp2
          go_round
          case rel => exact ⟨1, by omega, by go_num⟩
          case measure => decide
        | 1, _ =>
          go_wp2
          all_goals first | (exfalso; omega) | (go_ret; exact ⟨rfl, rfl⟩)
  · rw [if_pos hx]
    have hx2 : (x != 0) = true := by simpa using hx
    go_enter Tryz.func154, Tryz.ntmps154
    go_wp2
    go_loop [8] (fun i => i = .int .i64 0) (fun i => 2 - (intOf i).toNat)
    case atStart => rfl
    case round =>
      subst hrel
      go_wp2
      all_goals first | (exfalso; omega) | (go_ret; exact ⟨rfl, rfl⟩)
/-! Elements. -/
def dgAt (s : ByteArray) (k : Nat) : Bool := digN (s.data.toList.getD k 0).toNat
theorem dgAt_of {s : ByteArray} {k : Nat} (h : k < s.size) : digN s[k].toNat = dgAt s k := by unfold dgAt; rw [byte_at s k h]
/-! A number without zeros in front. -/
end Go.Proofs.YtimcdikeajbabaaGreatDoor

namespace Go.Proofs.YtimcdikeajbabaaGreatDoor
open Go.RowKit
set_option maxRecDepth 100000

theorem toList_dataL (s : ByteArray) : s.toList = s.data.toList := ByteArray.toList_eq s
end Go.Proofs.YtimcdikeajbabaaGreatDoor
