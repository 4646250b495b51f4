/- Walk of coursefile.all: all starts of a class without starts. Conditions: bounds. Appending a time. No condition. -/
import Derived.Test.YtimcdikeajbabaaGreatDoorRows
import Derived.WalkKit
import Derived.WalkSpells
import Derived.WalkLawsBesides
import Derived.BigGuardPart
import Derived.Lib.Hide
import Derived.Laws.BitsAllLaws
import Derived.Laws.BitsLemmas
import Derived.Lib.LaidTab
import Derived.Test.YtimcdikeajbabaaGreatDoorShelf
import Derived.Lib.ConvBytes
import Derived.Deep.QuietTactic
import Derived.BigQuiet
import Derived.Test.YtimcdikeajbabaaGreatDoorShelfS
import Derived.Laws.ResultCell
import Derived.RegionTactic
import Derived.BigRegion
import Derived.Deep.RegionHeld3
import Derived.Deep.DeepCutAuto
import Derived.Lib.SmallJoins
import Derived.Lib.SplitLaws
import Derived.Lib.CountLaws
import Derived.Lib.IndexMore
import Derived.Lib.Split
import Derived.Lib.Join
import Derived.Lib.ItoaNum
import Derived.Laws.AppendOwn
import Derived.Test.YtimcdikeajbabaaGreatDoorShelfT
import Derived.Lib.ItoaLen
import Derived.Lib.AppendIntMem
import Derived.Deep.AppendLies
import Derived.Lib.PathFns
import Derived.Maps.Range
import Derived.Lib.OwnBridge
import Derived.Sort.OwnSorted
import Derived.Sort.Walk0
import Derived.Test.YtimcdikeajbabaaGreatDoorCards
import Derived.Test.YtimcdikeajbabaaGreatDoorTie
import Derived.ProofKit
import Derived.OpenShut
import Derived.LaidMore
import Derived.Lay
import Derived.SevenTiedAt
import Derived.Stop.Joined
import Derived.Stop.LaidErr
import Derived.Deep.DeepHandedRow
import Derived.Lib.LaidU8
import Derived.LaidSub
import Derived.Deep.Slices
import Derived.Deep.Fields
import Derived.ChangeSame
import Derived.Test.YtimcdikeajbabaaGreatDoorUClsW
import Derived.Test.YtimcdikeajbabaaGreatDoorUROneP
namespace Go.Proofs.YtimcdikeajbabaaGreatDoor
open Go.RowKit
set_option maxRecDepth 100000

theorem apd_st : Apd Tryz.prog 45 70 2 16 := apd Tryz.underlying45 (z := .agg #[.int .i64 0, .int .i64 0]) (by kernel_rfl) rfl
theorem allStarts_snoc (a sl len : Nat) : allStarts (a + 1) sl len = allStarts a sl len ++ (List.range (sl + 1 - len)).map fun (c : Nat) => ((a : Int), (c : Int)) := by
  unfold allStarts
  rw [List.range_succ, List.flatMap_append]
  simp
def rowTo (a c : Nat) : List (Int × Int) := (List.range c).map fun (x : Nat) => ((a : Int), (x : Int))
theorem rowTo_snoc (a c : Nat) : rowTo a (c + 1) = rowTo a c ++ [((a : Int), (c : Int))] := by unfold rowTo; rw [List.range_succ, List.map_append]; rfl
theorem start_rep {S : Nat → Prop} {W : World} (a c : Int) : kStart.rep S W (a, c) [.int .i64 a, .int .i64 c] := ⟨[_], [_], rfl, rfl, rfl⟩
def AllLoop (d sl len : Nat) (W : World) (v i : Value) (wr : World) : Prop :=
  ∃ a : Nat, a ≤ d ∧ i = .int .i64 a ∧ Own kStart 70 [] 0 W.heap.size wr v (allStarts a sl len) ∧ Below W.heap.size W wr
def AllIn (sl len a : Nat) (W : World) (v i : Value) (wr : World) : Prop :=
  ∃ c : Nat, c ≤ sl + 1 - len ∧ i = .int .i64 c ∧ Own kStart 70 [] 0 W.heap.size wr v (allStarts a sl len ++ rowTo a c) ∧ Below W.heap.size W wr
set_option maxHeartbeats 4000000 in
theorem call_walk (d sl len : Nat) (b m : Int) (w : World) (hd : d ≤ 7) (hs : sl ≤ 24) (hl : 1 ≤ len) (hls : len ≤ sl) :
    Calls Tryz.prog 40 #[.int .i64 len, .agg #[.int .i64 d, .int .i64 sl, .int .i64 b, .int .i64 m]] w fun e w' => ∃ v, e = .returned v ∧ Own kStart 70 [] 0 w.heap.size w' v (allStarts d sl len) ∧ Below w.heap.size w w' := by
  have hb0 : Below w.heap.size w (w.alloc (.cells #[.int .i64 d, .int .i64 sl, .int .i64 b, .int .i64 m] 24)) := (by repeat (first | exact Below.refl _ _ | refine ext_alloc ?_ _ | refine ext_drewN ?_ _ | refine ext_drew ?_ | refine ext_trans ?_ (by assumption)))
  have bG := Box4.new w 24 (.int .i64 d) (.int .i64 sl) (.int .i64 b) (.int .i64 m)
  obtain ⟨gb, hgb⟩ : ∃ gb, w.heap.size = gb := ⟨_, rfl⟩
  obtain ⟨W, hWW⟩ : ∃ W, w.alloc (.cells #[.int .i64 d, .int .i64 sl, .int .i64 b, .int .i64 m] 24) = W := ⟨_, rfl⟩
  rw [hWW] at hb0 bG
  rw [hgb] at bG
  have hgl := bG.lt
  obtain ⟨g0, g1, g2, g3⟩ := bG
  have e1 : IntKind.i64.wrap ((sl : Int) - len) = (sl : Int) - len := IntWalk.i64_in _ (by omega)
  have e2 : IntKind.i64.wrap ((sl : Int) - len + 1) = (sl : Int) - len + 1 := IntWalk.i64_in _ (by omega)
  replace hgb := hide hgb
  replace hWW := hide hWW
  go_enter Tryz.func40, Tryz.ntmps40
  go_wp2_with fail
  rw [hWW.out, hgb.out]
  go_loopw [5, 10] (fun v i wr => AllLoop d sl len W v i wr) (fun _ i _ => d - (intOf i).toNat)
  case atStart => exact ⟨0, Nat.zero_le _, rfl, Own.nil, Below.refl _ _⟩
  case round =>
    obtain ⟨a, ha, rfl, hown, hb⟩ := hrel
    by_cases hlt : a < d
    · have k0 := cell_later hb g0
      have k1 := cell_later hb g1
      have hgr : gb < wr.heap.size := World.block_lt_of_cell? _ _ k0
      go_wp2_with fail
      rename World => wo
      go_loopw [5, 18] (fun v i wr => AllIn sl len a W v i wr) (fun _ i _ => (sl + 1 - len) - (intOf i).toNat)
      case atStart => exact ⟨0, Nat.zero_le _, rfl, by rw [show rowTo a 0 = [] from rfl, List.append_nil]; exact hown, hb⟩
      case round =>
        clear hown hb k0 k1 hgr
        obtain ⟨c, hc, rfl, hown, hb⟩ := hrel
        by_cases hlt2 : c < sl + 1 - len
        · have hlen : (allStarts a sl len ++ rowTo a c).length ≤ 4000000000 := by
            rw [List.length_append, allStarts_len]
            unfold rowTo
            rw [List.length_map, List.length_range]
            have : a * (sl + 1 - len) ≤ 7 * 25 := Nat.mul_le_mul (by omega) (by omega)
            omega
          have hsn : Hid (allStarts a sl len ++ rowTo a (c + 1) = allStarts a sl len ++ rowTo a c ++ [((a : Int), (c : Int))]) := hide (by rw [rowTo_snoc, List.append_assoc])
          have hci : (c : Int) < (sl : Int) - len + 1 := by omega
          have hz := hb.size
          go_wp2_with (at_builtin; refine wpList_own (K := kStart) (t := 70) (ts := []) (B0 := 0) (B := W.heap.size) rfl _ _ rfl apd_st (by decide) rfl (hown.alloc _) hlen (by decide) ⟨wr.heap.size, 0, none⟩ 1 rfl ((a : Int), (c : Int)) [.int .i64 (a : Int), .int .i64 (c : Int)] (start_rep _ _) (World.news_of_block (cs := #[.int .i64 (a : Int), .int .i64 (c : Int)]) (t := 70) (fr := (0, 0)) (heap_alloc_new _ _)) (by decide) (Nat.zero_le _) (by rw [World.size_alloc]; omega) ?_; intro v' w5 hown5 hgrow)
          have hb5 : Below W.heap.size W w5 := Below.grown (ext_alloc hb _) hgrow (by rw [World.size_alloc]; omega) (fun y hy => (hown.lt y hy).1)
          clear hown hb hgrow
          go_wp2
          go_roundw
          case rel => exact ⟨c + 1, by omega, by go_num, by rw [hsn.out]; exact hown5, hb5⟩
          case measure => simp [intOf]; omega
        · obtain rfl : c = sl + 1 - len := by omega
          have hsn : allStarts (a + 1) sl len = allStarts a sl len ++ rowTo a (sl + 1 - len) := allStarts_snoc a sl len
          have hci : ¬ ((sl + 1 - len : Nat) : Int) < (sl : Int) - len + 1 := by omega
          rw [← hsn] at hown
          clear hsn
          go_wp2
          go_roundw
          case rel => exact ⟨a + 1, by omega, by go_num, hown, hb⟩
          case measure => simp [intOf]; omega
    · obtain rfl : a = d := by omega
      have k0 := cell_later hb g0
      go_wp2
      go_ret
      exact ⟨_, rfl, hown.lower hb0.size, ext_trans hb0 hb⟩
end Go.Proofs.YtimcdikeajbabaaGreatDoor

namespace Go.Proofs.YtimcdikeajbabaaGreatDoor
open Go.RowKit
set_option maxRecDepth 100000

theorem apd_times : Apd Tryz.prog 42 49 4 32 := apd Tryz.underlying42 (z := .agg #[.int .i64 0, .int .i64 0, .int .i64 0, .int .i64 0]) (by kernel_rfl) rfl
theorem rep_of_time {S : Nat → Prop} {w : World} (x1 x2 x3 x4 : Int) : kTime.rep S w (x1, x2, x3, x4) [.int .i64 x1, .int .i64 x2, .int .i64 x3, .int .i64 x4] :=
  ⟨[_], [_, _, _], rfl, rfl, [_], [_, _], rfl, rfl, [_], [_], rfl, rfl, rfl⟩
end Go.Proofs.YtimcdikeajbabaaGreatDoor
