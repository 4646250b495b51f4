/- Walk of fields.Codes, whole. Conditions: the cells; what the program's variables hold. Walk of timetableref07.Short. Conditions: texts shorter than 2^30 bytes; what the program's variables hold. -/
import Derived.Test.YthejgholpkeldaaGreatDoorShelfS
import Derived.Test.YthejgholpkeldaaGreatDoorRows
import Derived.WalkKit
import Derived.WalkSpells
import Derived.WalkLawsBesides
import Derived.BigGuardPart
import Derived.Lib.Hide
import Derived.Laws.BitsAllLaws
import Derived.Laws.BitsLemmas
import Derived.Lib.LaidTab
import Derived.Test.YthejgholpkeldaaGreatDoorShelf
import Derived.Lib.ConvBytes
import Derived.Deep.QuietTactic
import Derived.BigQuiet
import Derived.Laws.ResultCell
import Derived.RegionTactic
import Derived.BigRegion
import Derived.Deep.RegionHeld3
import Derived.Deep.DeepCutAuto
import Derived.Lib.SmallJoins
import Derived.Lib.SplitLaws
import Derived.Lib.CountLaws
import Derived.Lib.IndexMore
import Derived.Lib.Split
import Derived.Lib.Join
import Derived.Lib.ItoaNum
import Derived.Laws.AppendOwn
import Derived.Test.YthejgholpkeldaaGreatDoorShelfT
import Derived.Lib.ItoaLen
import Derived.Lib.AppendIntMem
import Derived.Deep.AppendLies
import Derived.Lib.PathFns
import Derived.Maps.Range
import Derived.Lib.OwnBridge
import Derived.Sort.OwnSorted
import Derived.Test.YthejgholpkeldaaGreatDoorZJoinR
import Derived.Test.YthejgholpkeldaaGreatDoorZShortP
import Derived.Test.YthejgholpkeldaaGreatDoorZListR
namespace Go.Proofs.YthejgholpkeldaaGreatDoor
open Go.RowKit
set_option maxRecDepth 100000

set_option maxHeartbeats 800000 in
theorem fcodesU_walk (A : Option Addr) (cs : List ByteArray) (c : Nat) (w : World) (hS : Std w) (hA : At kStr AnyB w A cs) (hl : cs.length ≤ 9223372036854775807) (hlc : cs.length ≤ c) :
    Calls Tryz.prog 39 #[.slice A cs.length c] w fun e w' => e = .returned (.string (joinV cs).2) ∧ Below w.heap.size w w' := by
  have hj := cjoin_walk A cs c w hS hA hl hlc
  obtain ⟨⟨n, s⟩, hv⟩ : ∃ r, joinV cs = r := ⟨_, rfl⟩
  rw [hv] at hj ⊢
  obtain ⟨N, hN⟩ : ∃ N, cs.length = N := ⟨_, rfl⟩
  rw [hN] at hj ⊢
  clear hv hN hA
  go_enter Tryz.func39, Tryz.ntmps39
  go_wp2_with fail
  refine hj.mono ?_
  rintro e w' ⟨rfl, hb⟩
  dsimp only
  go_wp2
  go_ret
  exact ⟨rfl, hb⟩
end Go.Proofs.YthejgholpkeldaaGreatDoor

namespace Go.Proofs.YthejgholpkeldaaGreatDoor
open Go.RowKit
set_option maxRecDepth 100000

set_option maxHeartbeats 2000000 in
theorem r7short_walk (s : ByteArray) (w : World) (hS : Std w) (hs : s.size < 1073741824) :
    Calls Tryz.prog 111 #[.string s] w fun e w' => BetwIs (shortV s) w e w' := by
  have hcall := r3list_walk s w hS hs
  have hsv : Hid (shortV s = if (listV s).1 = 0 ∧ 8 < (listV s).2.length then (2, []) else listV s) := hide rfl
  obtain ⟨⟨en, l⟩, hlv⟩ : ∃ r, listV s = r := ⟨_, rfl⟩
  rw [hlv] at hcall hsv
  dsimp only at hsv
  clear hlv hS
  go_enter Tryz.func111, Tryz.ntmps111
  go_wp2_with fail
  refine hcall.mono ?_
  clear hcall
  rintro e w1 ⟨v, rfl, hown, hb⟩
  dsimp only at hown ⊢
  obtain ⟨A6, c6, rfl⟩ := hown.form
  obtain ⟨L, hL⟩ : ∃ L, l.length = L := ⟨_, rfl⟩
  have hown2 := hown
  rw [hL] at hsv hown ⊢
  by_cases he : en = 0
  · subst he
    by_cases h8 : 8 < L
    · have h8i : (8 : Int) < (L : Int) := by omega
      have h2 : Hid (shortV s = (2, [])) := hide (by rw [hsv.out, if_pos ⟨rfl, h8⟩])
      clear hsv hown hown2 hL h8
      go_wp2
      go_ret2
      rw [h2.out]
      exact ⟨_, rfl, Own.nil, hb⟩
    · have h8i : ¬ (8 : Int) < (L : Int) := by omega
      have h2 : Hid (shortV s = (0, l)) := hide (by rw [hsv.out, if_neg (fun h => h8 h.2)])
      clear hsv h8 hown2 hL
      go_wp2
      go_ret2
      rw [h2.out]
      exact ⟨_, rfl, hown, hb⟩
  · have h2 : Hid (shortV s = (en, l)) := hide (by rw [hsv.out, if_neg (fun h => he h.1)])
    have hei : ¬ (en : Int) = 0 := by omega
    clear hsv hown2 hL he
    go_wp2
    go_ret2
    rw [h2.out]
    exact ⟨_, rfl, hown, hb⟩
end Go.Proofs.YthejgholpkeldaaGreatDoor
