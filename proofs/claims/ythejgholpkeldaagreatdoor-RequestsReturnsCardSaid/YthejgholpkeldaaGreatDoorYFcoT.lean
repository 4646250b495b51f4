/- Walk of fields.Codes, whole. Conditions: the cells; what the program's variables hold. -/
import Derived.Test.YthejgholpkeldaaGreatDoorShelfS
import Derived.Test.YthejgholpkeldaaGreatDoorRows
import Derived.WalkKit
import Derived.WalkSpells
import Derived.WalkLawsBesides
import Derived.BigGuardPart
import Derived.Lib.Hide
import Derived.Laws.BitsAllLaws
import Derived.Laws.BitsLemmas
import Derived.Lib.LaidTab
import Derived.Test.YthejgholpkeldaaGreatDoorShelf
import Derived.Lib.ConvBytes
import Derived.Deep.QuietTactic
import Derived.BigQuiet
import Derived.Laws.ResultCell
import Derived.RegionTactic
import Derived.BigRegion
import Derived.Deep.RegionHeld3
import Derived.Deep.DeepCutAuto
import Derived.Lib.SmallJoins
import Derived.Lib.SplitLaws
import Derived.Lib.CountLaws
import Derived.Lib.IndexMore
import Derived.Lib.Split
import Derived.Lib.Join
import Derived.Lib.ItoaNum
import Derived.Laws.AppendOwn
import Derived.Test.YthejgholpkeldaaGreatDoorShelfT
import Derived.Lib.ItoaLen
import Derived.Lib.AppendIntMem
import Derived.Deep.AppendLies
import Derived.Lib.PathFns
import Derived.Maps.Range
import Derived.Lib.OwnBridge
import Derived.Sort.OwnSorted
import Derived.Test.YthejgholpkeldaaGreatDoorYJoinC
namespace Go.Proofs.YthejgholpkeldaaGreatDoor
open Go.RowKit
set_option maxRecDepth 100000

set_option maxHeartbeats 800000 in
theorem fcodesU_walk (A : Option Addr) (cs : List ByteArray) (c : Nat) (w : World) (hS : Std w) (hA : At kStr AnyB w A cs) (hl : cs.length ≤ 9223372036854775807) (hlc : cs.length ≤ c) :
    Calls Tryz.prog 39 #[.slice A cs.length c] w fun e w' => e = .returned (.string (joinV cs).2) ∧ Below w.heap.size w w' := by
  have hj := cjoin_walk A cs c w hS hA hl hlc
  obtain ⟨⟨n, s⟩, hv⟩ : ∃ r, joinV cs = r := ⟨_, rfl⟩
  rw [hv] at hj ⊢
  obtain ⟨N, hN⟩ : ∃ N, cs.length = N := ⟨_, rfl⟩
  rw [hN] at hj ⊢
  clear hv hN hA
  go_enter Tryz.func39, Tryz.ntmps39
  go_wp2_with fail
  refine hj.mono ?_
  rintro e w' ⟨rfl, hb⟩
  dsimp only
  go_wp2
  go_ret
  exact ⟨rfl, hb⟩
end Go.Proofs.YthejgholpkeldaaGreatDoor
