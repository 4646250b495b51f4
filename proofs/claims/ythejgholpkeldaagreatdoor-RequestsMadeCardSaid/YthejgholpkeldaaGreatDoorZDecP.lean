/- Walks of package timetableref05, on: numbers in decimal, cutting, small numbers. Conditions: texts shorter than 2^30 bytes. Plain: a number in decimal. No condition. -/
import Derived.Test.YthejgholpkeldaaGreatDoorRows
import Derived.WalkKit
import Derived.WalkSpells
import Derived.WalkLawsBesides
import Derived.BigGuardPart
import Derived.Lib.Hide
import Derived.Laws.BitsAllLaws
import Derived.Laws.BitsLemmas
import Derived.Lib.LaidTab
import Derived.Test.YthejgholpkeldaaGreatDoorShelf
import Derived.Lib.ConvBytes
import Derived.Deep.QuietTactic
import Derived.BigQuiet
import Derived.Lib.SmallJoins
import Derived.Lib.SplitLaws
import Derived.Lib.CountLaws
import Derived.Lib.IndexMore
import Derived.Lib.Split
import Derived.Lib.Join
import Derived.Lib.ItoaNum
import Derived.Lib.PathFns
import Derived.Test.YthejgholpkeldaaGreatDoorZWsF
import Derived.Test.YthejgholpkeldaaGreatDoorZSameL
namespace Go.Proofs.YthejgholpkeldaaGreatDoor
open Go.RowKit
set_option maxRecDepth 100000

set_option maxHeartbeats 400000 in
theorem decimal_small (n : Nat) (h : n < 10) (w : World) :
    Calls Tryz.prog 29 #[.int .i64 n] w fun e w' => e = .returned (.string ⟨(dec2 n).toArray⟩) ∧ Below w.heap.size w w' := by
  rw [show dec2 n = [UInt8.ofNat (48 + n)] from if_pos h]
  have hconv : ∀ cap, (convert 46 9 (.slice (some ⟨w.heap.size, 0, none⟩) 1 cap)).run Tryz.prog (w.alloc (.cells #[.int .u8 (48 + (n : Int))] 5)) = .ok (.string ⟨[UInt8.ofNat (48 + n)].toArray⟩) (w.alloc (.cells #[.int .u8 (48 + (n : Int))] 5)) := fun cap =>
    run_convert_bytes_back _ 46 9 5 ⟨w.heap.size, 0, none⟩ cap [UInt8.ofNat (48 + n)] Tryz.underlying46 Tryz.underlying5 Tryz.underlying9 (by
      intro j hj
      have hj : j = 0 := by simp at hj; omega
      subst hj
      have he : ((UInt8.ofNat (48 + n)).toNat : Int) = 48 + (n : Int) := by
        rw [UInt8.toNat_ofNat']; omega
      simp [Addr.add]
      omega)
  go_enter Tryz.func29, Tryz.ntmps29
  go_wp2_with fail
  go_ret
  exact ⟨ret_str (by simp), (by repeat (first | exact Below.refl _ _ | refine ext_alloc ?_ _ | refine ext_drewN ?_ _ | refine ext_drew ?_ | refine ext_trans ?_ (by assumption)))⟩
set_option maxHeartbeats 400000 in
theorem decimal_walk (n : Nat) (h : n < 100) (w : World) :
    Calls Tryz.prog 29 #[.int .i64 n] w fun e w' => e = .returned (.string ⟨(dec2 n).toArray⟩) ∧ Below w.heap.size w w' := by
  by_cases h1 : n < 10
  · exact decimal_small n h1 w
  · have hd : Hid ((⟨(dec2 (n / 10)).toArray⟩ : ByteArray) ++ ⟨(dec2 (n % 10)).toArray⟩ = ⟨(dec2 n).toArray⟩) := by
      rw [show dec2 (n / 10) = [UInt8.ofNat (48 + n / 10)] from if_pos (by omega), show dec2 (n % 10) = [UInt8.ofNat (48 + n % 10)] from if_pos (by omega), show dec2 n = _ from if_neg h1]
      rfl
    have hl1 := dec2_len (n / 10)
    have hl2 := dec2_len (n % 10)
    go_enter Tryz.func29, Tryz.ntmps29
    go_wp2_with fail
    refine (decimal_small (n / 10) (by omega) _).mono ?_
    rintro e w1 ⟨rfl, hb1⟩
    go_wp2_with fail
    refine (decimal_small (n % 10) (by omega) _).mono ?_
    rintro e w2 ⟨rfl, hb2⟩
    go_wp2
    go_ret
    exact ⟨ret_str hd.out, ext_trans hb1 hb2⟩

end Go.Proofs.YthejgholpkeldaaGreatDoor

namespace Go.Proofs.YthejgholpkeldaaGreatDoor
open Go.RowKit
set_option maxRecDepth 100000

/-- A number in decimal. -/
def decB (n : Nat) : ByteArray := ⟨(Lib.itoa n).toArray⟩
end Go.Proofs.YthejgholpkeldaaGreatDoor
