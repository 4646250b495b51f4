/- Walks of strconv.Itoa and timetableref05.Decimal at numbers below 10000. Conditions: what the program's variables hold. -/
import Derived.Test.YthejgholpkeldaaGreatDoorRows
import Derived.WalkKit
import Derived.WalkSpells
import Derived.WalkLawsBesides
import Derived.BigGuardPart
import Derived.Lib.Hide
import Derived.Laws.BitsAllLaws
import Derived.Laws.BitsLemmas
import Derived.Lib.LaidTab
import Derived.Test.YthejgholpkeldaaGreatDoorShelf
import Derived.Lib.ConvBytes
import Derived.Deep.QuietTactic
import Derived.BigQuiet
import Derived.Lib.SmallJoins
import Derived.Lib.SplitLaws
import Derived.Lib.CountLaws
import Derived.Lib.IndexMore
import Derived.Lib.Split
import Derived.Lib.Join
import Derived.Lib.ItoaNum
import Derived.Lib.PathFns
import Derived.Laws.ResultCell
import Derived.RegionTactic
import Derived.BigRegion
import Derived.Deep.RegionHeld3
import Derived.Deep.DeepCutAuto
import Derived.Laws.AppendOwn
import Derived.Test.YthejgholpkeldaaGreatDoorShelfT
import Derived.Lib.ItoaLen
import Derived.Lib.AppendIntMem
import Derived.Test.YthejgholpkeldaaGreatDoorZCmpC
import Derived.Test.YthejgholpkeldaaGreatDoorZDecP
namespace Go.Proofs.YthejgholpkeldaaGreatDoor
open Go.RowKit
set_option maxRecDepth 100000

theorem decB_size (n : Nat) (h : n ≤ 9999) : (decB n).size ≤ 21 := by
  have := Lib.itoa_length_le n (by omega) (by omega)
  rw [← len_size]; exact this
theorem itoaD_walk (n : Int) (h0 : 0 ≤ n) (h : n ≤ 9999) (w : World) (hS : Std w) :
    Calls Tryz.prog 38 #[.int .i64 n] w fun e w' => e = .returned (.string (decB n.toNat)) ∧ Below w.heap.size w w' := by
  obtain ⟨k, rfl⟩ := Int.eq_ofNat_of_zero_le h0
  refine (Tryz.strconv_Itoa k (by omega) (by omega) w hS.pow10).mono ?_
  rintro e w' ⟨rfl, k, os, rfl⟩
  exact ⟨rfl, Lib.below_grow w.heap.size w (Nat.le_refl _) k os⟩
theorem itoa_nat (u : Nat) : Lib.itoa (u : Int) = Lib.decDigits u := by unfold Lib.itoa; rw [if_neg (by omega)]; simp
theorem decB_snoc (n : Nat) (h : 10 ≤ n) : decB (n / 10) ++ ⟨(dec2 (n % 10)).toArray⟩ = decB n := by
  have e : Lib.decDigits n = Lib.decDigits (n / 10) ++ [UInt8.ofNat (48 + n % 10)] := by
    conv => lhs; rw [Lib.decDigits, dif_neg (by omega)]
  unfold decB
  rw [itoa_nat, itoa_nat, e, show dec2 (n % 10) = [UInt8.ofNat (48 + n % 10)] from if_pos (by omega)]
  apply ByteArray.ext
  simp [ByteArray.data_append]
theorem decB_two (n : Nat) (h : n < 100) : (⟨(dec2 n).toArray⟩ : ByteArray) = decB n := by
  unfold decB
  rw [itoa_nat]
  by_cases h1 : n < 10
  · rw [Lib.decDigits_one h1, show dec2 n = [UInt8.ofNat (48 + n)] from if_pos h1]
  · rw [Lib.decDigits_two h1 h, show dec2 n = _ from if_neg h1]
theorem decimalN_walk : ∀ (k n : Nat), n < 100 * 10 ^ k → n ≤ 9999 → ∀ (w : World), Calls Tryz.prog 29 #[.int .i64 n] w fun e w' => e = .returned (.string (decB n)) ∧ Below w.heap.size w w'
  | 0, n, h, _, w => by
    rw [← decB_two n (by omega)]
    exact decimal_walk n (by omega) w
  | k + 1, n, h, h9, w => by
    by_cases h10 : n < 100
    · rw [← decB_two n h10]
      exact decimal_walk n h10 w
    · have hd := hide (decB_snoc n (by omega))
      have hl1 := decB_size (n / 10) (by omega)
      have hl2 := dec2_len (n % 10)
      have ih := decimalN_walk k (n / 10) (by rw [Nat.pow_succ] at h; omega) (by omega)
      have ih := hide ih
      go_enter Tryz.func29, Tryz.ntmps29
      go_wp2_with fail
      refine (ih.out _).mono ?_
      rintro e w1 ⟨rfl, hb1⟩
      go_wp2_with fail
      refine (decimal_small (n % 10) (by omega) _).mono ?_
      rintro e w2 ⟨rfl, hb2⟩
      go_wp2
      go_ret
      exact ⟨ret_str hd.out, ext_trans hb1 hb2⟩
end Go.Proofs.YthejgholpkeldaaGreatDoor
