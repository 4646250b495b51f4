/- Plain: a number written in a width is read again; what a list that is one range says. No condition. Walk of timetablelaw03.wide. Conditions: a number that is an int; a width of at most 1000. -/
import Derived.Test.YtdnnahdafhddlaaGreatDoorYListC
namespace Go.Proofs.YtdnnahdafhddlaaGreatDoor
open Go.RowKit
set_option maxRecDepth 100000

theorem decd_big {n : Nat} (h : ¬ n < 10) : Lib.decDigits n = Lib.decDigits (n / 10) ++ [UInt8.ofNat (48 + n % 10)] := by rw [Lib.decDigits, dif_neg h]
theorem wrL_eq (n w : Nat) : wrL n w = List.replicate (w - Lib.nDigits n) 48 ++ Lib.decDigits n := by
  unfold wrL
  rw [Lib.itoa_nonneg, Lib.decDigits_length]
theorem len_wrL (n w : Nat) : (wrL n w).length = max w (Lib.nDigits n) := by
  rw [wrL_eq, List.length_append, List.length_replicate, Lib.decDigits_length]; omega
theorem nDigits_le : ∀ (k n : Nat), n < 10 ^ (k + 1) → Lib.nDigits n ≤ k + 1
  | 0, n, h => by rw [Lib.nDigits_small (by simpa using h)]; exact Nat.le_refl _
  | k + 1, n, h => by
    by_cases h1 : n < 10
    · rw [Lib.nDigits_small h1]; omega
    · rw [Lib.nDigits_big h1]
      have := nDigits_le k (n / 10) (by rw [Nat.pow_succ] at h; omega)
      omega
/-! Where the last number begins. -/
/-! Cutting at the first two dots. -/
/-! What a code's bytes are. -/
theorem dat_inj {X Y : ByteArray} (h : X.data.toList = Y.data.toList) : X = Y := by rw [mkB_of h]; rfl
end Go.Proofs.YtdnnahdafhddlaaGreatDoor

namespace Go.Proofs.YtdnnahdafhddlaaGreatDoor
open Go.RowKit
set_option maxRecDepth 100000

/-- What digits are still to be put in front of some. -/
def preN (n : Nat) (s : List UInt8) : List UInt8 := if n = 0 then (if s = [] then [48] else s) else Lib.decDigits n ++ s
theorem preN_start (n : Nat) : preN n [] = Lib.decDigits n := by
  unfold preN
  by_cases h : n = 0
  · subst h; rw [if_pos rfl, if_pos rfl, Lib.decDigits_one (by decide)]; rfl
  · rw [if_neg h, List.append_nil]
theorem preN_step {n : Nat} {s : List UInt8} (h : n ≠ 0 ∨ s = []) : preN (n / 10) (UInt8.ofNat (48 + n % 10) :: s) = preN n s := by
  unfold preN
  by_cases h0 : n = 0
  · subst h0
    rcases h with h | h
    · exact absurd rfl h
    · subst h; rfl
  · rw [if_neg h0]
    by_cases h1 : n < 10
    · rw [if_pos (by omega), if_neg (by simp), Lib.decDigits_one h1, Nat.mod_eq_of_lt h1]; rfl
    · rw [if_neg (by omega), decd_big h1, List.append_assoc]; rfl
theorem preN_end {s : List UInt8} (h : s ≠ []) : preN 0 s = s := by unfold preN; rw [if_pos rfl, if_neg h]
theorem preN_len (n : Nat) (s : List UInt8) : s.length ≤ (preN n s).length := by
  unfold preN
  split
  · split
    · rename_i h; rw [h]; simp
    · exact Nat.le_refl _
  · rw [List.length_append]; omega
theorem rep_snoc (k : Nat) (l : List UInt8) : 48 :: (List.replicate k 48 ++ l) = List.replicate (k + 1) 48 ++ l := by rw [List.replicate_succ]; rfl
end Go.Proofs.YtdnnahdafhddlaaGreatDoor
