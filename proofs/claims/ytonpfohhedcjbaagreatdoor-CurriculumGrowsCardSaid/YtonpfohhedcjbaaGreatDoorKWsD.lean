/- Walks of package weekset, on: Parse. Conditions: texts shorter than 2^30 bytes. -/
import Derived.Test.YtonpfohhedcjbaaGreatDoorKWsC
import Derived.Test.YtonpfohhedcjbaaGreatDoorKPlain
namespace Go.Proofs.YtonpfohhedcjbaaGreatDoor
open Go.RowKit

/-- The sets of items joined, and the first error. -/
def itemsV (n : Nat) : List (List UInt8) → Nat → Nat × Nat
  | [], acc => if acc = 0 then (0, 16) else (acc, 0)
  | x :: r, acc => if (itemV x n).2 = 0 then itemsV n r (acc ||| (itemV x n).1) else (0, (itemV x n).2)
/-- The items of a text. -/
def itemsOf (s : ByteArray) : List ByteArray := Lib.splitB ⟨#[44]⟩ 0 (Lib.countB s ⟨#[44]⟩) s
def parseV (s : ByteArray) (n : Int) : Nat × Nat :=
  if n < 1 ∨ 20 < n then (0, 3) else itemsV n.toNat ((itemsOf s).map (·.data.toList)) 0

theorem spanN_lt (a b : Nat) (h : b ≤ 20) : spanN a b < 1048576 := by
  have h1 := maskTo_lt (spanP a) b
  have h2 := pow_small b h
  unfold spanN; omega
theorem everyN_lt (a b : Nat) (h : b ≤ 20) : everyN a b < 1048576 := by
  have h1 := maskTo_lt (everyP a) b
  have h2 := pow_small b h
  unfold everyN; omega
theorem wordVal_lt (n k : Nat) (hn : n ≤ 20) : wordVal n k < 1048576 := by
  unfold wordVal
  split
  · exact spanN_lt _ _ hn
  · exact everyN_lt _ _ hn
  · exact everyN_lt _ _ hn
  · exact spanN_lt _ _ (by omega)
  · exact spanN_lt _ _ hn
theorem itemR_lt (x z : List UInt8) (n : Nat) (hn : n ≤ 20) : (itemR x z n).1 < 1048576 ∧ (itemR x z n).2 ≤ 4 := by
  unfold itemR
  by_cases h2 : numOk x = false ∨ numOk z = false
  · rw [if_pos h2]; exact ⟨by simp, by simp⟩
  · rw [if_neg h2]
    by_cases h3 : n < numV x ∨ n < numV z ∨ numV z < numV x
    · rw [if_pos h3]; exact ⟨by simp, by simp⟩
    · rw [if_neg h3]; exact ⟨spanN_lt _ _ (by omega), by simp⟩
theorem itemV_lt (l : List UInt8) (n : Nat) (hn : n ≤ 20) : (itemV l n).1 < 1048576 ∧ (itemV l n).2 ≤ 4 := by
  unfold itemV
  by_cases h1 : wordIdx l < 5
  · rw [if_pos h1]; exact ⟨wordVal_lt _ _ hn, by simp⟩
  · rw [if_neg h1]; exact itemR_lt _ _ _ hn
theorem or_lt (a b : Nat) (ha : a < 1048576) (hb : b < 1048576) : a ||| b < 1048576 := by
  have := Nat.or_lt_two_pow (n := 20) (by simpa using ha) (by simpa using hb)
  simpa using this
theorem itemsV_cons (n : Nat) (x : List UInt8) (r : List (List UInt8)) (acc : Nat) : itemsV n (x :: r) acc = if (itemV x n).2 = 0 then itemsV n r (acc ||| (itemV x n).1) else (0, (itemV x n).2) := rfl

end Go.Proofs.YtonpfohhedcjbaaGreatDoor
