/- Walks of package weekset, on: numbers, items. -/
import Derived.Test.YtonpfohhedcjbaaGreatDoorKWs
import Derived.Lib.SmallJoins
namespace Go.Proofs.YtonpfohhedcjbaaGreatDoor
open Go.RowKit

/-- The number that a text of one or two digits reads as (the first not 0); none for all others. -/
def numL : List UInt8 → Option Nat
  | [a] => if 49 ≤ a.toNat ∧ a.toNat ≤ 57 then some (a.toNat - 48) else none
  | [a, b] => if 49 ≤ a.toNat ∧ a.toNat ≤ 57 ∧ 48 ≤ b.toNat ∧ b.toNat ≤ 57 then some (10 * (a.toNat - 48) + (b.toNat - 48)) else none
  | _ => none
theorem numL_parts {l : List UInt8} {n : Nat} (h : numL l = some n) : l.length ≤ 2 ∧ (∃ a, l[0]? = some a ∧ 49 ≤ a.toNat ∧ a.toNat ≤ 57) ∧ 1 ≤ n ∧ n ≤ 99 ∧ Lib.atoi l = some (n : Int) := by
  match l, h with
  | [a], h =>
    simp only [numL] at h
    split at h
    · rename_i hd
      obtain rfl := Option.some.inj h
      have h43 : ¬ a = 43 := by rintro rfl; revert hd; decide
      have h45 : ¬ a = 45 := by rintro rfl; revert hd; decide
      have hv : Lib.digitVal a = some (a.toNat - 48) := by rw [Lib.digitVal, if_pos (by omega)]
      refine ⟨by simp, ⟨a, rfl, hd.1, hd.2⟩, by omega, by omega, ?_⟩
      simp [Lib.atoi, h43, h45, Lib.decNat, Lib.decFrom, hv]
    · cases h
  | [a, b], h =>
    simp only [numL] at h
    split at h
    · rename_i hd
      obtain rfl := Option.some.inj h
      have h43 : ¬ a = 43 := by rintro rfl; revert hd; simp
      have h45 : ¬ a = 45 := by rintro rfl; revert hd; simp
      have hv : Lib.digitVal a = some (a.toNat - 48) := by rw [Lib.digitVal, if_pos (by omega)]
      have hw : Lib.digitVal b = some (b.toNat - 48) := by rw [Lib.digitVal, if_pos (by omega)]
      refine ⟨by simp, ⟨a, rfl, hd.1, hd.2.1⟩, by omega, by omega, ?_⟩
      simp [Lib.atoi, h43, h45, Lib.decNat, Lib.decFrom, hv, hw]
      omega
    · cases h
  | [], h => simp [numL] at h
  | _ :: _ :: _ :: _, h => simp [numL] at h
theorem atoi_none {l : List UInt8} (hl : l.length ≤ 2) (a : UInt8) (ha : l[0]? = some a) (h1 : 49 ≤ a.toNat) (h2 : a.toNat ≤ 57) (h : numL l = none) : Lib.atoi l = none := by
  match l, hl, ha, h with
  | [x], _, ha, h =>
    obtain rfl : x = a := by simpa using ha
    simp [numL, h1, h2] at h
  | [x, b], _, ha, h =>
    obtain rfl : x = a := by simpa using ha
    have h43 : ¬ x = 43 := by rintro rfl; revert h1; decide
    have h45 : ¬ x = 45 := by rintro rfl; revert h1; decide
    have hv : Lib.digitVal x = some (x.toNat - 48) := by rw [Lib.digitVal, if_pos (by omega)]
    have hw : Lib.digitVal b = none := by
      rw [Lib.digitVal, if_neg]
      intro hb
      simp [numL, h1, h2, hb] at h
    simp [Lib.atoi, h43, h45, Lib.decNat, Lib.decFrom, hv, hw]
theorem ba_at0 (s : ByteArray) (h : 0 < s.size) : s.data.toList[0]? = some s[0] := by
  have h' : 0 < s.data.toList.length := by simpa using h
  rw [List.getElem?_eq_getElem h']; rfl
theorem ba_len (s : ByteArray) : s.data.toList.length = s.size := by simp

-- <number>
end Go.Proofs.YtonpfohhedcjbaaGreatDoor
