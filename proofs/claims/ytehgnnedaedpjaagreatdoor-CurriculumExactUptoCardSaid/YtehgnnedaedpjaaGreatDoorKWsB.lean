/- Walks of package weekset, on: numbers, items. -/
import Derived.Test.YtehgnnedaedpjaaGreatDoorKWs
import Derived.Lib.SmallJoins
namespace Go.Proofs.YtehgnnedaedpjaaGreatDoor
open Go.RowKit

/-- The number that a text of one or two digits reads as (the first not 0); none for all others. -/
def numL : List UInt8 → Option Nat
  | [a] => if 49 ≤ a.toNat ∧ a.toNat ≤ 57 then some (a.toNat - 48) else none
  | [a, b] => if 49 ≤ a.toNat ∧ a.toNat ≤ 57 ∧ 48 ≤ b.toNat ∧ b.toNat ≤ 57 then some (10 * (a.toNat - 48) + (b.toNat - 48)) else none
  | _ => none
theorem numL_parts {l : List UInt8} {n : Nat} (h : numL l = some n) : l.length ≤ 2 ∧ (∃ a, l[0]? = some a ∧ 49 ≤ a.toNat ∧ a.toNat ≤ 57) ∧ 1 ≤ n ∧ n ≤ 99 ∧ Lib.atoi l = some (n : Int) := by
  match l, h with
  | [a], h =>
    simp only [numL] at h
    split at h
    · rename_i hd
      obtain rfl := Option.some.inj h
      have h43 : ¬ a = 43 := by rintro rfl; revert hd; decide
      have h45 : ¬ a = 45 := by rintro rfl; revert hd; decide
      have hv : Lib.digitVal a = some (a.toNat - 48) := by rw [Lib.digitVal, if_pos (by omega)]
      refine ⟨by simp, ⟨a, rfl, hd.1, hd.2⟩, by omega, by omega, ?_⟩
      simp [Lib.atoi, h43, h45, Lib.decNat, Lib.decFrom, hv]
    · cases h
  | [a, b], h =>
    simp only [numL] at h
    split at h
    · rename_i hd
      obtain rfl := Option.some.inj h
      have h43 : ¬ a = 43 := by rintro rfl; revert hd; simp
      have h45 : ¬ a = 45 := by rintro rfl; revert hd; simp
      have hv : Lib.digitVal a = some (a.toNat - 48) := by rw [Lib.digitVal, if_pos (by omega)]
      have hw : Lib.digitVal b = some (b.toNat - 48) := by rw [Lib.digitVal, if_pos (by omega)]
      refine ⟨by simp, ⟨a, rfl, hd.1, hd.2.1⟩, by omega, by omega, ?_⟩
      simp [Lib.atoi, h43, h45, Lib.decNat, Lib.decFrom, hv, hw]
      omega
    · cases h
  | [], h => simp [numL] at h
  | _ :: _ :: _ :: _, h => simp [numL] at h
theorem atoi_none {l : List UInt8} (hl : l.length ≤ 2) (a : UInt8) (ha : l[0]? = some a) (h1 : 49 ≤ a.toNat) (h2 : a.toNat ≤ 57) (h : numL l = none) : Lib.atoi l = none := by
  match l, hl, ha, h with
  | [x], _, ha, h =>
    obtain rfl : x = a := by simpa using ha
    simp [numL, h1, h2] at h
  | [x, b], _, ha, h =>
    obtain rfl : x = a := by simpa using ha
    have h43 : ¬ x = 43 := by rintro rfl; revert h1; decide
    have h45 : ¬ x = 45 := by rintro rfl; revert h1; decide
    have hv : Lib.digitVal x = some (x.toNat - 48) := by rw [Lib.digitVal, if_pos (by omega)]
    have hw : Lib.digitVal b = none := by
      rw [Lib.digitVal, if_neg]
      intro hb
      simp [numL, h1, h2, hb] at h
    simp [Lib.atoi, h43, h45, Lib.decNat, Lib.decFrom, hv, hw]
theorem ba_at0 (s : ByteArray) (h : 0 < s.size) : s.data.toList[0]? = some s[0] := by
  have h' : 0 < s.data.toList.length := by simpa using h
  rw [List.getElem?_eq_getElem h']; rfl
theorem ba_len (s : ByteArray) : s.data.toList.length = s.size := by simp

-- <number>
set_option maxHeartbeats 400000 in
theorem number_yes (s : ByteArray) (n : Nat) (h : numL s.data.toList = some n) (w : World) :
    Calls Tryz.prog 266 #[.string s] w fun e w' => e = .returned (.tuple #[.int .i64 n, .bool true]) ∧ Below w.heap.size w w' := by
  obtain ⟨hl, ⟨a, ha, h1, h2⟩, _, _, hat⟩ := numL_parts h
  rw [ba_len] at hl
  have h0 : 0 < s.size := by
    rw [← ba_len]; exact (List.getElem?_eq_some_iff.1 ha).1
  rw [ba_at0 s h0] at ha
  obtain rfl := Option.some.inj ha
  have hat := hide hat
  clear h ha
  go_enter Tryz.func266, Tryz.ntmps266
  go_wp2_with (go_at_call 219; refine (Tryz.strconv_Atoi s n (by omega) hat.out _).mono ?_; rintro e w' ⟨rfl, t, rfl⟩)
  go_quiet (fail)
  go_wp2
  go_ret2
  exact ⟨rfl, below_drewN (Joins.below_bytesWorld _ _ _ _ (Nat.le_refl _)) _⟩

set_option maxHeartbeats 400000 in
theorem number_no (s : ByteArray) (h : numL s.data.toList = none) (w : World) (hS : Std w) :
    Calls Tryz.prog 266 #[.string s] w fun e w' => e = .returned (.tuple #[.int .i64 0, .bool false]) ∧ Below w.heap.size w w' := by
  by_cases h0 : 1 ≤ s.size ∧ s.size ≤ 2
  · obtain ⟨h0, hl⟩ := h0
    have h0' : 0 < s.size := h0
    by_cases h1 : 49 ≤ (s[0]'h0').toNat ∧ (s[0]'h0').toNat ≤ 57
    · obtain ⟨h1, h2⟩ := h1
      have hat := hide (atoi_none (by rw [ba_len]; exact hl) _ (ba_at0 s h0') h1 h2 h)
      clear h
      obtain ⟨te, pe, hv⟩ := hS.errSyntax
      go_enter Tryz.func266, Tryz.ntmps266
      go_wp2_with (go_at_call 219; refine (Tryz.strconv_Atoi_err s (by omega) hat.out _ _ hv (Or.inr ⟨te, pe, rfl⟩)).mono ?_; rintro e w' ⟨N, rfl, hN, hc, hb⟩)
      all_goals try (exfalso; omega)
      go_quiet (fail)
      go_wp2
      go_ret2
      exact ⟨rfl, below_drewN hb _⟩
    · clear h
      go_enter Tryz.func266, Tryz.ntmps266
      go_wp2
      all_goals try (exfalso; omega)
      all_goals go_ret2
      all_goals exact ⟨rfl, Below.refl _ _⟩
  · clear h
    go_enter Tryz.func266, Tryz.ntmps266
    go_wp2
    all_goals try (exfalso; omega)
    all_goals go_ret2
    all_goals exact ⟨rfl, Below.refl _ _⟩
-- </number>
end Go.Proofs.YtehgnnedaedpjaaGreatDoor
