/- Walks of fields.Digits, Scanner.Number, timetableref03.number, Digits: texts of digits. Conditions: at most 18 of them. -/
import Derived.Test.YtonpfohhedcjbaaGreatDoorKFieldsC
import Derived.Test.YtonpfohhedcjbaaGreatDoorShelfT
import Derived.Test.YtonpfohhedcjbaaGreatDoorKTgF
namespace Go.Proofs.YtonpfohhedcjbaaGreatDoor
open Go.RowKit
set_option maxRecDepth 100000

def cutDigits : ByteArray := ⟨#[48, 49, 50, 51, 52, 53, 54, 55, 56, 57]⟩
/-- All bytes are digits. -/
def digS (s : ByteArray) : Bool := s.data.toList.all fun b => digN b.toNat
theorem cut_has (b : UInt8) : cutDigits.data.toList.contains b = digN b.toNat := by
  have h : ∀ n : Fin 256, cutDigits.data.toList.contains (UInt8.ofNat n.val) = digN n.val := by decide
  have := h ⟨b.toNat, b.toNat_lt⟩
  simpa using this
theorem drop_all {p : UInt8 → Bool} : ∀ {l : List UInt8}, l.all p = true → l.dropWhile p = []
  | [], _ => rfl
  | b :: l, h => by
    rw [List.all_cons, Bool.and_eq_true] at h
    rw [List.dropWhile_cons, if_pos h.1]
    exact drop_all h.2
theorem all_drop {p : UInt8 → Bool} : ∀ {l : List UInt8}, l.dropWhile p = [] → l.all p = true
  | [], _ => rfl
  | b :: l, h => by
    rw [List.dropWhile_cons] at h
    split at h
    · rename_i hb; rw [List.all_cons, hb, all_drop h]; rfl
    · cases h
theorem trim_all (s : ByteArray) : Lib.trimS s.data.toList cutDigits.data.toList = [] ↔ digS s = true := by
  have hf : (fun b => cutDigits.data.toList.contains b) = fun b : UInt8 => digN b.toNat := funext cut_has
  unfold Lib.trimS Lib.trimLeftS Lib.trimRightS digS
  rw [hf]
  constructor
  · intro h
    have h1 := all_drop h
    rw [List.all_reverse] at h1
    cases hd : List.dropWhile (fun b : UInt8 => digN b.toNat) s.data.toList.reverse with
    | nil => have := all_drop hd; rwa [List.all_reverse] at this
    | cons a t =>
      rw [hd, List.all_cons, Bool.and_eq_true] at h1
      have : ∀ {l : List UInt8}, List.dropWhile (fun b : UInt8 => digN b.toNat) l = a :: t → digN a.toNat = false := by
        intro l
        induction l with
        | nil => intro h; cases h
        | cons b l ih =>
          intro h
          rw [List.dropWhile_cons] at h
          split at h
          · exact ih h
          · rename_i hb; injection h with h2; subst h2; simpa using hb
      rw [this hd] at h1
      cases h1.1
  · intro h
    rw [drop_all (l := s.data.toList.reverse) (by rw [List.all_reverse]; exact h)]
    rfl
/-- The number that digits spell. -/
def valS (s : ByteArray) : Nat := (Lib.decFrom 0 s.data.toList).getD 0
def valTo (s : ByteArray) (k : Nat) : Nat := (Lib.decFrom 0 (s.data.toList.take k)).getD 0
theorem dec_some : ∀ {l : List UInt8} (a : Nat), (l.all fun b => digN b.toNat) = true → ∃ n, Lib.decFrom a l = some n ∧ n + 1 ≤ (a + 1) * 10 ^ l.length
  | [], a, _ => ⟨a, rfl, by simp⟩
  | b :: l, a, h => by
    rw [List.all_cons, Bool.and_eq_true] at h
    obtain ⟨h1, h2⟩ := h
    have h1 : 48 ≤ b.toNat ∧ b.toNat ≤ 57 := of_decide_eq_true h1
    obtain ⟨n, hn, hb⟩ := dec_some (a * 10 + (b.toNat - 48)) h2
    refine ⟨n, by simp only [Lib.decFrom, Lib.digitVal, if_pos h1]; exact hn, ?_⟩
    rw [List.length_cons, Nat.pow_succ, Nat.mul_comm (10 ^ _) 10, ← Nat.mul_assoc]
    exact Nat.le_trans hb (Nat.mul_le_mul_right _ (by omega))
theorem dig_val {s : ByteArray} (h : digS s = true) : Lib.decFrom 0 s.data.toList = some (valS s) ∧ valS s + 1 ≤ 10 ^ s.size := by
  obtain ⟨n, hn, hb⟩ := dec_some 0 h
  have e : valS s = n := by unfold valS; rw [hn]; rfl
  rw [e]
  rw [ba_len] at hb
  exact ⟨hn, by omega⟩
theorem dig_first {s : ByteArray} (h : digS s = true) (h0 : 0 < s.size) : 48 ≤ s[0].toNat ∧ s[0].toNat ≤ 57 := by
  have := List.all_eq_true.1 h s[0] (List.mem_of_getElem? (ba_at0 s h0))
  exact of_decide_eq_true this
theorem dig_atoi {s : ByteArray} (h : digS s = true) (h0 : 0 < s.size) : Lib.atoi s.data.toList = some (valS s : Int) := by
  obtain ⟨f1, f2⟩ := dig_first h h0
  have h1 := (dig_val h).1
  have ha := ba_at0 s h0
  obtain ⟨c, hc⟩ : ∃ c, s[0] = c := ⟨_, rfl⟩
  rw [hc] at f1 f2 ha
  cases hl : s.data.toList with
  | nil => rw [hl] at ha; cases ha
  | cons b r =>
    rw [hl] at ha h1
    obtain rfl : b = c := by simpa using ha
    have h43 : ¬ b = 43 := by rintro rfl; revert f1; decide
    have h45 : ¬ b = 45 := by rintro rfl; revert f1; decide
    simp [Lib.atoi, h43, h45, Lib.decNat, h1]
/-- The number of a text of at most so many digits. -/
def numE (most : Nat) (s : ByteArray) : Option Nat := if 1 ≤ s.size ∧ s.size ≤ most ∧ digS s = true then some (valS s) else none
def digV (o : Option Nat) : Value := .tuple #[.int .i64 ((o.getD 0 : Nat) : Int), .bool o.isSome]
end Go.Proofs.YtonpfohhedcjbaaGreatDoor
