/- Walks of packages timegrid and timetableref06, and of Valid of weekset and timetableref05: the functions of numbers. No condition. Walks of packages timegrid and timetableref06, on: weeks, fits, between, before, clock. No condition. -/
import Derived.Test.YtonpfohhedcjbaaGreatDoorKEnds
namespace Go.Proofs.YtonpfohhedcjbaaGreatDoor
open Go.RowKit

def validB (s n : Int) : Bool := decide (1 ≤ n ∧ n ≤ 20 ∧ 1 ≤ s ∧ s < 2 ^ n.toNat)
theorem wrap64_powZ (n : Int) (h : n ≤ 20) : wrap64 ((2 : Int) ^ n.toNat) = (2 : Int) ^ n.toNat := by
  rw [wrap64_pow _ (by omega)]; simp
theorem validB_of {s n : Int} (h1 : 1 ≤ n) (h2 : n ≤ 20) (h3 : 1 ≤ s) : decide (s < wrap64 ((2 : Int) ^ n.toNat)) = validB s n := by
  rw [wrap64_powZ n h2]; simp [validB, h1, h2, h3]
theorem validB_no {s n : Int} (h : ¬ (1 ≤ n ∧ n ≤ 20 ∧ 1 ≤ s)) : validB s n = false := by
  simp only [validB, decide_eq_false_iff_not]; omega
theorem validB_iff {s n : Int} : validB s n = true ↔ 1 ≤ n ∧ n ≤ 20 ∧ 1 ≤ s ∧ s < 2 ^ n.toNat := by simp [validB]

def gridV (d s b m : Int) : Int := if d < 1 ∨ 7 < d ∨ s < 1 ∨ 24 < s ∨ b < 0 ∨ 1440 ≤ b ∨ m < 5 ∨ 120 < m ∨ 1440 < b + s * m then 3 else 0
theorem gridV_yes {d s b m : Int} (h : d < 1 ∨ 7 < d ∨ s < 1 ∨ 24 < s ∨ b < 0 ∨ 1440 ≤ b ∨ m < 5 ∨ 120 < m ∨ 1440 < b + s * m) : gridV d s b m = 3 := if_pos h
theorem gridV_no {d s b m : Int} (h : ¬ (d < 1 ∨ 7 < d ∨ s < 1 ∨ 24 < s ∨ b < 0 ∨ 1440 ≤ b ∨ m < 5 ∨ 120 < m ∨ 1440 < b + s * m)) : gridV d s b m = 0 := if_neg h
theorem prod_bd {s m : Int} (h1 : 1 ≤ s) (h2 : s ≤ 24) (h3 : 5 ≤ m) (h4 : m ≤ 120) : 0 ≤ s * m ∧ s * m ≤ 2880 := by
  have a : s * m ≤ 24 * m := Int.mul_le_mul_of_nonneg_right h2 (by omega)
  have b : 0 ≤ s * m := Int.mul_nonneg (by omega) (by omega)
  omega
def soundB (a b c d : Int) : Bool := validB a 20 && decide (0 ≤ b ∧ b < 7 ∧ 0 ≤ c ∧ 1 ≤ d ∧ c + d ≤ 24)
theorem soundB_no {a b c d : Int} (h : ¬ (0 ≤ b ∧ b < 7 ∧ 0 ≤ c ∧ 1 ≤ d ∧ c + d ≤ 24)) : soundB a b c d = false := by simp only [soundB, decide_eq_false h, Bool.and_false]
theorem soundB_no' {a b c d : Int} (h : validB a 20 = false) : soundB a b c d = false := by simp only [soundB, h, Bool.false_and]
theorem soundB_dec {a b c d : Int} {p : Prop} [Decidable p] (h : validB a 20 = true) (hp : p ↔ (0 ≤ b ∧ b < 7 ∧ 0 ≤ c ∧ 1 ≤ d ∧ c + d ≤ 24)) : soundB a b c d = decide p := by
  simp only [soundB, h, Bool.true_and]; exact decide_eq_decide.2 hp.symm
theorem soundB_parts {a b c d : Int} (h : soundB a b c d = true) : (1 ≤ a ∧ a < 1048576) ∧ 0 ≤ b ∧ b < 7 ∧ 0 ≤ c ∧ 1 ≤ d ∧ c + d ≤ 24 := by
  simp only [soundB, Bool.and_eq_true, decide_eq_true_eq] at h
  have := validB_iff.1 h.1
  exact ⟨⟨this.2.2.1, by have := this.2.2.2; simpa using this⟩, h.2⟩
end Go.Proofs.YtonpfohhedcjbaaGreatDoor

namespace Go.Proofs.YtonpfohhedcjbaaGreatDoor
open Go.RowKit

def weekB (d s b m n : Int) : Bool := decide (gridV d s b m = 0) && decide (1 ≤ n ∧ n ≤ 20)
theorem weekB_no {d s b m n : Int} (h : ¬ (1 ≤ n ∧ n ≤ 20)) : weekB d s b m n = false := by simp only [weekB, decide_eq_false h, Bool.and_false]
theorem weekB_no' {d s b m n : Int} (h : ¬ gridV d s b m = 0) : weekB d s b m n = false := by simp only [weekB, decide_eq_false h, Bool.false_and]
theorem weekB_dec {d s b m n : Int} {p : Prop} [Decidable p] (h : gridV d s b m = 0) (hp : p ↔ (1 ≤ n ∧ n ≤ 20)) : weekB d s b m n = decide p := by
  simp only [weekB, decide_eq_true h, Bool.true_and]; exact decide_eq_decide.2 hp.symm
theorem gridV_eq (d s b m : Int) : gridV d s b m = 0 ∨ gridV d s b m = 3 := by unfold gridV; split <;> simp
/-- What Fits returns. -/
def fitsV (d s b m n a1 a2 a3 a4 : Int) : Int :=
  if weekB d s b m n = false then 1 else if soundB a1 a2 a3 a4 = false ∨ validB a1 n = false ∨ d ≤ a2 ∨ s < a3 + a4 then 14 else 0
end Go.Proofs.YtonpfohhedcjbaaGreatDoor
