/- Walks of packages timegrid and timetableref06, and of Valid of weekset and timetableref05: the functions of numbers. No condition. Walks of packages timegrid and timetableref06, on: weeks, fits, between, before, clock. No condition. -/
import Derived.Test.YtimcdikeajbabaaGreatDoorRows
import Derived.WalkKit
import Derived.WalkSpells
import Derived.WalkLawsBesides
import Derived.BigGuardPart
import Derived.Lib.Hide
import Derived.Laws.BitsAllLaws
import Derived.Laws.BitsLemmas
import Derived.Lib.LaidTab
import Derived.Test.YtimcdikeajbabaaGreatDoorShelf
import Derived.Lib.ConvBytes
import Derived.Deep.QuietTactic
import Derived.BigQuiet
import Derived.Test.YtimcdikeajbabaaGreatDoorZDice
namespace Go.Proofs.YtimcdikeajbabaaGreatDoor
open Go.RowKit

def validB (s n : Int) : Bool := decide (1 ≤ n ∧ n ≤ 20 ∧ 1 ≤ s ∧ s < 2 ^ n.toNat)
theorem wrap64_powZ (n : Int) (h : n ≤ 20) : wrap64 ((2 : Int) ^ n.toNat) = (2 : Int) ^ n.toNat := by
  rw [wrap64_pow _ (by omega)]; simp
theorem validB_of {s n : Int} (h1 : 1 ≤ n) (h2 : n ≤ 20) (h3 : 1 ≤ s) : decide (s < wrap64 ((2 : Int) ^ n.toNat)) = validB s n := by
  rw [wrap64_powZ n h2]; simp [validB, h1, h2, h3]
theorem validB_no {s n : Int} (h : ¬ (1 ≤ n ∧ n ≤ 20 ∧ 1 ≤ s)) : validB s n = false := by
  simp only [validB, decide_eq_false_iff_not]; omega
set_option maxHeartbeats 400000 in
theorem wsValid_walk (s n : Int) (w : World) :
    Calls Tryz.prog 79 #[.int .i64 s, .int .i64 n] w fun e w' => e = .returned (.bool (validB s n)) ∧ w = w' := by
  go_enter Tryz.func79, Tryz.ntmps79
  go_wp2
  all_goals
    go_ret
    refine ⟨ret_bool ?_, rfl⟩
  all_goals first | exact validB_of ‹_› ‹_› ‹_› | exact (validB_no (by omega)).symm
def gridV (d s b m : Int) : Int := if d < 1 ∨ 7 < d ∨ s < 1 ∨ 24 < s ∨ b < 0 ∨ 1440 ≤ b ∨ m < 5 ∨ 120 < m ∨ 1440 < b + s * m then 3 else 0
theorem gridV_yes {d s b m : Int} (h : d < 1 ∨ 7 < d ∨ s < 1 ∨ 24 < s ∨ b < 0 ∨ 1440 ≤ b ∨ m < 5 ∨ 120 < m ∨ 1440 < b + s * m) : gridV d s b m = 3 := if_pos h
theorem gridV_no {d s b m : Int} (h : ¬ (d < 1 ∨ 7 < d ∨ s < 1 ∨ 24 < s ∨ b < 0 ∨ 1440 ≤ b ∨ m < 5 ∨ 120 < m ∨ 1440 < b + s * m)) : gridV d s b m = 0 := if_neg h
theorem prod_bd {s m : Int} (h1 : 1 ≤ s) (h2 : s ≤ 24) (h3 : 5 ≤ m) (h4 : m ≤ 120) : 0 ≤ s * m ∧ s * m ≤ 2880 := by
  have a : s * m ≤ 24 * m := Int.mul_le_mul_of_nonneg_right h2 (by omega)
  have b : 0 ≤ s * m := Int.mul_nonneg (by omega) (by omega)
  omega
set_option maxHeartbeats 1000000 in
theorem tgValid_walk (d s b m : Int) (w : World) :
    Calls Tryz.prog 39 #[.agg #[.int .i64 d, .int .i64 s, .int .i64 b, .int .i64 m]] w fun e w' => e = .returned (.int .i64 (gridV d s b m)) ∧ Below w.heap.size w w' := by
  by_cases hg : 1 ≤ d ∧ d ≤ 7 ∧ 1 ≤ s ∧ s ≤ 24 ∧ 0 ≤ b ∧ b < 1440 ∧ 5 ≤ m ∧ m ≤ 120
  · obtain ⟨h1, h2, h3, h4, h5, h6, h7, h8⟩ := hg
    have hp := prod_bd h3 h4 h7 h8
    obtain ⟨hp1, hp2⟩ := hp
    go_enter Tryz.func39, Tryz.ntmps39
    go_wp2
    all_goals
      go_ret
      refine ⟨ret_int ?_, (by repeat (first | exact Below.refl _ _ | assumption | (refine Below.alloc ?_ (by simp) _) | refine Below.drew ?_))⟩
      first | exact (gridV_yes (by omega)).symm | exact (gridV_no (by omega)).symm
  · rw [gridV_yes (by omega)]
    go_enter Tryz.func39, Tryz.ntmps39
    go_wp2
    all_goals try (exfalso; omega)
    all_goals
      go_ret
      exact ⟨rfl, (by repeat (first | exact Below.refl _ _ | assumption | (refine Below.alloc ?_ (by simp) _) | refine Below.drew ?_))⟩
set_option maxHeartbeats 1000000 in
theorem r6Valid_walk (d s b m : Int) (w : World) :
    Calls Tryz.prog 56 #[.agg #[.int .i64 d, .int .i64 s, .int .i64 b, .int .i64 m]] w fun e w' => e = .returned (.int .i64 (gridV d s b m)) ∧ Below w.heap.size w w' := by
  by_cases hg : 1 ≤ d ∧ d ≤ 7 ∧ 1 ≤ s ∧ s ≤ 24 ∧ 0 ≤ b ∧ b < 1440 ∧ 5 ≤ m ∧ m ≤ 120
  · obtain ⟨h1, h2, h3, h4, h5, h6, h7, h8⟩ := hg
    have hp := prod_bd h3 h4 h7 h8
    obtain ⟨hp1, hp2⟩ := hp
    go_enter Tryz.func56, Tryz.ntmps56
    go_wp2
    all_goals
      go_ret
      refine ⟨ret_int ?_, (by repeat (first | exact Below.refl _ _ | assumption | (refine Below.alloc ?_ (by simp) _) | refine Below.drew ?_))⟩
      first | exact (gridV_yes (by omega)).symm | exact (gridV_no (by omega)).symm
  · rw [gridV_yes (by omega)]
    go_enter Tryz.func56, Tryz.ntmps56
    go_wp2
    all_goals try (exfalso; omega)
    all_goals
      go_ret
      exact ⟨rfl, (by repeat (first | exact Below.refl _ _ | assumption | (refine Below.alloc ?_ (by simp) _) | refine Below.drew ?_))⟩

end Go.Proofs.YtimcdikeajbabaaGreatDoor

namespace Go.Proofs.YtimcdikeajbabaaGreatDoor
open Go.RowKit

def weekB (d s b m n : Int) : Bool := decide (gridV d s b m = 0) && decide (1 ≤ n ∧ n ≤ 20)
theorem weekB_no {d s b m n : Int} (h : ¬ (1 ≤ n ∧ n ≤ 20)) : weekB d s b m n = false := by simp only [weekB, decide_eq_false h, Bool.and_false]
theorem weekB_no' {d s b m n : Int} (h : ¬ gridV d s b m = 0) : weekB d s b m n = false := by simp only [weekB, decide_eq_false h, Bool.false_and]
theorem weekB_dec {d s b m n : Int} {p : Prop} [Decidable p] (h : gridV d s b m = 0) (hp : p ↔ (1 ≤ n ∧ n ≤ 20)) : weekB d s b m n = decide p := by
  simp only [weekB, decide_eq_true h, Bool.true_and]; exact decide_eq_decide.2 hp.symm
set_option maxHeartbeats 1000000 in
theorem tgWeek_walk (d s b m n : Int) (w : World) :
    Calls Tryz.prog 57 #[.agg #[.int .i64 d, .int .i64 s, .int .i64 b, .int .i64 m], .int .i64 n] w fun e w' => e = .returned (.bool (weekB d s b m n)) ∧ Below w.heap.size w w' := by
  go_enter Tryz.func57, Tryz.ntmps57
  go_wp2_with (go_at_call 39; refine (tgValid_walk _ _ _ _ _).mono ?_; rintro e w1 ⟨rfl, hb1⟩)
  all_goals go_ret
  all_goals
    refine ⟨ret_bool ?_, (by repeat (first | exact Below.refl _ _ | refine ext_alloc ?_ _ | refine ext_drewN ?_ _ | refine ext_drew ?_ | refine ext_trans ?_ (by assumption)))⟩
    first | exact (weekB_no (by omega)).symm | exact (weekB_no' (by assumption)).symm | exact (weekB_dec (by assumption) (by omega)).symm
set_option maxHeartbeats 1000000 in
theorem r6Usable_walk (d s b m n : Int) (w : World) :
    Calls Tryz.prog 49 #[.agg #[.int .i64 d, .int .i64 s, .int .i64 b, .int .i64 m], .int .i64 n] w fun e w' => e = .returned (.bool (weekB d s b m n)) ∧ Below w.heap.size w w' := by
  go_enter Tryz.func49, Tryz.ntmps49
  go_wp2_with (go_at_call 56; refine (r6Valid_walk _ _ _ _ _).mono ?_; rintro e w1 ⟨rfl, hb1⟩)
  all_goals go_ret
  all_goals
    refine ⟨ret_bool ?_, (by repeat (first | exact Below.refl _ _ | refine ext_alloc ?_ _ | refine ext_drewN ?_ _ | refine ext_drew ?_ | refine ext_trans ?_ (by assumption)))⟩
    first | exact (weekB_no (by omega)).symm | exact (weekB_no' (by assumption)).symm | exact (weekB_dec (by assumption) (by omega)).symm

end Go.Proofs.YtimcdikeajbabaaGreatDoor
