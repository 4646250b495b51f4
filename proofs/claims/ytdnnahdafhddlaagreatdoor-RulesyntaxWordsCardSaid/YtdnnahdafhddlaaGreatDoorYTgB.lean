/- Walks of packages timegrid and timetableref06, and of Valid of weekset and timetableref05: the functions of numbers. No condition. Walks of packages timegrid and timetableref06, on: weeks, fits, between, before, clock. No condition. -/
import Derived.Test.YtdnnahdafhddlaaGreatDoorYDice
namespace Go.Proofs.YtdnnahdafhddlaaGreatDoor
open Go.RowKit

def validB (s n : Int) : Bool := decide (1 ≤ n ∧ n ≤ 20 ∧ 1 ≤ s ∧ s < 2 ^ n.toNat)
theorem wrap64_powZ (n : Int) (h : n ≤ 20) : wrap64 ((2 : Int) ^ n.toNat) = (2 : Int) ^ n.toNat := by
  rw [wrap64_pow _ (by omega)]; simp
theorem validB_of {s n : Int} (h1 : 1 ≤ n) (h2 : n ≤ 20) (h3 : 1 ≤ s) : decide (s < wrap64 ((2 : Int) ^ n.toNat)) = validB s n := by
  rw [wrap64_powZ n h2]; simp [validB, h1, h2, h3]
theorem validB_no {s n : Int} (h : ¬ (1 ≤ n ∧ n ≤ 20 ∧ 1 ≤ s)) : validB s n = false := by
  simp only [validB, decide_eq_false_iff_not]; omega
theorem validB_iff {s n : Int} : validB s n = true ↔ 1 ≤ n ∧ n ≤ 20 ∧ 1 ≤ s ∧ s < 2 ^ n.toNat := by simp [validB]

set_option maxHeartbeats 400000 in
theorem wsValid_walk (s n : Int) (w : World) :
    Calls Tryz.prog 164 #[.int .i64 s, .int .i64 n] w fun e w' => e = .returned (.bool (validB s n)) ∧ w = w' := by
  go_enter Tryz.func164, Tryz.ntmps164
  go_wp2
  all_goals
    go_ret
    refine ⟨ret_bool ?_, rfl⟩
  all_goals first | exact validB_of ‹_› ‹_› ‹_› | exact (validB_no (by omega)).symm
set_option maxHeartbeats 400000 in
theorem r5Valid_walk (s n : Int) (w : World) :
    Calls Tryz.prog 75 #[.int .i64 s, .int .i64 n] w fun e w' => e = .returned (.bool (validB s n)) ∧ w = w' := by
  go_enter Tryz.func75, Tryz.ntmps75
  go_wp2
  all_goals
    go_ret
    refine ⟨ret_bool ?_, rfl⟩
  all_goals first | exact validB_of ‹_› ‹_› ‹_› | exact (validB_no (by omega)).symm

def gridV (d s b m : Int) : Int := if d < 1 ∨ 7 < d ∨ s < 1 ∨ 24 < s ∨ b < 0 ∨ 1440 ≤ b ∨ m < 5 ∨ 120 < m ∨ 1440 < b + s * m then 3 else 0
theorem gridV_yes {d s b m : Int} (h : d < 1 ∨ 7 < d ∨ s < 1 ∨ 24 < s ∨ b < 0 ∨ 1440 ≤ b ∨ m < 5 ∨ 120 < m ∨ 1440 < b + s * m) : gridV d s b m = 3 := if_pos h
theorem gridV_no {d s b m : Int} (h : ¬ (d < 1 ∨ 7 < d ∨ s < 1 ∨ 24 < s ∨ b < 0 ∨ 1440 ≤ b ∨ m < 5 ∨ 120 < m ∨ 1440 < b + s * m)) : gridV d s b m = 0 := if_neg h
theorem prod_bd {s m : Int} (h1 : 1 ≤ s) (h2 : s ≤ 24) (h3 : 5 ≤ m) (h4 : m ≤ 120) : 0 ≤ s * m ∧ s * m ≤ 2880 := by
  have a : s * m ≤ 24 * m := Int.mul_le_mul_of_nonneg_right h2 (by omega)
  have b : 0 ≤ s * m := Int.mul_nonneg (by omega) (by omega)
  omega
set_option maxHeartbeats 1000000 in
theorem tgValid_walk (d s b m : Int) (w : World) :
    Calls Tryz.prog 66 #[.agg #[.int .i64 d, .int .i64 s, .int .i64 b, .int .i64 m]] w fun e w' => e = .returned (.int .i64 (gridV d s b m)) ∧ Below w.heap.size w w' := by
  by_cases hg : 1 ≤ d ∧ d ≤ 7 ∧ 1 ≤ s ∧ s ≤ 24 ∧ 0 ≤ b ∧ b < 1440 ∧ 5 ≤ m ∧ m ≤ 120
  · obtain ⟨h1, h2, h3, h4, h5, h6, h7, h8⟩ := hg
    have hp := prod_bd h3 h4 h7 h8
    obtain ⟨hp1, hp2⟩ := hp
    go_enter Tryz.func66, Tryz.ntmps66
    go_wp2
    all_goals
      go_ret
      refine ⟨ret_int ?_, (by repeat (first | exact Below.refl _ _ | assumption | (refine Below.alloc ?_ (by simp) _) | refine Below.drew ?_))⟩
      first | exact (gridV_yes (by omega)).symm | exact (gridV_no (by omega)).symm
  · rw [gridV_yes (by omega)]
    go_enter Tryz.func66, Tryz.ntmps66
    go_wp2
    all_goals try (exfalso; omega)
    all_goals
      go_ret
      exact ⟨rfl, (by repeat (first | exact Below.refl _ _ | assumption | (refine Below.alloc ?_ (by simp) _) | refine Below.drew ?_))⟩
set_option maxHeartbeats 1000000 in
theorem r6Valid_walk (d s b m : Int) (w : World) :
    Calls Tryz.prog 71 #[.agg #[.int .i64 d, .int .i64 s, .int .i64 b, .int .i64 m]] w fun e w' => e = .returned (.int .i64 (gridV d s b m)) ∧ Below w.heap.size w w' := by
  by_cases hg : 1 ≤ d ∧ d ≤ 7 ∧ 1 ≤ s ∧ s ≤ 24 ∧ 0 ≤ b ∧ b < 1440 ∧ 5 ≤ m ∧ m ≤ 120
  · obtain ⟨h1, h2, h3, h4, h5, h6, h7, h8⟩ := hg
    have hp := prod_bd h3 h4 h7 h8
    obtain ⟨hp1, hp2⟩ := hp
    go_enter Tryz.func71, Tryz.ntmps71
    go_wp2
    all_goals
      go_ret
      refine ⟨ret_int ?_, (by repeat (first | exact Below.refl _ _ | assumption | (refine Below.alloc ?_ (by simp) _) | refine Below.drew ?_))⟩
      first | exact (gridV_yes (by omega)).symm | exact (gridV_no (by omega)).symm
  · rw [gridV_yes (by omega)]
    go_enter Tryz.func71, Tryz.ntmps71
    go_wp2
    all_goals try (exfalso; omega)
    all_goals
      go_ret
      exact ⟨rfl, (by repeat (first | exact Below.refl _ _ | assumption | (refine Below.alloc ?_ (by simp) _) | refine Below.drew ?_))⟩

def soundB (a b c d : Int) : Bool := validB a 20 && decide (0 ≤ b ∧ b < 7 ∧ 0 ≤ c ∧ 1 ≤ d ∧ c + d ≤ 24)
theorem soundB_no {a b c d : Int} (h : ¬ (0 ≤ b ∧ b < 7 ∧ 0 ≤ c ∧ 1 ≤ d ∧ c + d ≤ 24)) : soundB a b c d = false := by simp only [soundB, decide_eq_false h, Bool.and_false]
theorem soundB_no' {a b c d : Int} (h : validB a 20 = false) : soundB a b c d = false := by simp only [soundB, h, Bool.false_and]
theorem soundB_dec {a b c d : Int} {p : Prop} [Decidable p] (h : validB a 20 = true) (hp : p ↔ (0 ≤ b ∧ b < 7 ∧ 0 ≤ c ∧ 1 ≤ d ∧ c + d ≤ 24)) : soundB a b c d = decide p := by
  simp only [soundB, h, Bool.true_and]; exact decide_eq_decide.2 hp.symm
theorem soundB_parts {a b c d : Int} (h : soundB a b c d = true) : (1 ≤ a ∧ a < 1048576) ∧ 0 ≤ b ∧ b < 7 ∧ 0 ≤ c ∧ 1 ≤ d ∧ c + d ≤ 24 := by
  simp only [soundB, Bool.and_eq_true, decide_eq_true_eq] at h
  have := validB_iff.1 h.1
  exact ⟨⟨this.2.2.1, by have := this.2.2.2; simpa using this⟩, h.2⟩
set_option maxHeartbeats 1000000 in
theorem tgSound_walk (a b c d : Int) (w : World) :
    Calls Tryz.prog 163 #[.agg #[.int .i64 a, .int .i64 b, .int .i64 c, .int .i64 d]] w fun e w' => e = .returned (.bool (soundB a b c d)) ∧ Below w.heap.size w w' := by
  go_enter Tryz.func163, Tryz.ntmps163
  go_wp2_with (go_at_call 164; refine (wsValid_walk _ _ _).mono ?_; rintro e w' ⟨rfl, rfl⟩)
  all_goals go_ret
  all_goals
    refine ⟨ret_bool ?_, (by repeat (first | exact Below.refl _ _ | assumption | (refine Below.alloc ?_ (by simp) _) | refine Below.drew ?_))⟩
    first | exact (soundB_no (by omega)).symm | exact (soundB_no' (by assumption)).symm | exact (soundB_dec (by assumption) (by omega)).symm
set_option maxHeartbeats 1000000 in
theorem r6Sound_walk (a b c d : Int) (w : World) :
    Calls Tryz.prog 74 #[.agg #[.int .i64 a, .int .i64 b, .int .i64 c, .int .i64 d]] w fun e w' => e = .returned (.bool (soundB a b c d)) ∧ Below w.heap.size w w' := by
  go_enter Tryz.func74, Tryz.ntmps74
  go_wp2_with (go_at_call 75; refine (r5Valid_walk _ _ _).mono ?_; rintro e w' ⟨rfl, rfl⟩)
  all_goals go_ret
  all_goals
    refine ⟨ret_bool ?_, (by repeat (first | exact Below.refl _ _ | assumption | (refine Below.alloc ?_ (by simp) _) | refine Below.drew ?_))⟩
    first | exact (soundB_no (by omega)).symm | exact (soundB_no' (by assumption)).symm | exact (soundB_dec (by assumption) (by omega)).symm
end Go.Proofs.YtdnnahdafhddlaaGreatDoor

namespace Go.Proofs.YtdnnahdafhddlaaGreatDoor
open Go.RowKit

def weekB (d s b m n : Int) : Bool := decide (gridV d s b m = 0) && decide (1 ≤ n ∧ n ≤ 20)
theorem weekB_no {d s b m n : Int} (h : ¬ (1 ≤ n ∧ n ≤ 20)) : weekB d s b m n = false := by simp only [weekB, decide_eq_false h, Bool.and_false]
theorem weekB_no' {d s b m n : Int} (h : ¬ gridV d s b m = 0) : weekB d s b m n = false := by simp only [weekB, decide_eq_false h, Bool.false_and]
theorem weekB_dec {d s b m n : Int} {p : Prop} [Decidable p] (h : gridV d s b m = 0) (hp : p ↔ (1 ≤ n ∧ n ≤ 20)) : weekB d s b m n = decide p := by
  simp only [weekB, decide_eq_true h, Bool.true_and]; exact decide_eq_decide.2 hp.symm
set_option maxHeartbeats 1000000 in
theorem tgWeek_walk (d s b m n : Int) (w : World) :
    Calls Tryz.prog 31 #[.agg #[.int .i64 d, .int .i64 s, .int .i64 b, .int .i64 m], .int .i64 n] w fun e w' => e = .returned (.bool (weekB d s b m n)) ∧ Below w.heap.size w w' := by
  go_enter Tryz.func31, Tryz.ntmps31
  go_wp2_with (go_at_call 66; refine (tgValid_walk _ _ _ _ _).mono ?_; rintro e w1 ⟨rfl, hb1⟩)
  all_goals go_ret
  all_goals
    refine ⟨ret_bool ?_, (by repeat (first | exact Below.refl _ _ | refine ext_alloc ?_ _ | refine ext_drewN ?_ _ | refine ext_drew ?_ | refine ext_trans ?_ (by assumption)))⟩
    first | exact (weekB_no (by omega)).symm | exact (weekB_no' (by assumption)).symm | exact (weekB_dec (by assumption) (by omega)).symm
set_option maxHeartbeats 1000000 in
theorem r6Usable_walk (d s b m n : Int) (w : World) :
    Calls Tryz.prog 35 #[.agg #[.int .i64 d, .int .i64 s, .int .i64 b, .int .i64 m], .int .i64 n] w fun e w' => e = .returned (.bool (weekB d s b m n)) ∧ Below w.heap.size w w' := by
  go_enter Tryz.func35, Tryz.ntmps35
  go_wp2_with (go_at_call 71; refine (r6Valid_walk _ _ _ _ _).mono ?_; rintro e w1 ⟨rfl, hb1⟩)
  all_goals go_ret
  all_goals
    refine ⟨ret_bool ?_, (by repeat (first | exact Below.refl _ _ | refine ext_alloc ?_ _ | refine ext_drewN ?_ _ | refine ext_drew ?_ | refine ext_trans ?_ (by assumption)))⟩
    first | exact (weekB_no (by omega)).symm | exact (weekB_no' (by assumption)).symm | exact (weekB_dec (by assumption) (by omega)).symm

/-- What Fits returns. -/
def fitsV (d s b m n a1 a2 a3 a4 : Int) : Int :=
  if weekB d s b m n = false then 1 else if soundB a1 a2 a3 a4 = false ∨ validB a1 n = false ∨ d ≤ a2 ∨ s < a3 + a4 then 14 else 0
set_option maxHeartbeats 2000000 in
theorem tgFits_walk (d s b m n a1 a2 a3 a4 : Int) (w : World) :
    Calls Tryz.prog 114 #[.agg #[.int .i64 d, .int .i64 s, .int .i64 b, .int .i64 m], .int .i64 n, .agg #[.int .i64 a1, .int .i64 a2, .int .i64 a3, .int .i64 a4]] w fun e w' => e = .returned (.int .i64 (fitsV d s b m n a1 a2 a3 a4)) ∧ Below w.heap.size w w' := by
  obtain ⟨v, hv⟩ : ∃ v, fitsV d s b m n a1 a2 a3 a4 = v := ⟨_, rfl⟩
  rw [hv]
  unfold fitsV at hv
  cases hw : weekB d s b m n
  · rw [if_pos hw] at hv
    subst hv
    go_enter Tryz.func114, Tryz.ntmps114
    go_wp2_with fail
    refine (tgWeek_walk _ _ _ _ _ _).mono ?_
    rintro e w1 ⟨rfl, hb⟩
    obtain ⟨hc, hf⟩ := bcell hb
    go_wp2
    go_ret
    exact ⟨rfl, (by repeat (first | exact Below.refl _ _ | refine ext_alloc ?_ _ | refine ext_drewN ?_ _ | refine ext_drew ?_ | refine ext_trans ?_ (by assumption)))⟩
  · rw [if_neg (by simp [hw])] at hv
    cases hs : soundB a1 a2 a3 a4
    · rw [if_pos (Or.inl hs)] at hv
      subst hv
      go_enter Tryz.func114, Tryz.ntmps114
      go_wp2_with fail
      refine (tgWeek_walk _ _ _ _ _ _).mono ?_
      rintro e w1 ⟨rfl, hb⟩
      obtain ⟨hc, hf⟩ := bcell hb
      go_wp2_with fail
      refine (tgSound_walk _ _ _ _ _).mono ?_
      rintro e w2 ⟨rfl, hbn⟩
      replace hb := ext_trans hb hbn
      clear hc hf hbn
      obtain ⟨hc, hf⟩ := bcell hb
      go_wp2
      go_ret
      exact ⟨rfl, (by repeat (first | exact Below.refl _ _ | refine ext_alloc ?_ _ | refine ext_drewN ?_ _ | refine ext_drew ?_ | refine ext_trans ?_ (by assumption)))⟩
    · obtain ⟨_, q1, q2, q3, q4, q5⟩ := soundB_parts hs
      cases hx : validB a1 n
      · rw [if_pos (Or.inr (Or.inl hx))] at hv
        subst hv
        go_enter Tryz.func114, Tryz.ntmps114
        go_wp2_with fail
        refine (tgWeek_walk _ _ _ _ _ _).mono ?_
        rintro e w1 ⟨rfl, hb⟩
        obtain ⟨hc, hf⟩ := bcell hb
        go_wp2_with fail
        refine (tgSound_walk _ _ _ _ _).mono ?_
        rintro e w2 ⟨rfl, hbn⟩
        replace hb := ext_trans hb hbn
        clear hc hf hbn
        obtain ⟨hc, hf⟩ := bcell hb
        go_wp2_with (go_at_call 164; refine (wsValid_walk _ _ _).mono ?_; rintro e w3 ⟨rfl, rfl⟩)
        go_ret
        exact ⟨rfl, (by repeat (first | exact Below.refl _ _ | refine ext_alloc ?_ _ | refine ext_drewN ?_ _ | refine ext_drew ?_ | refine ext_trans ?_ (by assumption)))⟩
      · have hv := hide hv
        go_enter Tryz.func114, Tryz.ntmps114
        go_wp2_with fail
        refine (tgWeek_walk _ _ _ _ _ _).mono ?_
        rintro e w1 ⟨rfl, hb⟩
        obtain ⟨hc, hf⟩ := bcell hb
        go_wp2_with fail
        refine (tgSound_walk _ _ _ _ _).mono ?_
        rintro e w2 ⟨rfl, hbn⟩
        replace hb := ext_trans hb hbn
        clear hc hf hbn
        obtain ⟨hc, hf⟩ := bcell hb
        go_wp2_with (go_at_call 164; refine (wsValid_walk _ _ _).mono ?_; rintro e w3 ⟨rfl, rfl⟩)
        all_goals
          go_ret
          refine ⟨ret_int ?_, (by repeat (first | exact Below.refl _ _ | refine ext_alloc ?_ _ | refine ext_drewN ?_ _ | refine ext_drew ?_ | refine ext_trans ?_ (by assumption)))⟩
          rw [← hv.out]
          first | exact (if_pos (by omega)).symm | exact (if_neg (by rw [hs, hx]; simp; omega)).symm
set_option maxHeartbeats 2000000 in
theorem r6Fits_walk (d s b m n a1 a2 a3 a4 : Int) (w : World) :
    Calls Tryz.prog 38 #[.agg #[.int .i64 d, .int .i64 s, .int .i64 b, .int .i64 m], .int .i64 n, .agg #[.int .i64 a1, .int .i64 a2, .int .i64 a3, .int .i64 a4]] w fun e w' => e = .returned (.int .i64 (fitsV d s b m n a1 a2 a3 a4)) ∧ Below w.heap.size w w' := by
  obtain ⟨v, hv⟩ : ∃ v, fitsV d s b m n a1 a2 a3 a4 = v := ⟨_, rfl⟩
  rw [hv]
  unfold fitsV at hv
  cases hw : weekB d s b m n
  · rw [if_pos hw] at hv
    subst hv
    go_enter Tryz.func38, Tryz.ntmps38
    go_wp2_with fail
    refine (r6Usable_walk _ _ _ _ _ _).mono ?_
    rintro e w1 ⟨rfl, hb⟩
    obtain ⟨hc, hf⟩ := bcell hb
    go_wp2
    go_ret
    exact ⟨rfl, (by repeat (first | exact Below.refl _ _ | refine ext_alloc ?_ _ | refine ext_drewN ?_ _ | refine ext_drew ?_ | refine ext_trans ?_ (by assumption)))⟩
  · rw [if_neg (by simp [hw])] at hv
    cases hs : soundB a1 a2 a3 a4
    · rw [if_pos (Or.inl hs)] at hv
      subst hv
      go_enter Tryz.func38, Tryz.ntmps38
      go_wp2_with fail
      refine (r6Usable_walk _ _ _ _ _ _).mono ?_
      rintro e w1 ⟨rfl, hb⟩
      obtain ⟨hc, hf⟩ := bcell hb
      go_wp2_with fail
      refine (r6Sound_walk _ _ _ _ _).mono ?_
      rintro e w2 ⟨rfl, hbn⟩
      replace hb := ext_trans hb hbn
      clear hc hf hbn
      obtain ⟨hc, hf⟩ := bcell hb
      go_wp2
      go_ret
      exact ⟨rfl, (by repeat (first | exact Below.refl _ _ | refine ext_alloc ?_ _ | refine ext_drewN ?_ _ | refine ext_drew ?_ | refine ext_trans ?_ (by assumption)))⟩
    · obtain ⟨_, q1, q2, q3, q4, q5⟩ := soundB_parts hs
      cases hx : validB a1 n
      · rw [if_pos (Or.inr (Or.inl hx))] at hv
        subst hv
        go_enter Tryz.func38, Tryz.ntmps38
        go_wp2_with fail
        refine (r6Usable_walk _ _ _ _ _ _).mono ?_
        rintro e w1 ⟨rfl, hb⟩
        obtain ⟨hc, hf⟩ := bcell hb
        go_wp2_with fail
        refine (r6Sound_walk _ _ _ _ _).mono ?_
        rintro e w2 ⟨rfl, hbn⟩
        replace hb := ext_trans hb hbn
        clear hc hf hbn
        obtain ⟨hc, hf⟩ := bcell hb
        go_wp2_with (go_at_call 75; refine (r5Valid_walk _ _ _).mono ?_; rintro e w3 ⟨rfl, rfl⟩)
        go_ret
        exact ⟨rfl, (by repeat (first | exact Below.refl _ _ | refine ext_alloc ?_ _ | refine ext_drewN ?_ _ | refine ext_drew ?_ | refine ext_trans ?_ (by assumption)))⟩
      · have hv := hide hv
        go_enter Tryz.func38, Tryz.ntmps38
        go_wp2_with fail
        refine (r6Usable_walk _ _ _ _ _ _).mono ?_
        rintro e w1 ⟨rfl, hb⟩
        obtain ⟨hc, hf⟩ := bcell hb
        go_wp2_with fail
        refine (r6Sound_walk _ _ _ _ _).mono ?_
        rintro e w2 ⟨rfl, hbn⟩
        replace hb := ext_trans hb hbn
        clear hc hf hbn
        obtain ⟨hc, hf⟩ := bcell hb
        go_wp2_with (go_at_call 75; refine (r5Valid_walk _ _ _).mono ?_; rintro e w3 ⟨rfl, rfl⟩)
        all_goals
          go_ret
          refine ⟨ret_int ?_, (by repeat (first | exact Below.refl _ _ | refine ext_alloc ?_ _ | refine ext_drewN ?_ _ | refine ext_drew ?_ | refine ext_trans ?_ (by assumption)))⟩
          rw [← hv.out]
          first | exact (if_pos (by omega)).symm | exact (if_neg (by rw [hs, hx]; simp; omega)).symm
end Go.Proofs.YtdnnahdafhddlaaGreatDoor
