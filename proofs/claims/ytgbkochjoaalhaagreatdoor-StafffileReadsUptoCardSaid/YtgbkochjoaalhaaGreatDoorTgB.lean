/- Walks of packages timegrid and timetableref06, on: weeks, fits, between, before, clock. No condition. -/
import Derived.Test.YtgbkochjoaalhaaGreatDoorTgA
namespace Go.Proofs.YtgbkochjoaalhaaGreatDoor
open Go.RowKit

def weekB (d s b m n : Int) : Bool := decide (gridV d s b m = 0) && decide (1 ≤ n ∧ n ≤ 20)
theorem weekB_no {d s b m n : Int} (h : ¬ (1 ≤ n ∧ n ≤ 20)) : weekB d s b m n = false := by simp only [weekB, decide_eq_false h, Bool.and_false]
theorem weekB_no' {d s b m n : Int} (h : ¬ gridV d s b m = 0) : weekB d s b m n = false := by simp only [weekB, decide_eq_false h, Bool.false_and]
theorem weekB_dec {d s b m n : Int} {p : Prop} [Decidable p] (h : gridV d s b m = 0) (hp : p ↔ (1 ≤ n ∧ n ≤ 20)) : weekB d s b m n = decide p := by
  simp only [weekB, decide_eq_true h, Bool.true_and]; exact decide_eq_decide.2 hp.symm
theorem gridV_eq (d s b m : Int) : gridV d s b m = 0 ∨ gridV d s b m = 3 := by unfold gridV; split <;> simp
set_option maxHeartbeats 1000000 in
theorem tgWeek_walk (d s b m n : Int) (w : World) :
    Calls Tryz.prog 53 #[.agg #[.int .i64 d, .int .i64 s, .int .i64 b, .int .i64 m], .int .i64 n] w fun e w' => e = .returned (.bool (weekB d s b m n)) ∧ Below w.heap.size w w' := by
  go_enter Tryz.func53, Tryz.ntmps53
  go_wp2_with (go_at_call 66; refine (tgValid_walk _ _ _ _ _).mono ?_; rintro e w1 ⟨rfl, hb1⟩)
  all_goals go_ret
  all_goals
    refine ⟨ret_bool ?_, (by repeat (first | exact Below.refl _ _ | refine ext_alloc ?_ _ | refine ext_drewN ?_ _ | refine ext_drew ?_ | refine ext_trans ?_ (by assumption)))⟩
    first | exact (weekB_no (by omega)).symm | exact (weekB_no' (by assumption)).symm | exact (weekB_dec (by assumption) (by omega)).symm
set_option maxHeartbeats 1000000 in
theorem r6Usable_walk (d s b m n : Int) (w : World) :
    Calls Tryz.prog 42 #[.agg #[.int .i64 d, .int .i64 s, .int .i64 b, .int .i64 m], .int .i64 n] w fun e w' => e = .returned (.bool (weekB d s b m n)) ∧ Below w.heap.size w w' := by
  go_enter Tryz.func42, Tryz.ntmps42
  go_wp2_with (go_at_call 67; refine (r6Valid_walk _ _ _ _ _).mono ?_; rintro e w1 ⟨rfl, hb1⟩)
  all_goals go_ret
  all_goals
    refine ⟨ret_bool ?_, (by repeat (first | exact Below.refl _ _ | refine ext_alloc ?_ _ | refine ext_drewN ?_ _ | refine ext_drew ?_ | refine ext_trans ?_ (by assumption)))⟩
    first | exact (weekB_no (by omega)).symm | exact (weekB_no' (by assumption)).symm | exact (weekB_dec (by assumption) (by omega)).symm

/-- What Fits returns. -/
def fitsV (d s b m n a1 a2 a3 a4 : Int) : Int :=
  if weekB d s b m n = false then 1 else if soundB a1 a2 a3 a4 = false ∨ validB a1 n = false ∨ d ≤ a2 ∨ s < a3 + a4 then 14 else 0
set_option maxHeartbeats 2000000 in
theorem tgFits_walk (d s b m n a1 a2 a3 a4 : Int) (w : World) :
    Calls Tryz.prog 62 #[.agg #[.int .i64 d, .int .i64 s, .int .i64 b, .int .i64 m], .int .i64 n, .agg #[.int .i64 a1, .int .i64 a2, .int .i64 a3, .int .i64 a4]] w fun e w' => e = .returned (.int .i64 (fitsV d s b m n a1 a2 a3 a4)) ∧ Below w.heap.size w w' := by
  obtain ⟨v, hv⟩ : ∃ v, fitsV d s b m n a1 a2 a3 a4 = v := ⟨_, rfl⟩
  rw [hv]
  unfold fitsV at hv
  cases hw : weekB d s b m n
  · rw [if_pos hw] at hv
    subst hv
    go_enter Tryz.func62, Tryz.ntmps62
    go_wp2_with fail
    refine (tgWeek_walk _ _ _ _ _ _).mono ?_
    rintro e w1 ⟨rfl, hb⟩
    obtain ⟨hc, hf⟩ := bcell hb
    go_wp2
    go_ret
    exact ⟨rfl, (by repeat (first | exact Below.refl _ _ | refine ext_alloc ?_ _ | refine ext_drewN ?_ _ | refine ext_drew ?_ | refine ext_trans ?_ (by assumption)))⟩
  · rw [if_neg (by simp [hw])] at hv
    cases hs : soundB a1 a2 a3 a4
    · rw [if_pos (Or.inl hs)] at hv
      subst hv
      go_enter Tryz.func62, Tryz.ntmps62
      go_wp2_with fail
      refine (tgWeek_walk _ _ _ _ _ _).mono ?_
      rintro e w1 ⟨rfl, hb⟩
      obtain ⟨hc, hf⟩ := bcell hb
      go_wp2_with fail
      refine (tgSound_walk _ _ _ _ _).mono ?_
      rintro e w2 ⟨rfl, hbn⟩
      replace hb := ext_trans hb hbn
      clear hc hf hbn
      obtain ⟨hc, hf⟩ := bcell hb
      go_wp2
      go_ret
      exact ⟨rfl, (by repeat (first | exact Below.refl _ _ | refine ext_alloc ?_ _ | refine ext_drewN ?_ _ | refine ext_drew ?_ | refine ext_trans ?_ (by assumption)))⟩
    · obtain ⟨_, q1, q2, q3, q4, q5⟩ := soundB_parts hs
      cases hx : validB a1 n
      · rw [if_pos (Or.inr (Or.inl hx))] at hv
        subst hv
        go_enter Tryz.func62, Tryz.ntmps62
        go_wp2_with fail
        refine (tgWeek_walk _ _ _ _ _ _).mono ?_
        rintro e w1 ⟨rfl, hb⟩
        obtain ⟨hc, hf⟩ := bcell hb
        go_wp2_with fail
        refine (tgSound_walk _ _ _ _ _).mono ?_
        rintro e w2 ⟨rfl, hbn⟩
        replace hb := ext_trans hb hbn
        clear hc hf hbn
        obtain ⟨hc, hf⟩ := bcell hb
        go_wp2_with (go_at_call 102; refine (wsValid_walk _ _ _).mono ?_; rintro e w3 ⟨rfl, rfl⟩)
        go_ret
        exact ⟨rfl, (by repeat (first | exact Below.refl _ _ | refine ext_alloc ?_ _ | refine ext_drewN ?_ _ | refine ext_drew ?_ | refine ext_trans ?_ (by assumption)))⟩
      · have hv := hide hv
        go_enter Tryz.func62, Tryz.ntmps62
        go_wp2_with fail
        refine (tgWeek_walk _ _ _ _ _ _).mono ?_
        rintro e w1 ⟨rfl, hb⟩
        obtain ⟨hc, hf⟩ := bcell hb
        go_wp2_with fail
        refine (tgSound_walk _ _ _ _ _).mono ?_
        rintro e w2 ⟨rfl, hbn⟩
        replace hb := ext_trans hb hbn
        clear hc hf hbn
        obtain ⟨hc, hf⟩ := bcell hb
        go_wp2_with (go_at_call 102; refine (wsValid_walk _ _ _).mono ?_; rintro e w3 ⟨rfl, rfl⟩)
        all_goals
          go_ret
          refine ⟨ret_int ?_, (by repeat (first | exact Below.refl _ _ | refine ext_alloc ?_ _ | refine ext_drewN ?_ _ | refine ext_drew ?_ | refine ext_trans ?_ (by assumption)))⟩
          rw [← hv.out]
          first | exact (if_pos (by omega)).symm | exact (if_neg (by rw [hs, hx]; simp; omega)).symm
set_option maxHeartbeats 2000000 in
theorem r6Fits_walk (d s b m n a1 a2 a3 a4 : Int) (w : World) :
    Calls Tryz.prog 50 #[.agg #[.int .i64 d, .int .i64 s, .int .i64 b, .int .i64 m], .int .i64 n, .agg #[.int .i64 a1, .int .i64 a2, .int .i64 a3, .int .i64 a4]] w fun e w' => e = .returned (.int .i64 (fitsV d s b m n a1 a2 a3 a4)) ∧ Below w.heap.size w w' := by
  obtain ⟨v, hv⟩ : ∃ v, fitsV d s b m n a1 a2 a3 a4 = v := ⟨_, rfl⟩
  rw [hv]
  unfold fitsV at hv
  cases hw : weekB d s b m n
  · rw [if_pos hw] at hv
    subst hv
    go_enter Tryz.func50, Tryz.ntmps50
    go_wp2_with fail
    refine (r6Usable_walk _ _ _ _ _ _).mono ?_
    rintro e w1 ⟨rfl, hb⟩
    obtain ⟨hc, hf⟩ := bcell hb
    go_wp2
    go_ret
    exact ⟨rfl, (by repeat (first | exact Below.refl _ _ | refine ext_alloc ?_ _ | refine ext_drewN ?_ _ | refine ext_drew ?_ | refine ext_trans ?_ (by assumption)))⟩
  · rw [if_neg (by simp [hw])] at hv
    cases hs : soundB a1 a2 a3 a4
    · rw [if_pos (Or.inl hs)] at hv
      subst hv
      go_enter Tryz.func50, Tryz.ntmps50
      go_wp2_with fail
      refine (r6Usable_walk _ _ _ _ _ _).mono ?_
      rintro e w1 ⟨rfl, hb⟩
      obtain ⟨hc, hf⟩ := bcell hb
      go_wp2_with fail
      refine (r6Sound_walk _ _ _ _ _).mono ?_
      rintro e w2 ⟨rfl, hbn⟩
      replace hb := ext_trans hb hbn
      clear hc hf hbn
      obtain ⟨hc, hf⟩ := bcell hb
      go_wp2
      go_ret
      exact ⟨rfl, (by repeat (first | exact Below.refl _ _ | refine ext_alloc ?_ _ | refine ext_drewN ?_ _ | refine ext_drew ?_ | refine ext_trans ?_ (by assumption)))⟩
    · obtain ⟨_, q1, q2, q3, q4, q5⟩ := soundB_parts hs
      cases hx : validB a1 n
      · rw [if_pos (Or.inr (Or.inl hx))] at hv
        subst hv
        go_enter Tryz.func50, Tryz.ntmps50
        go_wp2_with fail
        refine (r6Usable_walk _ _ _ _ _ _).mono ?_
        rintro e w1 ⟨rfl, hb⟩
        obtain ⟨hc, hf⟩ := bcell hb
        go_wp2_with fail
        refine (r6Sound_walk _ _ _ _ _).mono ?_
        rintro e w2 ⟨rfl, hbn⟩
        replace hb := ext_trans hb hbn
        clear hc hf hbn
        obtain ⟨hc, hf⟩ := bcell hb
        go_wp2_with (go_at_call 92; refine (r5Valid_walk _ _ _).mono ?_; rintro e w3 ⟨rfl, rfl⟩)
        go_ret
        exact ⟨rfl, (by repeat (first | exact Below.refl _ _ | refine ext_alloc ?_ _ | refine ext_drewN ?_ _ | refine ext_drew ?_ | refine ext_trans ?_ (by assumption)))⟩
      · have hv := hide hv
        go_enter Tryz.func50, Tryz.ntmps50
        go_wp2_with fail
        refine (r6Usable_walk _ _ _ _ _ _).mono ?_
        rintro e w1 ⟨rfl, hb⟩
        obtain ⟨hc, hf⟩ := bcell hb
        go_wp2_with fail
        refine (r6Sound_walk _ _ _ _ _).mono ?_
        rintro e w2 ⟨rfl, hbn⟩
        replace hb := ext_trans hb hbn
        clear hc hf hbn
        obtain ⟨hc, hf⟩ := bcell hb
        go_wp2_with (go_at_call 92; refine (r5Valid_walk _ _ _).mono ?_; rintro e w3 ⟨rfl, rfl⟩)
        all_goals
          go_ret
          refine ⟨ret_int ?_, (by repeat (first | exact Below.refl _ _ | refine ext_alloc ?_ _ | refine ext_drewN ?_ _ | refine ext_drew ?_ | refine ext_trans ?_ (by assumption)))⟩
          rw [← hv.out]
          first | exact (if_pos (by omega)).symm | exact (if_neg (by rw [hs, hx]; simp; omega)).symm
end Go.Proofs.YtgbkochjoaalhaaGreatDoor
