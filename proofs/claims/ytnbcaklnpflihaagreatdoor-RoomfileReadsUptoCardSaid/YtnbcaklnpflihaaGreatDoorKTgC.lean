/- Walks of packages timegrid and timetableref06, on: between, overlap, before, clock. No condition. -/
import Derived.Test.YtnbcaklnpflihaaGreatDoorKTgB
namespace Go.Proofs.YtnbcaklnpflihaaGreatDoor
open Go.RowKit

/-- Do two times meet: sound, a common week, one day. -/
def meetB (a1 a2 a3 a4 b1 b2 b3 b4 : Int) : Bool := soundB a1 a2 a3 a4 && soundB b1 b2 b3 b4 && !(bits .and .i64 a1 b1 == 0) && decide (a2 = b2)
def betweenV (a1 a2 a3 a4 b1 b2 b3 b4 : Int) : Int := if meetB a1 a2 a3 a4 b1 b2 b3 b4 then max (-1) (max (b3 - a3 - a4) (a3 - b3 - b4)) else 0
theorem meetB_parts {a1 a2 a3 a4 b1 b2 b3 b4 : Int} (h : meetB a1 a2 a3 a4 b1 b2 b3 b4 = true) : soundB a1 a2 a3 a4 = true ∧ soundB b1 b2 b3 b4 = true ∧ (bits .and .i64 a1 b1 == 0) = false ∧ a2 = b2 := by
  simp only [meetB, Bool.and_eq_true, decide_eq_true_eq, Bool.not_eq_true'] at h
  exact ⟨h.1.1.1, h.1.1.2, h.1.2, h.2⟩
theorem meetB_mk {a1 a2 a3 a4 b1 b2 b3 b4 : Int} (h1 : soundB a1 a2 a3 a4 = true) (h2 : soundB b1 b2 b3 b4 = true) (h3 : (bits .and .i64 a1 b1 == 0) = false) (h4 : a2 = b2) : meetB a1 a2 a3 a4 b1 b2 b3 b4 = true := by
  subst h4; simp [meetB, h1, h2, h3]
theorem meetB_no1 {a1 a2 a3 a4 b1 b2 b3 b4 : Int} (h : soundB a1 a2 a3 a4 = false) : meetB a1 a2 a3 a4 b1 b2 b3 b4 = false := by simp [meetB, h]
theorem meetB_no2 {a1 a2 a3 a4 b1 b2 b3 b4 : Int} (h : soundB b1 b2 b3 b4 = false) : meetB a1 a2 a3 a4 b1 b2 b3 b4 = false := by simp [meetB, h]
theorem meetB_no3 {a1 a2 a3 a4 b1 b2 b3 b4 : Int} (h : (bits .and .i64 a1 b1 == 0) = true) : meetB a1 a2 a3 a4 b1 b2 b3 b4 = false := by simp [meetB, h]
theorem meetB_no4 {a1 a2 a3 a4 b1 b2 b3 b4 : Int} (h : a2 ≠ b2) : meetB a1 a2 a3 a4 b1 b2 b3 b4 = false := by simp [meetB, h]
theorem betweenV_no {a1 a2 a3 a4 b1 b2 b3 b4 : Int} (h : meetB a1 a2 a3 a4 b1 b2 b3 b4 = false) : betweenV a1 a2 a3 a4 b1 b2 b3 b4 = 0 := by simp [betweenV, h]
theorem betweenV_yes {a1 a2 a3 a4 b1 b2 b3 b4 : Int} (h : meetB a1 a2 a3 a4 b1 b2 b3 b4 = true) : betweenV a1 a2 a3 a4 b1 b2 b3 b4 = max (-1) (max (b3 - a3 - a4) (a3 - b3 - b4)) := by simp [betweenV, h]

set_option maxHeartbeats 2000000 in
theorem tgBetween_walk (a1 a2 a3 a4 b1 b2 b3 b4 : Int) (w : World) :
    Calls Tryz.prog 101 #[.agg #[.int .i64 a1, .int .i64 a2, .int .i64 a3, .int .i64 a4], .agg #[.int .i64 b1, .int .i64 b2, .int .i64 b3, .int .i64 b4]] w fun e w' => e = .returned (.tuple #[.int .i64 (betweenV a1 a2 a3 a4 b1 b2 b3 b4), .bool (meetB a1 a2 a3 a4 b1 b2 b3 b4)]) ∧ Below w.heap.size w w' := by
  cases h1 : soundB a1 a2 a3 a4
  · rw [betweenV_no (meetB_no1 h1), meetB_no1 h1]
    go_enter Tryz.func101, Tryz.ntmps101
    go_wp2_with fail
    refine (tgSound_walk _ _ _ _ _).mono ?_
    rintro e w1 ⟨rfl, hb⟩
    obtain ⟨hc, hf⟩ := bcell hb
    go_wp2
    go_ret2
    exact ⟨rfl, (by repeat (first | exact Below.refl _ _ | refine ext_alloc ?_ _ | refine ext_drewN ?_ _ | refine ext_drew ?_ | refine ext_trans ?_ (by assumption)))⟩
  cases h2 : soundB b1 b2 b3 b4
  · rw [betweenV_no (meetB_no2 h2), meetB_no2 h2]
    go_enter Tryz.func101, Tryz.ntmps101
    go_wp2_with fail
    refine (tgSound_walk _ _ _ _ _).mono ?_
    rintro e w1 ⟨rfl, hb⟩
    obtain ⟨hc, hf⟩ := bcell hb
    go_wp2_with fail
    refine (tgSound_walk _ _ _ _ _).mono ?_
    rintro e w2 ⟨rfl, hbn⟩
    replace hb := ext_trans hb hbn
    clear hc hf hbn
    obtain ⟨hc, hf⟩ := bcell hb
    go_wp2
    go_ret2
    exact ⟨rfl, (by repeat (first | exact Below.refl _ _ | refine ext_alloc ?_ _ | refine ext_drewN ?_ _ | refine ext_drew ?_ | refine ext_trans ?_ (by assumption)))⟩
  cases h3 : (bits .and .i64 a1 b1 == 0)
  · obtain ⟨-, p1, p2, p3, p4, p5⟩ := soundB_parts h1
    obtain ⟨-, q1, q2, q3, q4, q5⟩ := soundB_parts h2
    by_cases h4 : a2 = b2
    · have hm := meetB_mk h1 h2 h3 h4
      have hB := hide (betweenV_yes hm)
      rw [hm]
      clear hm
      subst h4
      go_enter Tryz.func101, Tryz.ntmps101
      go_wp2_with fail
      refine (tgSound_walk _ _ _ _ _).mono ?_
      rintro e w1 ⟨rfl, hb⟩
      obtain ⟨hc, hf⟩ := bcell hb
      go_wp2_with fail
      refine (tgSound_walk _ _ _ _ _).mono ?_
      rintro e w2 ⟨rfl, hbn⟩
      replace hb := ext_trans hb hbn
      clear hc hf hbn
      obtain ⟨hc, hf⟩ := bcell hb
      go_wp2
      all_goals go_ret2
      all_goals refine ⟨ret_ib ?_ rfl, (by repeat (first | exact Below.refl _ _ | refine ext_alloc ?_ _ | refine ext_drewN ?_ _ | refine ext_drew ?_ | refine ext_trans ?_ (by assumption)))⟩
      all_goals rw [hB.out]
      all_goals first | rfl | omega
    · have h4' : (a2 != b2) = true := by simp [h4]
      rw [betweenV_no (meetB_no4 h4), meetB_no4 h4]
      go_enter Tryz.func101, Tryz.ntmps101
      go_wp2_with fail
      refine (tgSound_walk _ _ _ _ _).mono ?_
      rintro e w1 ⟨rfl, hb⟩
      obtain ⟨hc, hf⟩ := bcell hb
      go_wp2_with fail
      refine (tgSound_walk _ _ _ _ _).mono ?_
      rintro e w2 ⟨rfl, hbn⟩
      replace hb := ext_trans hb hbn
      clear hc hf hbn
      obtain ⟨hc, hf⟩ := bcell hb
      go_wp2
      go_ret2
      exact ⟨rfl, (by repeat (first | exact Below.refl _ _ | refine ext_alloc ?_ _ | refine ext_drewN ?_ _ | refine ext_drew ?_ | refine ext_trans ?_ (by assumption)))⟩
  · rw [betweenV_no (meetB_no3 h3), meetB_no3 h3]
    go_enter Tryz.func101, Tryz.ntmps101
    go_wp2_with fail
    refine (tgSound_walk _ _ _ _ _).mono ?_
    rintro e w1 ⟨rfl, hb⟩
    obtain ⟨hc, hf⟩ := bcell hb
    go_wp2_with fail
    refine (tgSound_walk _ _ _ _ _).mono ?_
    rintro e w2 ⟨rfl, hbn⟩
    replace hb := ext_trans hb hbn
    clear hc hf hbn
    obtain ⟨hc, hf⟩ := bcell hb
    go_wp2
    go_ret2
    exact ⟨rfl, (by repeat (first | exact Below.refl _ _ | refine ext_alloc ?_ _ | refine ext_drewN ?_ _ | refine ext_drew ?_ | refine ext_trans ?_ (by assumption)))⟩

/-- Overlap. -/
def overlapB (a1 a2 a3 a4 b1 b2 b3 b4 : Int) : Bool := meetB a1 a2 a3 a4 b1 b2 b3 b4 && decide (betweenV a1 a2 a3 a4 b1 b2 b3 b4 < 0)
set_option maxHeartbeats 1000000 in
theorem tgOverlap_walk (a1 a2 a3 a4 b1 b2 b3 b4 : Int) (w : World) :
    Calls Tryz.prog 74 #[.agg #[.int .i64 a1, .int .i64 a2, .int .i64 a3, .int .i64 a4], .agg #[.int .i64 b1, .int .i64 b2, .int .i64 b3, .int .i64 b4]] w fun e w' => e = .returned (.bool (overlapB a1 a2 a3 a4 b1 b2 b3 b4)) ∧ Below w.heap.size w w' := by
  cases hm : meetB a1 a2 a3 a4 b1 b2 b3 b4
  · rw [show overlapB a1 a2 a3 a4 b1 b2 b3 b4 = false from by simp [overlapB, hm]]
    go_enter Tryz.func74, Tryz.ntmps74
    go_wp2_with fail
    refine (tgBetween_walk _ _ _ _ _ _ _ _ _).mono ?_
    rintro e w1 ⟨rfl, hb⟩
    obtain ⟨hc, hf⟩ := bcell hb
    go_wp2
    go_ret
    exact ⟨rfl, (by repeat (first | exact Below.refl _ _ | refine ext_alloc ?_ _ | refine ext_drewN ?_ _ | refine ext_drew ?_ | refine ext_trans ?_ (by assumption)))⟩
  · rw [show overlapB a1 a2 a3 a4 b1 b2 b3 b4 = decide (betweenV a1 a2 a3 a4 b1 b2 b3 b4 < 0) from by simp [overlapB, hm]]
    go_enter Tryz.func74, Tryz.ntmps74
    go_wp2_with fail
    refine (tgBetween_walk _ _ _ _ _ _ _ _ _).mono ?_
    rintro e w1 ⟨rfl, hb⟩
    obtain ⟨hc, hf⟩ := bcell hb
    go_wp2
    go_ret
    exact ⟨rfl, (by repeat (first | exact Below.refl _ _ | refine ext_alloc ?_ _ | refine ext_drewN ?_ _ | refine ext_drew ?_ | refine ext_trans ?_ (by assumption)))⟩
/-- Before. -/
def beforeB (a1 a2 a3 a4 b1 b2 b3 b4 : Int) : Bool := soundB a1 a2 a3 a4 && soundB b1 b2 b3 b4 && decide (a2 < b2 ∨ a2 = b2 ∧ a3 + a4 ≤ b3)
end Go.Proofs.YtnbcaklnpflihaaGreatDoor
