/- Walks of timegrid.Clock and timetableref06.Clock. No condition. -/
import Derived.Test.YtgbkochjoaalhaaGreatDoorTgB
namespace Go.Proofs.YtgbkochjoaalhaaGreatDoor
open Go.RowKit
set_option maxRecDepth 100000

def clockV (d s b m k : Int) : Int × Int × Int := if gridV d s b m ≠ 0 then (0, 0, 1) else if k < 0 ∨ s < k then (0, 0, 3) else ((b + k * m) / 60, (b + k * m) % 60, 0)
theorem grid_parts {d s b m : Int} (h : gridV d s b m = 0) : s ≤ 24 ∧ 0 ≤ b ∧ b < 1440 ∧ 5 ≤ m ∧ m ≤ 120 := by
  unfold gridV at h
  split at h
  · omega
  · omega
theorem ret_3 {a b c d e f : Int} {i j k : IntKind} (h1 : a = d) (h2 : b = e) (h3 : c = f) : Ending.returned (.tuple #[.int i a, .int j b, .int k c]) = .returned (.tuple #[.int i d, .int j e, .int k f]) := by rw [h1, h2, h3]
-- <clock>
set_option maxHeartbeats 2000000 in
theorem tgClock_walk (d s b m k : Int) (w : World) :
    Calls Tryz.prog 29 #[.agg #[.int .i64 d, .int .i64 s, .int .i64 b, .int .i64 m], .int .i64 k] w fun e w' => e = .returned (.tuple #[.int .i64 (clockV d s b m k).1, .int .i64 (clockV d s b m k).2.1, .int .i64 (clockV d s b m k).2.2]) ∧ Below w.heap.size w w' := by
  by_cases hg : gridV d s b m = 0
  · obtain ⟨g1, g2, g3, g4, g5⟩ := grid_parts hg
    by_cases hk : k < 0 ∨ s < k
    · rw [show clockV d s b m k = (0, 0, 3) from by unfold clockV; rw [if_neg (by omega), if_pos hk]]
      replace hg := hide hg
      go_enter Tryz.func29, Tryz.ntmps29
      go_wp2_with fail
      refine (tgValid_walk _ _ _ _ _).mono ?_
      rintro e w1 ⟨rfl, hb⟩
      obtain ⟨hc, hf⟩ := bcell hb
      rw [hg.out]
      go_wp2
      all_goals try (exfalso; omega)
      all_goals go_ret3
      all_goals exact ⟨rfl, (by repeat (first | exact Below.refl _ _ | refine ext_alloc ?_ _ | refine ext_drewN ?_ _ | refine ext_drew ?_ | refine ext_trans ?_ (by assumption)))⟩
    · have hv := hide (show clockV d s b m k = ((b + k * m) / 60, (b + k * m) % 60, 0) from by unfold clockV; rw [if_neg (by omega), if_neg hk])
      have hp : 0 ≤ k * m ∧ k * m ≤ 2880 := by
        have h1 : k * m ≤ 24 * m := Int.mul_le_mul_of_nonneg_right (by omega) (by omega)
        have h2 : 0 ≤ k * m := Int.mul_nonneg (by omega) (by omega)
        omega
      obtain ⟨p1, p2⟩ := hp
      have k0 : 0 ≤ k := by omega
      have k1 : k ≤ s := by omega
      clear hk
      replace hg := hide hg
      go_enter Tryz.func29, Tryz.ntmps29
      go_wp2_with fail
      refine (tgValid_walk _ _ _ _ _).mono ?_
      rintro e w1 ⟨rfl, hb⟩
      obtain ⟨hc, hf⟩ := bcell hb
      rw [hg.out]
      go_wp2
      all_goals try (exfalso; omega)
      go_ret3
      exact ⟨ret_3 (by rw [hv.out]) (by rw [hv.out]) (by rw [hv.out]), (by repeat (first | exact Below.refl _ _ | refine ext_alloc ?_ _ | refine ext_drewN ?_ _ | refine ext_drew ?_ | refine ext_trans ?_ (by assumption)))⟩
  · rw [show clockV d s b m k = (0, 0, 1) from if_pos hg]
    have hne : (gridV d s b m != 0) = true := by simpa using hg
    replace hg := hide hg
    go_enter Tryz.func29, Tryz.ntmps29
    go_wp2_with fail
    refine (tgValid_walk _ _ _ _ _).mono ?_
    rintro e w1 ⟨rfl, hb⟩
    go_wp2
    go_ret3
    exact ⟨rfl, (by repeat (first | exact Below.refl _ _ | refine ext_alloc ?_ _ | refine ext_drewN ?_ _ | refine ext_drew ?_ | refine ext_trans ?_ (by assumption)))⟩
-- </clock>
set_option maxHeartbeats 2000000 in
theorem r6Clock_walk (d s b m k : Int) (w : World) :
    Calls Tryz.prog 30 #[.agg #[.int .i64 d, .int .i64 s, .int .i64 b, .int .i64 m], .int .i64 k] w fun e w' => e = .returned (.tuple #[.int .i64 (clockV d s b m k).1, .int .i64 (clockV d s b m k).2.1, .int .i64 (clockV d s b m k).2.2]) ∧ Below w.heap.size w w' := by
  by_cases hg : gridV d s b m = 0
  · obtain ⟨g1, g2, g3, g4, g5⟩ := grid_parts hg
    by_cases hk : k < 0 ∨ s < k
    · rw [show clockV d s b m k = (0, 0, 3) from by unfold clockV; rw [if_neg (by omega), if_pos hk]]
      replace hg := hide hg
      go_enter Tryz.func30, Tryz.ntmps30
      go_wp2_with fail
      refine (r6Valid_walk _ _ _ _ _).mono ?_
      rintro e w1 ⟨rfl, hb⟩
      obtain ⟨hc, hf⟩ := bcell hb
      rw [hg.out]
      go_wp2
      all_goals try (exfalso; omega)
      all_goals go_ret3
      all_goals exact ⟨rfl, (by repeat (first | exact Below.refl _ _ | refine ext_alloc ?_ _ | refine ext_drewN ?_ _ | refine ext_drew ?_ | refine ext_trans ?_ (by assumption)))⟩
    · have hv := hide (show clockV d s b m k = ((b + k * m) / 60, (b + k * m) % 60, 0) from by unfold clockV; rw [if_neg (by omega), if_neg hk])
      have hp : 0 ≤ k * m ∧ k * m ≤ 2880 := by
        have h1 : k * m ≤ 24 * m := Int.mul_le_mul_of_nonneg_right (by omega) (by omega)
        have h2 : 0 ≤ k * m := Int.mul_nonneg (by omega) (by omega)
        omega
      obtain ⟨p1, p2⟩ := hp
      have k0 : 0 ≤ k := by omega
      have k1 : k ≤ s := by omega
      clear hk
      replace hg := hide hg
      go_enter Tryz.func30, Tryz.ntmps30
      go_wp2_with fail
      refine (r6Valid_walk _ _ _ _ _).mono ?_
      rintro e w1 ⟨rfl, hb⟩
      obtain ⟨hc, hf⟩ := bcell hb
      rw [hg.out]
      go_wp2
      all_goals try (exfalso; omega)
      go_ret3
      exact ⟨ret_3 (by rw [hv.out]) (by rw [hv.out]) (by rw [hv.out]), (by repeat (first | exact Below.refl _ _ | refine ext_alloc ?_ _ | refine ext_drewN ?_ _ | refine ext_drew ?_ | refine ext_trans ?_ (by assumption)))⟩
  · rw [show clockV d s b m k = (0, 0, 1) from if_pos hg]
    have hne : (gridV d s b m != 0) = true := by simpa using hg
    replace hg := hide hg
    go_enter Tryz.func30, Tryz.ntmps30
    go_wp2_with fail
    refine (r6Valid_walk _ _ _ _ _).mono ?_
    rintro e w1 ⟨rfl, hb⟩
    go_wp2
    go_ret3
    exact ⟨rfl, (by repeat (first | exact Below.refl _ _ | refine ext_alloc ?_ _ | refine ext_drewN ?_ _ | refine ext_drew ?_ | refine ext_trans ?_ (by assumption)))⟩

end Go.Proofs.YtgbkochjoaalhaaGreatDoor
