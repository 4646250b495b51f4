/- Walks of package timetableref05: the functions of numbers and of texts. Conditions: texts shorter than 2^30 bytes. -/
import Derived.Test.YtgbkochjoaalhaaGreatDoorRuns
import Derived.Lib.PathFns
namespace Go.Proofs.YtgbkochjoaalhaaGreatDoor
open Go.RowKit

/-- Is week i + 1 in the k-th named set of n weeks. -/
def nameP (n : Nat) : Nat → Nat → Bool
  | 0, _ => true
  | 1, i => decide ((i + 1) % 2 = 1)
  | 2, i => decide ((i + 1) % 2 = 0)
  | 3, i => decide (i + 1 ≤ (n + 1) / 2)
  | _, i => decide ((n + 1) / 2 < i + 1)
theorem maskTo_cut (p : Nat → Bool) (h : Nat) : ∀ n, h ≤ n → maskTo (fun i => decide (i + 1 ≤ h) && p i) n = maskTo p h := by
  intro n hn
  apply Nat.eq_of_testBit_eq
  intro i
  rw [maskTo_bit, maskTo_bit]
  by_cases e : i < h
  · simp [e, show i < n from by omega, show i + 1 ≤ h from by omega]
  · simp [e, show ¬ i + 1 ≤ h from by omega]
theorem named_eq (n k : Nat) (h1 : 1 ≤ n) (hk : k < 5) : maskTo (nameP n k) n = wordVal n k := by
  match k, hk with
  | 0, _ => exact maskTo_congr fun i _ => by simp [nameP, spanP]
  | 1, _ => exact maskTo_congr fun i _ => by simp only [nameP, everyP]; rw [Bool.eq_iff_iff]; simp only [Bool.and_eq_true, decide_eq_true_eq]; omega
  | 2, _ => exact maskTo_congr fun i _ => by simp only [nameP, everyP]; rw [Bool.eq_iff_iff]; simp only [Bool.and_eq_true, decide_eq_true_eq]; omega
  | 3, _ =>
    show _ = maskTo (spanP 1) ((n + 1) / 2)
    rw [← maskTo_cut (spanP 1) ((n + 1) / 2) n (by omega)]
    exact maskTo_congr fun i _ => by simp [nameP, spanP]
  | 4, _ => exact maskTo_congr fun i _ => by simp only [nameP, spanP]; rw [decide_eq_decide]; omega
set_option maxRecDepth 100000 in
set_option maxHeartbeats 4000000 in
theorem named_walk (k n : Nat) (hk : k < 5) (h1 : 1 ≤ n) (h2 : n ≤ 20) (w : World) :
    Calls Tryz.prog 93 #[.int .i64 k, .int .i64 n] w fun e w' => e = .returned (.int .i64 (wordVal n k)) ∧ w = w' := by
  rw [← named_eq n k h1 hk]
  obtain ⟨q, hq⟩ : ∃ q, nameP n k = q := ⟨_, rfl⟩
  have HQ : Hid (∀ j, q j = nameP n k j) := fun j => by rw [hq]
  rw [hq]
  clear hq
  have hk5 : k = 0 ∨ k = 1 ∨ k = 2 ∨ k = 3 ∨ k = 4 := by omega
  clear hk
  rcases hk5 with rfl | rfl | rfl | rfl | rfl
  all_goals
    go_enter Tryz.func93, Tryz.ntmps93
    go_wp2
    go_loop [5, 6] (fun s i => ∃ j : Nat, j ≤ n ∧ i = .int .i64 ((j : Int) + 1) ∧ s = .int .i64 (maskTo q j)) (fun _ i => (21 - intOf i).toNat)
    case atStart => exact ⟨0, by omega, rfl, rfl⟩
    case round =>
      obtain ⟨j, hj, rfl, rfl⟩ := hrel
      by_cases hlt : j < n
      · have hp : (j + 1) % 2 = 0 ∨ (j + 1) % 2 = 1 := by omega
        have hh : j + 1 ≤ (n + 1) / 2 ∨ (n + 1) / 2 < j + 1 := by omega
        rcases hp with hp | hp
        all_goals rcases hh with hh | hh
        all_goals
          have e1 : (((j : Int) + 1) % 2 == 1) = decide ((j + 1) % 2 = 1) := by rw [Bool.eq_iff_iff]; simp only [beq_iff_eq, decide_eq_true_eq]; omega
          have e2 : (((j : Int) + 1) % 2 == 0) = decide ((j + 1) % 2 = 0) := by rw [Bool.eq_iff_iff]; simp only [beq_iff_eq, decide_eq_true_eq]; omega
          rw [hp] at e1 e2
          have HP := hide hp
          clear hp
          go_wp2
          go_round
          case rel =>
            refine ⟨j + 1, by omega, by go_num, ?_⟩
            have hp := HP.out
            first
              | (have hq : q j = true := by rw [HQ.out]; first | rfl | (simp only [nameP, decide_eq_true_eq]; omega)
                 rw [or_step q j (by omega) hq])
              | (have hq : q j = false := by rw [HQ.out]; simp only [nameP, decide_eq_false_iff_not]; omega
                 rw [maskTo_no q j hq])
          case measure => simp [intOf]; omega
      · obtain rfl : j = n := by omega
        go_wp2
        go_ret
        exact ⟨rfl, rfl⟩
end Go.Proofs.YtgbkochjoaalhaaGreatDoor
