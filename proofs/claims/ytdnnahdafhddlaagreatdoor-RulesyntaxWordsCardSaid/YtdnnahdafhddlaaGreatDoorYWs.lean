/- Walks of package weekset: what each function returns. Their conditions: numbers from 1 to 20 where the Go text guarantees them. -/
import Derived.Test.YtdnnahdafhddlaaGreatDoorYDice
namespace Go.Proofs.YtdnnahdafhddlaaGreatDoor
open Go.RowKit

theorem span_empty (a k : Nat) (h : k < a) : maskTo (spanP a) k = 0 := maskTo_none fun i hi => by simp [spanP]; omega
set_option maxHeartbeats 400000 in
theorem span_walk (a b : Int) (ha : 1 ≤ a) (ha2 : a ≤ 21) (hb0 : 0 ≤ b) (hb : b ≤ 20) (w : World) :
    Calls Tryz.prog 207 #[.int .i64 a, .int .i64 b] w fun e w' => e = .returned (.int .i64 (spanN a.toNat b.toNat)) ∧ w = w' := by
  obtain ⟨a, rfl⟩ := Int.eq_ofNat_of_zero_le (by omega : 0 ≤ a)
  obtain ⟨b, rfl⟩ := Int.eq_ofNat_of_zero_le hb0
  rw [Int.toNat_natCast, Int.toNat_natCast]
  go_enter Tryz.func207, Tryz.ntmps207
  go_wp2
  go_loop [5, 6] (fun s i => ∃ k : Nat, a ≤ k + 1 ∧ (k ≤ b ∨ k + 1 = a) ∧ i = .int .i64 ((k : Int) + 1) ∧ s = .int .i64 (maskTo (spanP a) k)) (fun _ i => (21 - intOf i).toNat)
  case atStart => exact ⟨a - 1, by omega, by omega, by congr 1; omega, by rw [span_empty _ _ (by omega)]; rfl⟩
  case round =>
    obtain ⟨k, h1, h2, rfl, rfl⟩ := hrel
    by_cases hlt : k < b
    · have HS := hide (or_step (spanP a) k (by omega) (by simp [spanP]; omega))
      go_wp2
      go_round
      case rel => exact ⟨k + 1, by omega, by omega, by go_num, by rw [HS.out]⟩
      case measure => simp [intOf]; omega
    · have HS : Hid (spanN a b = maskTo (spanP a) k) := by
        rcases h2 with h2 | h2
        · have : k = b := by omega
          subst this; rfl
        · unfold spanN
          rw [span_empty a k (by omega), span_empty a b (by omega)]; rfl
      go_wp2
      go_ret
      exact ⟨ret_int (by rw [HS.out]), rfl⟩

theorem every_yes (a k : Nat) (h : a ≤ k + 1) (hp : (k + 1 - a) % 2 = 0) : everyP a k = true := by simp [everyP, h, hp]
theorem every_no (a k : Nat) (hp : (k + 1 - a) % 2 = 1) : everyP a k = false := by simp [everyP, hp]
set_option maxHeartbeats 400000 in
theorem every_walk (a b : Int) (ha : 1 ≤ a) (ha2 : a ≤ 2) (hb0 : 1 ≤ b) (hb : b ≤ 20) (w : World) :
    Calls Tryz.prog 216 #[.int .i64 a, .int .i64 b] w fun e w' => e = .returned (.int .i64 (everyN a.toNat b.toNat)) ∧ w = w' := by
  obtain ⟨a, rfl⟩ := Int.eq_ofNat_of_zero_le (by omega : 0 ≤ a)
  obtain ⟨b, rfl⟩ := Int.eq_ofNat_of_zero_le (by omega : 0 ≤ b)
  rw [Int.toNat_natCast, Int.toNat_natCast]
  go_enter Tryz.func216, Tryz.ntmps216
  go_wp2
  go_loop [5, 6] (fun s i => ∃ k : Nat, a ≤ k + 1 ∧ k ≤ b + 1 ∧ (k + 1 - a) % 2 = 0 ∧ i = .int .i64 ((k : Int) + 1) ∧ s = .int .i64 (maskTo (everyP a) k)) (fun _ i => (23 - intOf i).toNat)
  case atStart => exact ⟨a - 1, by omega, by omega, by omega, by congr 1; omega, by rw [maskTo_none (fun i hi => by simp [everyP]; omega)]; rfl⟩
  case round =>
    obtain ⟨k, h1, h2, h3, rfl, rfl⟩ := hrel
    have H3 := hide h3
    clear h3
    by_cases hlt : k < b
    · have HS := hide (or_step (everyP a) k (by omega) (every_yes a k h1 H3.out))
      have HT := hide (maskTo_no (everyP a) (k + 1) (every_no a (k + 1) (by have := H3.out; omega)))
      go_wp2
      go_round
      case rel => exact ⟨k + 2, by omega, by omega, by have := H3.out; omega, by go_num, by rw [HS.out, HT.out]⟩
      case measure => simp [intOf]; omega
    · have HS : Hid (everyN a b = maskTo (everyP a) k) := by
        have hk : k = b ∨ k = b + 1 := by omega
        rcases hk with rfl | rfl
        · rfl
        · exact (maskTo_no _ _ (every_no a b (by have := H3.out; omega))).symm
      go_wp2
      go_ret
      exact ⟨ret_int (by rw [HS.out]), rfl⟩

/-- The five words, as the call lays them. -/
def wordCells (n : Nat) : Array Value :=
  #[.string ⟨#[97, 108, 108]⟩, .int .i64 (spanN 1 n), .string ⟨#[111, 100, 100]⟩, .int .i64 (everyN 1 n), .string ⟨#[101, 118, 101, 110]⟩, .int .i64 (everyN 2 n),
    .string ⟨#[102, 105, 114, 115, 116]⟩, .int .i64 (spanN 1 ((n + 1) / 2)), .string ⟨#[115, 101, 99, 111, 110, 100]⟩, .int .i64 (spanN ((n + 1) / 2 + 1) n)]
set_option maxHeartbeats 400000 in
theorem words_walk (n : Int) (h1 : 1 ≤ n) (h2 : n ≤ 20) (w : World) :
    Calls Tryz.prog 200 #[.int .i64 n] w fun e w' => e = .returned (.slice (some ⟨w.heap.size, 0, none⟩) 5 5) ∧ w.alloc (.cells (wordCells n.toNat) 207) = w' := by
  obtain ⟨n, rfl⟩ := Int.eq_ofNat_of_zero_le (by omega : 0 ≤ n)
  rw [Int.toNat_natCast]
  go_enter Tryz.func200, Tryz.ntmps200
  go_wp2_with (first | (go_at_call 207; refine (span_walk _ _ (by omega) (by omega) (by omega) (by omega) _).mono ?_; rintro e w' ⟨rfl, rfl⟩) | (go_at_call 216; refine (every_walk _ _ (by omega) (by omega) (by omega) (by omega) _).mono ?_; rintro e w' ⟨rfl, rfl⟩))
  go_ret
  exact ⟨rfl, rfl⟩

end Go.Proofs.YtdnnahdafhddlaaGreatDoor
