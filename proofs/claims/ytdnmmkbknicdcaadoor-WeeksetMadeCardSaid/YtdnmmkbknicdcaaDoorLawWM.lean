/- The statement WeeksetMade: its walk. Conditions: the numbers can be read; the program's variables hold what Std and Wds say. -/
import Derived.Test.YtdnmmkbknicdcaaDoorLaw5B
import Derived.Test.YtdnmmkbknicdcaaDoorSpoilB
namespace Go.Proofs.YtdnmmkbknicdcaaDoor
open Go.RowKit
set_option maxRecDepth 100000

set_option maxHeartbeats 8000000 in
theorem wmade_walk (A : Option Addr) (n c : Nat) (w : World) (hS : Std w) (hW : Wds w) (hA : 0 < n → ∃ b off, A = some ⟨b, off, none⟩ ∧ ∀ j, j < n → ∃ x : Int, w.cell? ⟨b, off + j, none⟩ = some (.int .i64 x)) :
    Calls Tryd.prog 8 #[.slice A n c] w fun e w' => e = .returned (.bool true) ∧ Below w.heap.size w w' := by
  by_cases hn : n ≤ 400
  · have hd400 : decide (n ≤ 400) = true := by simpa using hn
    have D0 := dice_new (c := c) hn hA
    have hS0 := hS.big
    obtain ⟨g, hgw⟩ : ∃ g, w.heap.size = g := ⟨_, rfl⟩
    obtain ⟨W1, hW1⟩ : ∃ W1, w.alloc (.cells #[.slice A n c, .int .i64 0] 66) = W1 := ⟨_, rfl⟩
    have hb1 : Below w.heap.size w W1 := by rw [← hW1]; exact (by repeat (first | exact Below.refl _ _ | refine ext_alloc ?_ _ | refine ext_drewN ?_ _ | refine ext_drew ?_ | refine ext_trans ?_ (by assumption)))
    have hS1 := hS.after hb1
    have hWd1 := hW.after hb1 hS
    rw [hW1] at D0
    have hg : w.heap.size ≤ g := Nat.le_of_eq hgw
    have D1 : DiceOk w.heap.size W1 g := by rw [← hgw]; exact D0
    replace hW1 := hide hW1
    replace hgw := hide hgw
    clear D0 hA
    go_enter Tryd.func8, Tryd.ntmps8
    go_wp2_with (go_at_call 13; refine (light_walk _ _ _ _).mono ?_; rintro e w' ⟨rfl, rfl⟩)
    refine (roll_walk _ _ _ _).mono ?_
    rintro e w' ⟨rfl, rfl⟩
    rw [hW1.out, hgw.out]
    clear hW1 hgw
    go_wp2_with fail
    refine (next_walk w.heap.size g 20 (by omega) _ D1).mono ?_
    rintro e w3 ⟨v, rfl, p3, q3, -, T3, -⟩
    have q3 := q3 (by omega)
    obtain ⟨v, rfl⟩ := Int.eq_ofNat_of_zero_le p3
    obtain ⟨N, hN⟩ : ∃ N : Nat, 1 + v = N := ⟨_, rfl⟩
    have hN1 : 1 ≤ N := by omega
    have hN20 : N ≤ 20 := by omega
    go_wp2_with fail
    rw [show ((1 : Int) + (v : Int)) = (N : Int) from by omega]
    clear hN p3 q3
    refine (set_walk w.heap.size g N (by omega) (by omega) _ T3.dice).mono ?_
    rintro e w4 ⟨a, rfl, s1, s2, T4, -⟩
    rw [Int.toNat_natCast] at s2
    obtain ⟨a, rfl⟩ := Int.eq_ofNat_of_zero_le (by omega : 0 ≤ a)
    have T := T3.trans T4
    have hS4 := T.std hS1 (by omega)
    have hb4 := T.ext hb1 hg
    have hWd4 := hW.after hb4 hS
    have haN : a < 2 ^ N := by omega
    obtain ⟨F, hF⟩ : ∃ F, formatL a N = F := ⟨_, rfl⟩
    have hFl : F.length ≤ 120 := by rw [← hF]; exact formatL_len a N hN20
    replace hF := hide hF
    have D4 := T.dice
    have hgl := T.dice.lt
    clear T T3 T4 hWd1 hS1 hb1 D1 s2
    replace haN := hide haN
    go_wp2_with fail
    refine (r5Format_at a N hN1 hN20 (by omega) haN.out F hF.out _ hWd4).mono ?_
    rintro e w5 ⟨rfl, hb5⟩
    have D5 := D4.later hb5
    have hS5 := hS4.after hb5
    replace hb5 := ext_trans hb4 hb5
    clear hb4 hS4 hWd4 D4 hgl
    go_wp2_with fail
    refine (next_walk w.heap.size g 3 (by omega) _ D5).mono ?_
    rintro e w6 ⟨u, rfl, p6, q6, -, T6, -⟩
    have q6 := q6 (by omega)
    have hS6 := T6.std hS5 (by omega)
    have hb6 := T6.ext hb5 hg
    have hWd6 := hW.after hb6 hS
    have D6 := T6.dice
    clear T6 hS5 hb5 D5
    have hu : u = 0 ∨ u = 1 ∨ u = 2 := by omega
    clear p6 q6
    have hFs : (⟨F.toArray⟩ : ByteArray).size ≤ 120 := by show F.toArray.size ≤ _; rw [List.size_toArray]; exact hFl
    rcases hu with rfl | rfl | rfl
    · go_wp2_with fail
      refine (spoil_walk w.heap.size g ⟨F.toArray⟩ _ (by decide) (by decide) (by omega) _ D6).mono ?_
      rintro e w7 ⟨r, rfl, hr, T7⟩
      have hS7 := T7.std hS6 (by omega)
      have hb7 := T7.ext hb6 hg
      have hWd7 := hW.after hb7 hS
      go_wp2_with fail
      refine (exact_walk _ _ r (by omega) _ hS7 hWd7).mono ?_
      rintro e w8 ⟨rfl, hb8⟩
      go_wp2
      go_ret
      exact ⟨rfl, ext_trans hb7 hb8⟩
    · go_wp2_with fail
      refine (next_walk w.heap.size g 7 (by omega) _ (D6.later (ext_alloc (Below.refl _ _) _))).mono ?_
      rintro e w7 ⟨k, rfl, p7, q7, -, T7, -⟩
      have q7 := q7 (by omega)
      have hne : w6.heap.size ≠ g := by have := D6.lt; omega
      have hS7 := T7.std (hS6.alloc _) (by omega)
      have hb7 := T7.ext (ext_alloc hb6 _) hg
      have hWd7 := hW.after hb7 hS
      have hk : k = 0 ∨ k = 1 ∨ k = 2 ∨ k = 3 ∨ k = 4 ∨ k = 5 ∨ k = 6 := by omega
      clear p7 q7
      rcases hk with rfl | rfl | rfl | rfl | rfl | rfl | rfl
      · have c0 := T7.cell (o := 0) hne (v := .string ⟨#[111, 100, 100]⟩) (by simp)
        go_wp2_with fail
        refine (exact_walk _ _ _ (by have e1 : (⟨#[44]⟩ : ByteArray).size = 1 := rfl; have e2 : (⟨#[111, 100, 100]⟩ : ByteArray).size = 3 := rfl; rw [ByteArray.size_append, ByteArray.size_append, e1, e2]; omega) _ hS7 hWd7).mono ?_
        rintro e w8 ⟨rfl, hb8⟩
        go_wp2
        go_ret
        exact ⟨rfl, ext_trans hb7 hb8⟩
      · have c0 := T7.cell (o := 1) hne (v := .string ⟨#[101, 118, 101, 110]⟩) (by simp)
        go_wp2_with fail
        refine (exact_walk _ _ _ (by have e1 : (⟨#[44]⟩ : ByteArray).size = 1 := rfl; have e2 : (⟨#[101, 118, 101, 110]⟩ : ByteArray).size = 4 := rfl; rw [ByteArray.size_append, ByteArray.size_append, e1, e2]; omega) _ hS7 hWd7).mono ?_
        rintro e w8 ⟨rfl, hb8⟩
        go_wp2
        go_ret
        exact ⟨rfl, ext_trans hb7 hb8⟩
      · have c0 := T7.cell (o := 2) hne (v := .string ⟨#[102, 105, 114, 115, 116]⟩) (by simp)
        go_wp2_with fail
        refine (exact_walk _ _ _ (by have e1 : (⟨#[44]⟩ : ByteArray).size = 1 := rfl; have e2 : (⟨#[102, 105, 114, 115, 116]⟩ : ByteArray).size = 5 := rfl; rw [ByteArray.size_append, ByteArray.size_append, e1, e2]; omega) _ hS7 hWd7).mono ?_
        rintro e w8 ⟨rfl, hb8⟩
        go_wp2
        go_ret
        exact ⟨rfl, ext_trans hb7 hb8⟩
      · have c0 := T7.cell (o := 3) hne (v := .string ⟨#[115, 101, 99, 111, 110, 100]⟩) (by simp)
        go_wp2_with fail
        refine (exact_walk _ _ _ (by have e1 : (⟨#[44]⟩ : ByteArray).size = 1 := rfl; have e2 : (⟨#[115, 101, 99, 111, 110, 100]⟩ : ByteArray).size = 6 := rfl; rw [ByteArray.size_append, ByteArray.size_append, e1, e2]; omega) _ hS7 hWd7).mono ?_
        rintro e w8 ⟨rfl, hb8⟩
        go_wp2
        go_ret
        exact ⟨rfl, ext_trans hb7 hb8⟩
      · have c0 := T7.cell (o := 4) hne (v := .string ⟨#[97, 108, 108]⟩) (by simp)
        go_wp2_with fail
        refine (exact_walk _ _ _ (by have e1 : (⟨#[44]⟩ : ByteArray).size = 1 := rfl; have e2 : (⟨#[97, 108, 108]⟩ : ByteArray).size = 3 := rfl; rw [ByteArray.size_append, ByteArray.size_append, e1, e2]; omega) _ hS7 hWd7).mono ?_
        rintro e w8 ⟨rfl, hb8⟩
        go_wp2
        go_ret
        exact ⟨rfl, ext_trans hb7 hb8⟩
      · have c0 := T7.cell (o := 5) hne (v := .string ⟨#[49, 45, 50]⟩) (by simp)
        go_wp2_with fail
        refine (exact_walk _ _ _ (by have e1 : (⟨#[44]⟩ : ByteArray).size = 1 := rfl; have e2 : (⟨#[49, 45, 50]⟩ : ByteArray).size = 3 := rfl; rw [ByteArray.size_append, ByteArray.size_append, e1, e2]; omega) _ hS7 hWd7).mono ?_
        rintro e w8 ⟨rfl, hb8⟩
        go_wp2
        go_ret
        exact ⟨rfl, ext_trans hb7 hb8⟩
      · have c0 := T7.cell (o := 6) hne (v := .string ⟨#[50, 48]⟩) (by simp)
        go_wp2_with fail
        refine (exact_walk _ _ _ (by have e1 : (⟨#[44]⟩ : ByteArray).size = 1 := rfl; have e2 : (⟨#[50, 48]⟩ : ByteArray).size = 2 := rfl; rw [ByteArray.size_append, ByteArray.size_append, e1, e2]; omega) _ hS7 hWd7).mono ?_
        rintro e w8 ⟨rfl, hb8⟩
        go_wp2
        go_ret
        exact ⟨rfl, ext_trans hb7 hb8⟩
    · go_wp2_with fail
      refine (exact_walk _ _ ⟨F.toArray⟩ (by omega) _ hS6 hWd6).mono ?_
      rintro e w8 ⟨rfl, hb8⟩
      go_wp2
      go_ret
      exact ⟨rfl, ext_trans hb6 hb8⟩
  · have hd400 : decide (n ≤ 400) = false := by simpa using hn
    go_enter Tryd.func8, Tryd.ntmps8
    go_wp2_with (go_at_call 13; refine (light_walk _ _ _ _).mono ?_; rintro e w' ⟨rfl, rfl⟩)
    refine (awake05_walk _ hS).mono ?_
    rintro e w1 ⟨rfl, hb1⟩
    go_wp2
    go_ret
    exact ⟨rfl, hb1⟩
end Go.Proofs.YtdnmmkbknicdcaaDoor
