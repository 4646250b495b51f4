/- The statement TimegridReturns: its walk. Conditions: the numbers can be read; the program's variables hold what Std says. -/
import Derived.Test.YtdnmmkbknicdcaaDoorTwo
import Derived.Test.YtdnmmkbknicdcaaDoorTgK
import Derived.Test.YtdnmmkbknicdcaaDoorMeets
namespace Go.Proofs.YtdnmmkbknicdcaaDoor
open Go.RowKit
set_option maxRecDepth 100000

theorem week_made {d s b m n : Int} (d1 : 1 ≤ d) (d2 : d ≤ 5) (s1 : 2 ≤ s) (s2 : s ≤ 8) (b1 : 480 ≤ b) (b2 : b ≤ 585) (m1 : 30 ≤ m) (m2 : m ≤ 60) (n1 : 1 ≤ n) (n2 : n ≤ 20) : weekB d s b m n = true := by
  have h1 : s * m ≤ 8 * m := Int.mul_le_mul_of_nonneg_right s2 (by omega)
  have hg : gridV d s b m = 0 := gridV_no (by omega)
  simp only [weekB, hg, decide_true, Bool.true_and, decide_eq_true_eq]
  omega
theorem fits_made {n : Nat} {d s b m x1 x2 x3 x4 : Int} (hw : weekB d s b m n = true) (h : TimeB n d s x1 x2 x3 x4) (hn1 : 1 ≤ n) (hn : n ≤ 20) (hd : d ≤ 5) (hs : s ≤ 8) : fitsV d s b m n x1 x2 x3 x4 = 0 := by
  have hsd := sound_of h hn hd hs
  have hv : validB x1 n = true := validB_iff.2 ⟨by omega, by omega, h.w1, by rw [Int.toNat_natCast]; have := h.w2; simpa using this⟩
  obtain ⟨-, -, -, d2, -, -, s3⟩ := h
  unfold fitsV
  rw [if_neg (by rw [hw]; simp), if_neg (by rw [hsd, hv]; simp; omega)]
set_option maxHeartbeats 8000000 in
theorem treturns_walk (A : Option Addr) (n c : Nat) (w : World) (hS : Std w) (hA : 0 < n → ∃ b off, A = some ⟨b, off, none⟩ ∧ ∀ j, j < n → ∃ x : Int, w.cell? ⟨b, off + j, none⟩ = some (.int .i64 x)) :
    Calls Tryd.prog 11 #[.slice A n c] w fun e w' => e = .returned (.bool true) ∧ Below w.heap.size w w' := by
  by_cases hn : n ≤ 400
  · have hd400 : decide (n ≤ 400) = true := by simpa using hn
    have D0 := dice_new (c := c) hn hA
    have hS0 := hS.big
    obtain ⟨g, hgw⟩ : ∃ g, w.heap.size = g := ⟨_, rfl⟩
    obtain ⟨W1, hW1⟩ : ∃ W1, w.alloc (.cells #[.slice A n c, .int .i64 0] 66) = W1 := ⟨_, rfl⟩
    have hb1 : Below w.heap.size w W1 := by rw [← hW1]; exact (by repeat (first | exact Below.refl _ _ | refine ext_alloc ?_ _ | refine ext_drewN ?_ _ | refine ext_drew ?_ | refine ext_trans ?_ (by assumption)))
    have hS1 := hS.after hb1
    rw [hW1] at D0
    have hg : w.heap.size ≤ g := Nat.le_of_eq hgw
    have D1 : DiceOk w.heap.size W1 g := by rw [← hgw]; exact D0
    replace hW1 := hide hW1
    replace hgw := hide hgw
    clear D0 hA
    go_enter Tryd.func11, Tryd.ntmps11
    go_wp2_with (go_at_call 13; refine (light_walk _ _ _ _).mono ?_; rintro e w' ⟨rfl, rfl⟩)
    refine (roll_walk _ _ _ _).mono ?_
    rintro e w' ⟨rfl, rfl⟩
    rw [hW1.out, hgw.out]
    clear hW1 hgw
    go_wp2_with fail
    refine (grid_walk w.heap.size g W1 D1).mono ?_
    rintro e w2 ⟨d, s, b, m, rfl, ⟨d1, d2, s1, s2, z1, z2, z3, z4⟩, T2⟩
    go_wp2_with fail
    refine (next_walk w.heap.size g 20 (by omega) _ T2.dice).mono ?_
    rintro e w3 ⟨v, rfl, p3, q3, -, T3, -⟩
    have q3 := q3 (by omega)
    have T := T2.trans T3
    have hS3 := T.std hS1 (by omega)
    have hb3 := T.ext hb1 hg
    have hB := Box4.new w3 28 (.int .i64 d) (.int .i64 s) (.int .i64 b) (.int .i64 m)
    have hk : g < w3.heap.size := T.dice.lt
    have hD3 := T.dice.later (ext_alloc (Below.refl _ _) (.cells #[.int .i64 d, .int .i64 s, .int .i64 b, .int .i64 m] 28))
    obtain ⟨v, rfl⟩ := Int.eq_ofNat_of_zero_le p3
    obtain ⟨N, hN⟩ : ∃ N : Nat, 1 + v = N := ⟨_, rfl⟩
    have hN1 : 1 ≤ N := by omega
    have hN20 : N ≤ 20 := by omega
    have hw := week_made d1 d2 s1 s2 z1 z2 z3 z4 (by omega : 1 ≤ (N : Int)) (by omega : (N : Int) ≤ 20)
    go_wp2_with fail
    rw [show ((1 : Int) + (v : Int)) = (N : Int) from by omega]
    clear hN T T2 T3 D1 hS1 hb1 z1 z2 z3 z4 p3 q3
    refine (time_walk w.heap.size g d s b m N (by omega) (by omega) (by omega) (by omega) _ hD3).mono ?_
    rintro e w4 ⟨x1, x2, x3, x4, rfl, ⟨t1, t2⟩, ⟨t3, t4⟩, ⟨t5, -, t6, t7⟩, T4, -⟩
    rw [Int.toNat_natCast] at t2
    have hT : TimeB N d s x1 x2 x3 x4 := ⟨t1, t2, t3, t4, t5, t6, t7⟩
    have hfit := hide (fits_made hw hT hN1 hN20 d2 s2)
    have hS4 := T4.std (hS3.alloc _) (by omega)
    have hb4 := T4.ext (ext_alloc hb3 _) hg
    replace hB := T4.box (by omega) hB
    clear T4 hb3 hS3 hD3 hT
    obtain ⟨a, rfl⟩ := Int.eq_ofNat_of_zero_le (by omega : 0 ≤ x1)
    obtain ⟨k, rfl⟩ := Int.eq_ofNat_of_zero_le t3
    obtain ⟨p, rfl⟩ := Int.eq_ofNat_of_zero_le t5
    obtain ⟨q, rfl⟩ := Int.eq_ofNat_of_zero_le (by omega : 0 ≤ x4)
    have hpt := hide (parse_time (b := b) (m := m) (N := N) (a := a) (k := k) (p := p) (q := q) hw hN1 hN20 (by omega) (by omega) (by omega) t4 (by omega) (by omega) t7)
    have hfm : fmtT d s b m N a k p q = (timeT N a k p q, 0) := by
      unfold fmtT
      rw [if_pos hfit.out]
      rfl
    replace hfm := hide hfm
    have hlen : (timeT N a k p q).length ≤ 200 := timeT_len hN20
    obtain ⟨X, hX⟩ : ∃ X, timeT N a k p q = X := ⟨_, rfl⟩
    rw [hX] at hlen hfm hpt
    clear hfit hX t1 t2 t3 t4 t5 t6 t7 hw
    have b0 := hB.c0
    have b1 := hB.c1
    have b2 := hB.c2
    have b3 := hB.c3
    have hlt := hB.lt
    have hC := Box4.new w4 32 (.int .i64 a) (.int .i64 k) (.int .i64 p) (.int .i64 q)
    go_wp2_with fail
    refine (tgFormat_walk _ _ _ _ _ _ _ _ _ _).mono ?_
    rintro e w5 ⟨rfl, hb5⟩
    rw [hfm.out]
    have hS5 := (hS4.alloc _).after hb5
    replace hB := (hB.later (ext_alloc (Below.refl _ _) _)).later hb5
    replace hC := hC.later hb5
    have hb := ext_trans (ext_alloc hb4 _) hb5
    clear b0 b1 b2 b3 hb4 hb5 hS4
    have b0 := hB.c0
    have b1 := hB.c1
    have b2 := hB.c2
    have b3 := hB.c3
    go_wp2_with fail
    refine (tgParse_walk _ _ _ _ _ ⟨X.toArray⟩ (by show X.toArray.size < _; rw [List.size_toArray]; omega) _ hS5).mono ?_
    rintro e w6 ⟨rfl, hb6⟩
    rw [hpt.out]
    rw [show timeVal ((a : Int), (k : Int), (p : Int), (q : Int), 0) = .tuple #[.agg #[.int .i64 a, .int .i64 k, .int .i64 p, .int .i64 q], .int .i64 0] from rfl]
    have hS6 := hS5.after hb6
    replace hC := hC.later hb6
    have hE := Box4.new w6 32 (.int .i64 a) (.int .i64 k) (.int .i64 p) (.int .i64 q)
    replace hC := hC.later (ext_alloc (Below.refl _ _) (.cells #[.int .i64 a, .int .i64 k, .int .i64 p, .int .i64 q] 32))
    have hbb := ext_alloc (ext_trans hb hb6) (.cells #[.int .i64 a, .int .i64 k, .int .i64 p, .int .i64 q] 32)
    clear b0 b1 b2 b3 hB hb hb6 hS5 hlt
    go_wp2_with fail
    refine (awake06_walk _ (hS6.alloc _)).mono ?_
    rintro e w7 ⟨rfl, hb7⟩
    replace hC := hC.later hb7
    replace hE := hE.later hb7
    obtain ⟨u0, u1, u2, u3⟩ := hC
    obtain ⟨v0, v1, v2, v3⟩ := hE
    go_wp2
    go_ret
    exact ⟨ret_bool (by simp), ext_trans hbb hb7⟩
  · have hd400 : decide (n ≤ 400) = false := by simpa using hn
    go_enter Tryd.func11, Tryd.ntmps11
    go_wp2_with (go_at_call 13; refine (light_walk _ _ _ _).mono ?_; rintro e w' ⟨rfl, rfl⟩)
    refine (awake06_walk _ hS).mono ?_
    rintro e w1 ⟨rfl, hb1⟩
    go_wp2
    go_ret
    exact ⟨rfl, hb1⟩
end Go.Proofs.YtdnmmkbknicdcaaDoor
