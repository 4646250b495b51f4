/- The statement TimegridReadsMade: its walk. Conditions: the numbers can be read; what the program's variables hold. -/
import Derived.Test.YtgbkochjoaalhaaGreatDoorTwo
import Derived.Test.YtgbkochjoaalhaaGreatDoorTgK
import Derived.Test.YtgbkochjoaalhaaGreatDoorTgN
import Derived.Test.YtgbkochjoaalhaaGreatDoorTgI
import Derived.Test.YtgbkochjoaalhaaGreatDoorTgG
import Derived.Test.YtgbkochjoaalhaaGreatDoorLawTR
import Derived.Test.YtgbkochjoaalhaaGreatDoorSpoilB
namespace Go.Proofs.YtgbkochjoaalhaaGreatDoor
open Go.RowKit
set_option maxRecDepth 100000

/-- Dice, a grid, a time. -/
structure OneT (w0 : World) (g k c : Nat) (d s b m x1 x2 x3 x4 : Int) (W : World) : Prop where
  dice : DiceOk w0.heap.size W g
  grid : Box4 W k (.int .i64 d) (.int .i64 s) (.int .i64 b) (.int .i64 m)
  gfree : Free W k
  bx : Box4 W c (.int .i64 x1) (.int .i64 x2) (.int .i64 x3) (.int .i64 x4)
  below : Below w0.heap.size w0 W
  std : Std W
section
variable {w0 : World} {g k c : Nat} {d s b m x1 x2 x3 x4 : Int} {W W' : World}
theorem OneT.on (h : OneT w0 g k c d s b m x1 x2 x3 x4 W) (hg : w0.heap.size ≤ g) (hS0 : 11 ≤ w0.heap.size) (hk : g < k) (h6 : k < c) (T : Thrown w0.heap.size W g W') : OneT w0 g k c d s b m x1 x2 x3 x4 W' :=
  ⟨T.dice, T.box (by omega) h.grid, h.gfree.thrown T (by omega), T.box (by omega) h.bx, T.ext h.below hg, T.std h.std (by omega)⟩
theorem OneT.later (h : OneT w0 g k c d s b m x1 x2 x3 x4 W) (hb : Below W.heap.size W W') : OneT w0 g k c d s b m x1 x2 x3 x4 W' :=
  ⟨h.dice.later hb, h.grid.later hb, h.gfree.later hb, h.bx.later hb, ext_trans h.below hb, h.std.after hb⟩
theorem OneT.setg (h : OneT w0 g k c d s b m x1 x2 x3 x4 W) (hg : w0.heap.size ≤ g) (hS0 : 11 ≤ w0.heap.size) (hk : g < k) (h6 : k < c) (z1 z2 z3 z4 : Int) :
    OneT w0 g k c z1 z2 z3 z4 x1 x2 x3 x4 ((((W.setCell ⟨k, 0, none⟩ (.int .i64 z1)).setCell ⟨k, 1, none⟩ (.int .i64 z2)).setCell ⟨k, 2, none⟩ (.int .i64 z3)).setCell ⟨k, 3, none⟩ (.int .i64 z4)) :=
  ⟨dice_set4 h.dice (by omega) (by omega) _ _ _ _, box_same h.grid.four _ _ _ _, free_set4 h.gfree _ _ _ _ _, box_other h.bx (by omega) _ _ _ _, ext_set4 h.below (by omega) _ _ _ _, std_set4 h.std (by omega) _ _ _ _⟩
end
def TextCut (w0 : World) (g k c : Nat) (d s b m x1 x2 x3 x4 : Int) (s7 : Value) (W : World) : Prop := ∃ r : ByteArray, s7 = .string r ∧ r.size ≤ 1000 ∧ OneT w0 g k c d s b m x1 x2 x3 x4 W
def GridCut (w0 : World) (g k c : Nat) (x1 x2 x3 x4 : Int) (s4 : Value) (W : World) : Prop := s4 = .pointer (some ⟨k, 0, none⟩) ∧ ∃ d s b m : Int, OneT w0 g k c d s b m x1 x2 x3 x4 W
set_option maxHeartbeats 8000000 in
theorem rmade_walk (A : Option Addr) (n c : Nat) (w : World) (hS : Std w) (hW : Wds w) (hDy : Dys w) (hA : 0 < n → ∃ b off, A = some ⟨b, off, none⟩ ∧ ∀ j, j < n → ∃ x : Int, w.cell? ⟨b, off + j, none⟩ = some (.int .i64 x)) :
    Calls Tryz.prog 5 #[.slice A n c] w fun e w' => e = .returned (.bool true) ∧ Below w.heap.size w w' := by
  by_cases hn : n ≤ 400
  · have hd400 : decide (n ≤ 400) = true := by simpa using hn
    have D0 := dice_new (c := c) hn hA
    have hS0 := hS.big
    obtain ⟨g, hgw⟩ : ∃ g, w.heap.size = g := ⟨_, rfl⟩
    obtain ⟨W1, hW1⟩ : ∃ W1, w.alloc (.cells #[.slice A n c, .int .i64 0] 82) = W1 := ⟨_, rfl⟩
    have hb1 : Below w.heap.size w W1 := by rw [← hW1]; exact (by repeat (first | exact Below.refl _ _ | refine ext_alloc ?_ _ | refine ext_drewN ?_ _ | refine ext_drew ?_ | refine ext_trans ?_ (by assumption)))
    have hS1 := hS.after hb1
    rw [hW1] at D0
    have hg : w.heap.size ≤ g := Nat.le_of_eq hgw
    have D1 : DiceOk w.heap.size W1 g := by rw [← hgw]; exact D0
    replace hW1 := hide hW1
    replace hgw := hide hgw
    clear D0 hA
    go_enter Tryz.func5, Tryz.ntmps5
    go_wp2_with (go_at_call 14; refine (light_walk _ _ _ _).mono ?_; rintro e w' ⟨rfl, rfl⟩)
    refine (roll_walk _ _ _ _).mono ?_
    rintro e w' ⟨rfl, rfl⟩
    rw [hW1.out, hgw.out]
    clear hW1 hgw
    go_wp2_with fail
    refine (grid_walk w.heap.size g W1 D1).mono ?_
    rintro e w2 ⟨d, s, b, m, rfl, ⟨d1, d2, s1, s2, z1, z2, z3, z4⟩, T2⟩
    go_wp2_with fail
    refine (next_walk w.heap.size g 8 (by omega) _ T2.dice).mono ?_
    rintro e w3 ⟨v, rfl, p3, q3, -, T3, -⟩
    have q3 := q3 (by omega)
    have T := T2.trans T3
    have hS3 := T.std hS1 (by omega)
    have hb3 := T.ext hb1 hg
    have hB := Box4.new w3 24 (.int .i64 d) (.int .i64 s) (.int .i64 b) (.int .i64 m)
    have hfr := Free.new w3 24 #[.int .i64 d, .int .i64 s, .int .i64 b, .int .i64 m]
    have hk : g < w3.heap.size := T.dice.lt
    have hD3 := T.dice.later (ext_alloc (Below.refl _ _) (.cells #[.int .i64 d, .int .i64 s, .int .i64 b, .int .i64 m] 24))
    obtain ⟨v, rfl⟩ := Int.eq_ofNat_of_zero_le p3
    obtain ⟨N, hN⟩ : ∃ N : Nat, 1 + v = N := ⟨_, rfl⟩
    have hN1 : 1 ≤ N := by omega
    have hN20 : N ≤ 20 := by omega
    have hw := week_made d1 d2 s1 s2 z1 z2 z3 z4 (by omega : 1 ≤ (N : Int)) (by omega : (N : Int) ≤ 20)
    go_wp2_with fail
    rw [show ((1 : Int) + (v : Int)) = (N : Int) from by omega]
    clear hN T T2 T3 D1 hS1 hb1 z1 z2 z3 z4 p3 q3
    refine (time_walk w.heap.size g d s b m N (by omega) (by omega) (by omega) (by omega) _ hD3).mono ?_
    rintro e w4 ⟨x1, x2, x3, x4, rfl, ⟨t1, t2⟩, ⟨t3, t4⟩, ⟨t5, -, t6, t7⟩, T4, -⟩
    rw [Int.toNat_natCast] at t2
    have hT : TimeB N d s x1 x2 x3 x4 := ⟨t1, t2, t3, t4, t5, t6, t7⟩
    have hfit := fits_made hw hT hN1 hN20 d2 s2
    have hfm : fmtT d s b m N x1 x2 x3 x4 = (timeT N x1.toNat x2.toNat x3.toNat x4.toNat, 0) := by
      unfold fmtT
      rw [if_pos hfit, Int.toNat_natCast]
    have hlen : (timeT N x1.toNat x2.toNat x3.toNat x4.toNat).length ≤ 200 := timeT_len hN20
    have hst : OneT w g w3.heap.size w4.heap.size d s b m x1 x2 x3 x4 (w4.alloc (.cells #[.int .i64 x1, .int .i64 x2, .int .i64 x3, .int .i64 x4] 43)) :=
      ⟨T4.dice.later (ext_alloc (Below.refl _ _) _), (T4.box (by omega) hB).later (ext_alloc (Below.refl _ _) _), (hfr.thrown T4 (by omega)).later (ext_alloc (Below.refl _ _) _), Box4.new _ _ _ _ _ _, ext_alloc (T4.ext (ext_alloc hb3 _) hg) _, (T4.std (hS3.alloc _) (by omega)).alloc _⟩
    have hkc : w3.heap.size < w4.heap.size := by have := T4.size; rw [World.size_alloc] at this; omega
    obtain ⟨k, hkk⟩ : ∃ k, w3.heap.size = k := ⟨_, rfl⟩
    obtain ⟨c6, hcc⟩ : ∃ c6, w4.heap.size = c6 := ⟨_, rfl⟩
    rw [hkk, hcc] at hst hkc
    rw [hkk] at hk
    obtain ⟨X, hX⟩ : ∃ X, timeT N x1.toNat x2.toNat x3.toNat x4.toNat = X := ⟨_, rfl⟩
    rw [hX] at hlen hfm
    obtain ⟨W5, hW5⟩ : ∃ W5, w4.alloc (.cells #[.int .i64 x1, .int .i64 x2, .int .i64 x3, .int .i64 x4] 43) = W5 := ⟨_, rfl⟩
    rw [hW5] at hst
    clear hfit hX t1 t2 t3 t4 t5 t6 t7 hw hT T4 hb3 hS3 hD3 hB hfr
    replace hfm := hide hfm
    replace hkk := hide hkk
    replace hcc := hide hcc
    replace hW5 := hide hW5
    go_upto_region 6 with fail
    rw [hkk.out, hcc.out, hW5.out]
    have hW5' : Wds W5 := hW.after hst.below hS
    have hD5' : Dys W5 := hDy.after hst.below hS
    obtain ⟨g0, g1, g2, g3⟩ := hst.grid
    obtain ⟨e0, e1, e2, e3⟩ := hst.bx
    go_wp2_with fail
    refine (r6Format_walk _ _ _ _ _ _ _ _ _ _ hst.std hW5' hD5').mono ?_
    rintro e w6 ⟨rfl, hb6⟩
    rw [hfm.out]
    replace hst := hst.later hb6
    clear hb6 hW5' hD5' g0 g1 g2 g3 e0 e1 e2 e3 hkk hcc hW5
    have hXs : (⟨X.toArray⟩ : ByteArray).size ≤ 200 := by show X.toArray.size ≤ _; rw [List.size_toArray]; exact hlen
    go_wp2_with fail
    refine (one_walk w.heap.size g 2 (by omega) (by omega) _ hst.dice).mono ?_
    rintro e w7 ⟨o1, rfl, T7⟩
    replace hst := hst.on hg hS0 hk hkc T7
    clear T7
    go_upto_if 47 with fail
    go_cut [7] (fun s7 wx => TextCut w g k c6 d s b m x1 x2 x3 x4 s7 wx)
    case first =>
      cases o1 with
      | false =>
        go_wp2_with fail
        go_meet
        exact ⟨_, rfl, by omega, hst⟩
      | true =>
        go_wp2_with fail
        refine (spoil_walk w.heap.size g ⟨X.toArray⟩ _ (by decide) (by decide) (by omega) _ hst.dice).mono ?_
        rintro e w8 ⟨r, rfl, hr, T8⟩
        replace hst := hst.on hg hS0 hk hkc T8
        clear T8
        go_wp2_with fail
        go_meet
        exact ⟨_, rfl, by omega, hst⟩
    case rest =>
      clear hst hXs hlen hfm
      obtain ⟨z, rfl, hz, hst⟩ := hcut
      go_wp2_with fail
      refine (one_walk w.heap.size g 5 (by omega) (by omega) _ hst.dice).mono ?_
      rintro e w7 ⟨o2, rfl, T7⟩
      replace hst := hst.on hg hS0 hk hkc T7
      clear T7
      go_upto_if 52 with fail
      go_cut [4] (fun s4 wx => GridCut w g k c6 x1 x2 x3 x4 s4 wx)
      case first =>
        cases o2 with
        | false =>
          go_wp2_with fail
          go_meet
          exact ⟨rfl, _, _, _, _, hst⟩
        | true =>
          obtain ⟨a0, a1, a2, a3⟩ := hst.grid
          go_wp2_with fail
          refine (oddGrid_walk w.heap.size g d s b m _ hst.dice).mono ?_
          rintro e w8 ⟨y1, y2, y3, y4, rfl, T8⟩
          replace hst := hst.on hg hS0 hk hkc T8
          clear T8 a0 a1 a2 a3
          obtain ⟨a0, a1, a2, a3⟩ := hst.grid
          have f0 := hst.gfree.2 0
          have f1 := hst.gfree.2 1
          have f2 := hst.gfree.2 2
          have f3 := hst.gfree.2 3
          go_wp2_with fail
          go_meet
          exact ⟨rfl, _, _, _, _, hst.setg hg hS0 hk hkc _ _ _ _⟩
      case rest =>
        clear hst d1 d2 s1 s2
        obtain ⟨rfl, d, s, b, m, hst⟩ := hcut
        rename_i wc
        have c1 : Hid (∀ w, Std w → _) := fun w hS => tgParse_walk d s b m N z (by omega) w hS
        have c2 : Hid (∀ w, Std w → Wds w → Dys w → _) := fun w hS hW hD => r6Parse_walk d s b m N z (by omega) w hS hW hD
        have c3 : Hid (∀ w, _) := fun w => tgFormat_walk d s b m N x1 x2 x3 x4 w
        have c4 : Hid (∀ w, Std w → Wds w → Dys w → _) := fun w hS hW hD => r6Format_walk d s b m N x1 x2 x3 x4 w hS hW hD
        have g1 := fun w hS => c1.out w hS
        have g2 := fun w hS hW hD => c2.out w hS hW hD
        have g3 := fun w => c3.out w
        have g4 := fun w hS hW hD => c4.out w hS hW hD
        clear c1 c2 c3 c4
        obtain ⟨⟨p1, p2, p3, p4, p5⟩, hp⟩ : ∃ p, parseT d s b m N (Lib.splitB ⟨#[32]⟩ 0 (Lib.countB z ⟨#[32]⟩) z) = p := ⟨_, rfl⟩
        obtain ⟨⟨f1, f2⟩, hf⟩ : ∃ f, fmtT d s b m N x1 x2 x3 x4 = f := ⟨_, rfl⟩
        have hpv : timeVal (p1, p2, p3, p4, p5) = .tuple #[.agg #[.int .i64 p1, .int .i64 p2, .int .i64 p3, .int .i64 p4], .int .i64 p5] := rfl
        simp only [hp, hpv] at g1 g2
        simp only [hf] at g3 g4
        clear hp hf hpv hz
        replace g1 := hide g1
        replace g2 := hide g2
        replace g3 := hide g3
        replace g4 := hide g4
        have keep : Hid (∀ {W W' : World}, OneT w g k c6 d s b m x1 x2 x3 x4 W → Below W.heap.size W W' → OneT w g k c6 d s b m x1 x2 x3 x4 W') := hide fun h hb => h.later hb
        have hWd : Hid (∀ {W : World}, OneT w g k c6 d s b m x1 x2 x3 x4 W → Wds W) := hide fun h => hW.after h.below hS
        have hDd : Hid (∀ {W : World}, OneT w g k c6 d s b m x1 x2 x3 x4 W → Dys W) := hide fun h => hDy.after h.below hS
        obtain ⟨a0, a1, a2, a3⟩ := hst.grid
        go_wp2_with fail
        refine (g1.out _ hst.std).mono ?_
        rintro e w1 ⟨rfl, hb1⟩
        clear a0 a1 a2 a3
        have hA := Box4.new w1 43 (.int .i64 p1) (.int .i64 p2) (.int .i64 p3) (.int .i64 p4)
        have hst1 := hst.later (ext_alloc hb1 (.cells #[.int .i64 p1, .int .i64 p2, .int .i64 p3, .int .i64 p4] 43))
        have v1 : k < w1.heap.size := Nat.lt_of_lt_of_le hst.grid.lt hb1.size
        obtain ⟨a0, a1, a2, a3⟩ := (hst.later hb1).grid
        clear hst hb1
        go_wp2_with fail
        refine (g2.out _ hst1.std (hWd.out hst1) (hDd.out hst1)).mono ?_
        rintro e w2 ⟨rfl, hb2⟩
        clear a0 a1 a2 a3
        replace hA := hA.later (ext_alloc hb2 (.cells #[.int .i64 p1, .int .i64 p2, .int .i64 p3, .int .i64 p4] 43))
        have hE := Box4.new w2 43 (.int .i64 p1) (.int .i64 p2) (.int .i64 p3) (.int .i64 p4)
        have hst2 := hst1.later (ext_alloc hb2 (.cells #[.int .i64 p1, .int .i64 p2, .int .i64 p3, .int .i64 p4] 43))
        have u1 : k < w2.heap.size := Nat.lt_of_lt_of_le hst1.grid.lt hb2.size
        have u2 : c6 < w2.heap.size := Nat.lt_of_lt_of_le hst1.bx.lt hb2.size
        obtain ⟨a0, a1, a2, a3⟩ := (hst1.later hb2).grid
        obtain ⟨e0, e1, e2, e3⟩ := (hst1.later hb2).bx
        clear hst1 hb2
        go_wp2_with fail
        refine (g3.out _).mono ?_
        rintro e w3 ⟨rfl, hb3⟩
        clear a0 a1 a2 a3 e0 e1 e2 e3
        replace hA := hA.later hb3
        replace hE := hE.later hb3
        have hst3 := hst2.later hb3
        obtain ⟨a0, a1, a2, a3⟩ := hst3.grid
        obtain ⟨e0, e1, e2, e3⟩ := hst3.bx
        clear hst2 hb3
        go_wp2_with fail
        refine (g4.out _ hst3.std (hWd.out hst3) (hDd.out hst3)).mono ?_
        rintro e w4 ⟨rfl, hb4⟩
        clear a0 a1 a2 a3 e0 e1 e2 e3
        replace hA := hA.later hb4
        replace hE := hE.later hb4
        have hst4 := hst3.later hb4
        clear hst3 hb4
        go_wp2_with fail
        refine (next_walk w.heap.size g 12 (by omega) _ hst4.dice).mono ?_
        rintro e w5 ⟨v, rfl, p6, q6, -, T5, -⟩
        have q6 := q6 (by omega)
        replace hA := T5.box (by omega) hA
        replace hE := T5.box (by omega) hE
        have hst5 := hst4.on hg hS0 hk hkc T5
        clear hst4 T5 g1 g2 g3 g4
        have c5 := hide (fun w => tgClock_walk d s b m (v - 1) w)
        have c6' := hide (fun w => r6Clock_walk d s b m (v - 1) w)
        have g5 := fun w => c5.out w
        have g6 := fun w => c6'.out w
        obtain ⟨⟨k1, k2, k3⟩, hkv⟩ : ∃ k, clockV d s b m (v - 1) = k := ⟨_, rfl⟩
        simp only [hkv] at g5 g6
        clear hkv c5 c6'
        replace g5 := hide g5
        replace g6 := hide g6
        obtain ⟨a0, a1, a2, a3⟩ := hst5.grid
        go_wp2_with fail
        refine (g5.out _).mono ?_
        rintro e w6 ⟨rfl, hb6⟩
        clear a0 a1 a2 a3
        replace hA := hA.later hb6
        replace hE := hE.later hb6
        have hst6 := hst5.later hb6
        obtain ⟨a0, a1, a2, a3⟩ := hst6.grid
        clear hst5 hb6
        go_wp2_with fail
        refine (g6.out _).mono ?_
        rintro e w7 ⟨rfl, hb7⟩
        clear a0 a1 a2 a3
        replace hA := hA.later hb7
        replace hE := hE.later hb7
        have hst7 := hst6.later hb7
        clear hst6 hb7
        go_wp2_with fail
        refine (awake06_walk _ hst7.std).mono ?_
        rintro e w8 ⟨rfl, hb8⟩
        replace hA := hA.later hb8
        replace hE := hE.later hb8
        have hbb := ext_trans hst7.below hb8
        clear hst7 hb8
        obtain ⟨a0, a1, a2, a3⟩ := hA
        obtain ⟨e0, e1, e2, e3⟩ := hE
        go_wp2
        go_ret
        exact ⟨ret_bool (by simp), hbb⟩
  · have hd400 : decide (n ≤ 400) = false := by simpa using hn
    go_enter Tryz.func5, Tryz.ntmps5
    go_wp2_with (go_at_call 14; refine (light_walk _ _ _ _).mono ?_; rintro e w' ⟨rfl, rfl⟩)
    refine (awake06_walk _ hS).mono ?_
    rintro e w1 ⟨rfl, hb1⟩
    go_wp2
    go_ret
    exact ⟨rfl, hb1⟩
end Go.Proofs.YtgbkochjoaalhaaGreatDoor
