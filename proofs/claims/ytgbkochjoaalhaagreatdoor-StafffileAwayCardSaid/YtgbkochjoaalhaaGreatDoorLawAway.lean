/- The statement StafffileAway: its walk. Conditions: the numbers can be read; what the program's variables hold. -/
import Derived.Test.YtgbkochjoaalhaaGreatDoorLawRM
import Derived.Test.YtgbkochjoaalhaaGreatDoorAwake9
namespace Go.Proofs.YtgbkochjoaalhaaGreatDoor
open Go.RowKit
set_option maxRecDepth 100000

theorem pow_shift {K : Nat} (h : K < 20) : IntKind.i64.wrap (2 ^ min (IntKind.u64.wrap (K : Int)).toNat 64) = ((2 ^ K : Nat) : Int) := by
  have hp := pow_small K (by omega)
  rw [IntWalk.u64_in _ (by omega), Int.toNat_natCast, Nat.min_eq_left (by omega)]
  have e : ((2 : Int) ^ K) = ((2 ^ K : Nat) : Int) := by simp
  rw [e]
  generalize 2 ^ K = M at hp
  exact IntWalk.i64_in _ (by omega)
/-- A time of one slot meets another one just if it lies in it. -/
theorem one_in {N K : Nat} {d s x1 x2 x3 x4 P : Int} (h : TimeB N d s x1 x2 x3 x4) (hN : N ≤ 8) (hK : K < N) (hd : d ≤ 5) (hs : s ≤ 8) (hP0 : 0 ≤ P) (hP : P < s) :
    overlapB x1 x2 x3 x4 ((2 ^ K : Nat) : Int) x2 P 1 = (!(bits .and .i64 x1 ((2 ^ K : Nat) : Int) == 0) && (decide (x3 ≤ P) && decide (P < x3 + x4))) := by
  have h2 : 2 ^ K < 2 ^ N := Nat.pow_lt_pow_right (by omega) hK
  have h3 : 1 ≤ 2 ^ K := Nat.one_le_two_pow
  have hp : TimeB N d s ((2 ^ K : Nat) : Int) x2 P 1 := ⟨by omega, by omega, h.d1, h.d2, hP0, by omega, by omega⟩
  have m : meetB x1 x2 x3 x4 ((2 ^ K : Nat) : Int) x2 P 1 = !(bits .and .i64 x1 ((2 ^ K : Nat) : Int) == 0) := by
    unfold meetB
    rw [sound_of h (by omega) hd hs, sound_of hp (by omega) hd hs]
    simp
  obtain ⟨-, -, -, -, s1, l1, s2⟩ := h
  unfold overlapB
  cases hb : !(bits .and .i64 x1 ((2 ^ K : Nat) : Int) == 0)
  · rw [hb] at m
    rw [m]; rfl
  · rw [hb] at m
    rw [m, betweenV_yes m, Bool.true_and, Bool.true_and, ← Bool.decide_and, decide_eq_decide]
    omega
set_option maxHeartbeats 8000000 in
theorem away_walk (A : Option Addr) (n c : Nat) (week slot : Int) (w : World) (hS : Std w) (hA : 0 < n → ∃ b off, A = some ⟨b, off, none⟩ ∧ ∀ j, j < n → ∃ x : Int, w.cell? ⟨b, off + j, none⟩ = some (.int .i64 x)) :
    Calls Tryz.prog 4 #[.slice A n c, .int .i64 week, .int .i64 slot] w fun e w' => e = .returned (.bool true) ∧ Below w.heap.size w w' := by
  by_cases hn : n ≤ 400
  · have hd400 : decide (n ≤ 400) = true := by simpa using hn
    have D0 := dice_new (c := c) hn hA
    have hS0 := hS.big
    obtain ⟨g, hgw⟩ : ∃ g, w.heap.size = g := ⟨_, rfl⟩
    obtain ⟨W1, hW1⟩ : ∃ W1, w.alloc (.cells #[.slice A n c, .int .i64 0] 82) = W1 := ⟨_, rfl⟩
    have hb1 : Below w.heap.size w W1 := by rw [← hW1]; exact (by repeat (first | exact Below.refl _ _ | refine ext_alloc ?_ _ | refine ext_drewN ?_ _ | refine ext_drew ?_ | refine ext_trans ?_ (by assumption)))
    have hS1 := hS.after hb1
    rw [hW1] at D0
    have hg : w.heap.size ≤ g := Nat.le_of_eq hgw
    have D1 : DiceOk w.heap.size W1 g := by rw [← hgw]; exact D0
    replace hW1 := hide hW1
    replace hgw := hide hgw
    clear D0 hA
    go_enter Tryz.func4, Tryz.ntmps4
    go_wp2_with (go_at_call 14; refine (light_walk _ _ _ _).mono ?_; rintro e w' ⟨rfl, rfl⟩)
    refine (roll_walk _ _ _ _).mono ?_
    rintro e w' ⟨rfl, rfl⟩
    rw [hW1.out, hgw.out]
    clear hW1 hgw
    go_wp2_with fail
    refine (grid_walk w.heap.size g W1 D1).mono ?_
    rintro e w2 ⟨d, s, b, m, rfl, ⟨d1, d2, s1, s2, z1, z2, z3, z4⟩, T2⟩
    go_wp2_with fail
    refine (next_walk w.heap.size g 8 (by omega) _ T2.dice).mono ?_
    rintro e w3 ⟨v, rfl, p3, q3, -, T3, -⟩
    have q3 := q3 (by omega)
    have T := T2.trans T3
    have hS3 := T.std hS1 (by omega)
    have hb3 := T.ext hb1 hg
    have hB := Box4.new w3 24 (.int .i64 d) (.int .i64 s) (.int .i64 b) (.int .i64 m)
    have hk : g < w3.heap.size := T.dice.lt
    have hD3 := T.dice.later (ext_alloc (Below.refl _ _) (.cells #[.int .i64 d, .int .i64 s, .int .i64 b, .int .i64 m] 24))
    obtain ⟨v, rfl⟩ := Int.eq_ofNat_of_zero_le p3
    obtain ⟨N, hN⟩ : ∃ N : Nat, 1 + v = N := ⟨_, rfl⟩
    have hN1 : 1 ≤ N := by omega
    have hN8 : N ≤ 8 := by omega
    have hN20 : N ≤ 20 := by omega
    go_wp2_with fail
    rw [show ((1 : Int) + (v : Int)) = (N : Int) from by omega]
    clear hN T T2 T3 D1 hS1 hb1 z1 z2 z3 z4 p3 q3
    refine (time_walk w.heap.size g d s b m N (by omega) (by omega) (by omega) (by omega) _ hD3).mono ?_
    rintro e w4 ⟨x1, x2, x3, x4, rfl, ⟨t1, t2⟩, ⟨t3, t4⟩, ⟨t5, -, t6, t7⟩, T4, -⟩
    rw [Int.toNat_natCast] at t2
    have hT : TimeB N d s x1 x2 x3 x4 := ⟨t1, t2, t3, t4, t5, t6, t7⟩
    have hb4 := T4.ext (ext_alloc hb3 _) hg
    have hS4 := T4.std (hS3.alloc _) (by omega)
    replace hB := T4.box (by omega) hB
    have hkl := hB.lt
    obtain ⟨k, hkk⟩ : ∃ k, w3.heap.size = k := ⟨_, rfl⟩
    rw [hkk] at hB hkl hk
    replace hkk := hide hkk
    clear T4 hb3 hS3 hD3
    go_upto_region 7 with fail
    rw [hkk.out]
    have b6 := ((Box4.new w4 43 (.int .i64 x1) (.int .i64 x2) (.int .i64 x3) (.int .i64 x4)).alloc (.cells #[.int .i64 x1, .int .i64 x2, .int .i64 x3, .int .i64 x4] 43)).alloc (.cells #[.string ⟨#[97]⟩, .slice (some ⟨w4.heap.size + 1, 0, none⟩) 1 1] 47)
    have b7 := (Box4.new (w4.alloc (.cells #[.int .i64 x1, .int .i64 x2, .int .i64 x3, .int .i64 x4] 43)) 43 (.int .i64 x1) (.int .i64 x2) (.int .i64 x3) (.int .i64 x4)).alloc (.cells #[.string ⟨#[97]⟩, .slice (some ⟨w4.heap.size + 1, 0, none⟩) 1 1] 47)
    rw [World.size_alloc] at b7
    have b8 : (((w4.alloc (.cells #[.int .i64 x1, .int .i64 x2, .int .i64 x3, .int .i64 x4] 43)).alloc (.cells #[.int .i64 x1, .int .i64 x2, .int .i64 x3, .int .i64 x4] 43)).alloc (.cells #[.string ⟨#[97]⟩, .slice (some ⟨w4.heap.size + 1, 0, none⟩) 1 1] 47)).heap[w4.heap.size + 2]? = some (.cells #[.string ⟨#[97]⟩, .slice (some ⟨w4.heap.size + 1, 0, none⟩) 1 1] 47) := heap_new3 _ _ _ _
    have bk := ((hB.alloc (.cells #[.int .i64 x1, .int .i64 x2, .int .i64 x3, .int .i64 x4] 43)).alloc (.cells #[.int .i64 x1, .int .i64 x2, .int .i64 x3, .int .i64 x4] 43)).alloc (.cells #[.string ⟨#[97]⟩, .slice (some ⟨w4.heap.size + 1, 0, none⟩) 1 1] 47)
    have hS5 := ((hS4.alloc (.cells #[.int .i64 x1, .int .i64 x2, .int .i64 x3, .int .i64 x4] 43)).alloc (.cells #[.int .i64 x1, .int .i64 x2, .int .i64 x3, .int .i64 x4] 43)).alloc (.cells #[.string ⟨#[97]⟩, .slice (some ⟨w4.heap.size + 1, 0, none⟩) 1 1] 47)
    have hb5 := ext_alloc (ext_alloc (ext_alloc hb4 (.cells #[.int .i64 x1, .int .i64 x2, .int .i64 x3, .int .i64 x4] 43)) (.cells #[.int .i64 x1, .int .i64 x2, .int .i64 x3, .int .i64 x4] 43)) (.cells #[.string ⟨#[97]⟩, .slice (some ⟨w4.heap.size + 1, 0, none⟩) 1 1] 47)
    obtain ⟨U, hU⟩ : ∃ U, ((w4.alloc (.cells #[.int .i64 x1, .int .i64 x2, .int .i64 x3, .int .i64 x4] 43)).alloc (.cells #[.int .i64 x1, .int .i64 x2, .int .i64 x3, .int .i64 x4] 43)).alloc (.cells #[.string ⟨#[97]⟩, .slice (some ⟨w4.heap.size + 1, 0, none⟩) 1 1] 47) = U := ⟨_, rfl⟩
    rw [hU] at b6 b7 b8 bk hS5 hb5 ⊢
    obtain ⟨c6, hc6⟩ : ∃ c6, w4.heap.size = c6 := ⟨_, rfl⟩
    rw [hc6] at b6 b7 b8 ⊢
    have a8 : U.cell? ⟨c6 + 1 + 1, 0, none⟩ = some (.string ⟨#[97]⟩) := by rw [cell_of_row _ _ _ _ _ _ b8]; rfl
    have e8 : U.cell? ⟨c6 + 1 + 1, 1, none⟩ = some (.slice (some ⟨c6 + 1, 0, none⟩) 1 1) := by rw [cell_of_row _ _ _ _ _ _ b8]; rfl
    clear hU hc6 hkk hB hb4 hS4 b8 q3
    obtain ⟨K, hK1, hK2⟩ : ∃ K : Nat, modV week N = K ∧ K < N := by
      obtain ⟨h1, h2, -⟩ := modV_bd week N
      obtain ⟨K, hK⟩ := Int.eq_ofNat_of_zero_le h1
      exact ⟨K, hK, by have := h2 (by omega); omega⟩
    obtain ⟨P, hP1, hP2⟩ : ∃ P : Nat, modV slot s = P ∧ (P : Int) < s := by
      obtain ⟨h1, h2, -⟩ := modV_bd slot s
      obtain ⟨P, hP⟩ := Int.eq_ofNat_of_zero_le h1
      exact ⟨P, hP, by have := h2 (by omega); omega⟩
    have mA := hide (fun W => mod_walk week N (by omega) W)
    have mB := hide (fun W => mod_walk slot s (by omega) W)
    have g1 := fun W => mA.out W
    have g2 := fun W => mB.out W
    rw [hK1] at g1
    rw [hP1] at g2
    replace g1 := hide g1
    replace g2 := hide g2
    clear mA mB hK1 hP1
    have hov := one_in hT hN8 hK2 d2 s2 (by omega : (0 : Int) ≤ P) hP2
    have hpw := hide (pow_shift (K := K) (by omega))
    have hQ : 2 ^ K < 1048576 := by have := pow_small K (by omega); have := Nat.pow_lt_pow_right (a := 2) (by omega) (by omega : K < 20); simpa using this
    obtain ⟨Q, hQQ⟩ : ∃ Q, 2 ^ K = Q := ⟨_, rfl⟩
    rw [hQQ] at hov hQ hpw
    clear hQQ hT
    replace hov := hide hov
    have x2c := b6.c1
    have ksc := bk.c1
    have l6 := b6.lt
    have lk := bk.lt
    have hSS : U.cell? ⟨c6, 1, none⟩ = some (.int .i64 x2) ∧ U.cell? ⟨k, 1, none⟩ = some (.int .i64 s) := ⟨x2c, ksc⟩
    have hSd : U.drew.cell? ⟨c6, 1, none⟩ = some (.int .i64 x2) ∧ U.drew.cell? ⟨k, 1, none⟩ = some (.int .i64 s) := ⟨x2c, ksc⟩
    go_region_held3 (fun W' => W'.cell? ⟨c6, 1, none⟩ = some (.int .i64 x2) ∧ W'.cell? ⟨k, 1, none⟩ = some (.int .i64 s)) (first | (with_reducible assumption) | (refine ⟨?_, ?_⟩ <;> (repeat (first | (with_reducible assumption) | (refine cell_alloc_of ?_ _))))) (first | (go_at_call 19; (with_reducible refine (g1.out _).mono ?_); rintro e w' ⟨rfl, rfl⟩) | (go_at_call 19; (with_reducible refine (g2.out _).mono ?_); rintro e w' ⟨rfl, rfl⟩))
    all_goals
      rw [hpw.out]
      clear hSS hSd hpw g1 g2
      have bP := (Box4.new U 43 (.int .i64 Q) (.int .i64 x2) (.int .i64 P) (.int .i64 1)).later (ext_drew (Below.refl _ _))
      have hbV : Below U.heap.size U (U.alloc (.cells #[.int .i64 Q, .int .i64 x2, .int .i64 P, .int .i64 1] 43)).drew := ext_drew (ext_alloc (Below.refl _ _) _)
      have b6V := b6.later hbV
      have b7V := b7.later hbV
      have a8V := cell_later hbV a8
      have e8V := cell_later hbV e8
      have hSV := hS5.after hbV
      have hb6 := ext_trans hb5 hbV
      obtain ⟨cP, hcP⟩ : ∃ cP, U.heap.size = cP := ⟨_, rfl⟩
      rw [hcP] at bP ⊢
      obtain ⟨V, hV⟩ : ∃ V, (U.alloc (.cells #[.int .i64 Q, .int .i64 x2, .int .i64 P, .int .i64 1] 43)).drew = V := ⟨_, rfl⟩
      rw [hV] at bP b6V b7V a8V e8V hSV hb6 ⊢
      clear hcP hV hbV b6 b7 bk a8 e8 x2c ksc l6 lk hS5 hb5
      have hcl : CellsAt V.heap.size V (some ⟨c6 + 1, 0, none⟩) 4 1 fun _ => encT (x1, x2, x3, x4) := by
        intro _
        refine ⟨c6 + 1, 0, rfl, b7V.lt, fun j hj i u hu => ?_⟩
        obtain rfl : j = 0 := by omega
        match i, hu with
        | 0, hu => simp [encT] at hu; subst hu; exact b7V.c0
        | 1, hu => simp [encT] at hu; subst hu; exact b7V.c1
        | 2, hu => simp [encT] at hu; subst hu; exact b7V.c2
        | 3, hu => simp [encT] at hu; subst hu; exact b7V.c3
        | i + 4, hu => simp [encT] at hu
      have hfree := hide (fun W (hb : Below V.heap.size V W) => sfFree_walk (.string ⟨#[97]⟩) (some ⟨c6 + 1, 0, none⟩) 1 1 (fun _ => (x1, x2, x3, x4)) Q x2 P 1 W (by omega) ((hcl.below hb).more hb.size))
      have ff := fun W hb => hfree.out W hb
      simp only [orTo, Bool.false_or] at ff
      rw [hov.out] at ff
      replace ff := hide ff
      obtain ⟨d0, d1', d2', d3'⟩ := b6V
      obtain ⟨p0, p1, p2, p3⟩ := bP
      clear hfree hcl b7V hov
      by_cases c1 : (bits .and .i64 x1 (Q : Int) == 0) = true
      · have c1' : (bits .and .i64 x1 (Q : Int) != 0) = false := by rw [bne, c1]; rfl
        rw [c1] at ff
        go_wp2_with fail
        refine (awake09_walk V hSV).mono ?_
        rintro e w7 ⟨rfl, hb7⟩
        have m0 := cell_later hb7 a8V
        have m1 := cell_later hb7 e8V
        have n0 := cell_later hb7 p0
        have n1 := cell_later hb7 p1
        have n2 := cell_later hb7 p2
        have n3 := cell_later hb7 p3
        clear d0 d1' d2' d3' p0 p1 p2 p3 a8V e8V
        go_wp2_with fail
        refine (ff.out w7 hb7).mono ?_
        rintro e w8 ⟨rfl, hb8⟩
        go_wp2
        go_ret
        exact ⟨rfl, ext_trans (ext_trans hb6 hb7) hb8⟩
      · have c1f : (bits .and .i64 x1 (Q : Int) == 0) = false := by simpa using c1
        have c1' : (bits .and .i64 x1 (Q : Int) != 0) = true := by rw [bne, c1f]; rfl
        rw [c1f] at ff
        clear c1
        by_cases c2 : x3 ≤ (P : Int)
        · rw [decide_eq_true c2] at ff
          by_cases c3 : (P : Int) < x3 + x4
          · rw [decide_eq_true c3] at ff
            go_wp2_with fail
            refine (awake09_walk V hSV).mono ?_
            rintro e w7 ⟨rfl, hb7⟩
            have m0 := cell_later hb7 a8V
            have m1 := cell_later hb7 e8V
            have n0 := cell_later hb7 p0
            have n1 := cell_later hb7 p1
            have n2 := cell_later hb7 p2
            have n3 := cell_later hb7 p3
            clear d0 d1' d2' d3' p0 p1 p2 p3 a8V e8V
            go_wp2_with fail
            refine (ff.out w7 hb7).mono ?_
            rintro e w8 ⟨rfl, hb8⟩
            go_wp2
            go_ret
            exact ⟨rfl, ext_trans (ext_trans hb6 hb7) hb8⟩
          · rw [decide_eq_false c3] at ff
            go_wp2_with fail
            refine (awake09_walk V hSV).mono ?_
            rintro e w7 ⟨rfl, hb7⟩
            have m0 := cell_later hb7 a8V
            have m1 := cell_later hb7 e8V
            have n0 := cell_later hb7 p0
            have n1 := cell_later hb7 p1
            have n2 := cell_later hb7 p2
            have n3 := cell_later hb7 p3
            clear d0 d1' d2' d3' p0 p1 p2 p3 a8V e8V
            go_wp2_with fail
            refine (ff.out w7 hb7).mono ?_
            rintro e w8 ⟨rfl, hb8⟩
            go_wp2
            go_ret
            exact ⟨rfl, ext_trans (ext_trans hb6 hb7) hb8⟩
        · rw [decide_eq_false c2] at ff
          go_wp2_with fail
          refine (awake09_walk V hSV).mono ?_
          rintro e w7 ⟨rfl, hb7⟩
          have m0 := cell_later hb7 a8V
          have m1 := cell_later hb7 e8V
          have n0 := cell_later hb7 p0
          have n1 := cell_later hb7 p1
          have n2 := cell_later hb7 p2
          have n3 := cell_later hb7 p3
          clear d0 d1' d2' d3' p0 p1 p2 p3 a8V e8V
          go_wp2_with fail
          refine (ff.out w7 hb7).mono ?_
          rintro e w8 ⟨rfl, hb8⟩
          go_wp2
          go_ret
          exact ⟨rfl, ext_trans (ext_trans hb6 hb7) hb8⟩
  · have hd400 : decide (n ≤ 400) = false := by simpa using hn
    go_enter Tryz.func4, Tryz.ntmps4
    go_wp2_with (go_at_call 14; refine (light_walk _ _ _ _).mono ?_; rintro e w' ⟨rfl, rfl⟩)
    refine (awake09_walk _ hS).mono ?_
    rintro e w1 ⟨rfl, hb1⟩
    go_wp2
    go_ret
    exact ⟨rfl, hb1⟩
end Go.Proofs.YtgbkochjoaalhaaGreatDoor
