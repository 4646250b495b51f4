/- The statement TimegridMeets: its walk. Conditions: the numbers can be read; the program's variables hold what Std says. -/
import Derived.Test.YtgbkochjoaalhaaDoorTwo
import Derived.Test.YtgbkochjoaalhaaDoorMeets
import Derived.Test.YtgbkochjoaalhaaDoorWsE
namespace Go.Proofs.YtgbkochjoaalhaaDoor
open Go.RowKit
set_option maxRecDepth 100000
set_option maxHeartbeats 40000000


theorem meets_walk (A : Option Addr) (n c : Nat) (w : World) (hS : Std w) (hA : 0 < n → ∃ b off, A = some ⟨b, off, none⟩ ∧ ∀ j, j < n → ∃ x : Int, w.cell? ⟨b, off + j, none⟩ = some (.int .i64 x)) :
    Calls Tryd.prog 3 #[.slice A n c] w fun e w' => e = .returned (.bool true) ∧ Below w.heap.size w w' := by
  by_cases hn : n ≤ 400
  · have hd400 : decide (n ≤ 400) = true := by simpa using hn
    have D0 := dice_new (c := c) hn hA
    have hS0 := hS.big
    obtain ⟨g, hgw⟩ : ∃ g, w.heap.size = g := ⟨_, rfl⟩
    obtain ⟨W1, hW1⟩ : ∃ W1, w.alloc (.cells #[.slice A n c, .int .i64 0] 42) = W1 := ⟨_, rfl⟩
    have hb1 : Below w.heap.size w W1 := by rw [← hW1]; exact (by repeat (first | exact Below.refl _ _ | refine ext_alloc ?_ _ | refine ext_drewN ?_ _ | refine ext_drew ?_ | refine ext_trans ?_ (by assumption)))
    have hS1 := hS.after hb1
    rw [hW1] at D0
    have hg : w.heap.size ≤ g := Nat.le_of_eq hgw
    have D1 : DiceOk w.heap.size W1 g := by rw [← hgw]; exact D0
    replace hW1 := hide hW1
    replace hgw := hide hgw
    clear D0 hA
    go_enter Tryd.func3, Tryd.ntmps3
    go_wp2_with (go_at_call 4; refine (light_walk _ _ _ _).mono ?_; rintro e w' ⟨rfl, rfl⟩)
    refine (roll_walk _ _ _ _).mono ?_
    rintro e w' ⟨rfl, rfl⟩
    rw [hW1.out, hgw.out]
    clear hW1 hgw
    go_wp2_with fail
    refine (grid_walk w.heap.size g W1 D1).mono ?_
    rintro e w2 ⟨d, s, b, m, rfl, ⟨d1, d2, s1, s2, -, -, -, -⟩, T2⟩
    go_wp2_with fail
    refine (next_walk w.heap.size g 8 (by omega) _ T2.dice).mono ?_
    rintro e w3 ⟨v, rfl, p3, q3, -, T3, -⟩
    have q3 := q3 (by omega)
    have T := T2.trans T3
    have hS3 := T.std hS1 (by omega)
    have hM : MadeSt w g w3.heap.size d s b m (w3.alloc (.cells #[.int .i64 d, .int .i64 s, .int .i64 b, .int .i64 m] 28)) :=
      ⟨T.dice.later (ext_alloc (Below.refl _ _) _), Box4.new _ _ _ _ _ _, Free.new _ _ _, ext_alloc (T.ext hb1 hg) _, hS3.alloc _, fun c h1 h2 => by rw [World.size_alloc] at h2; omega⟩
    have hgk : g < w3.heap.size := T.dice.lt
    obtain ⟨k, hk⟩ : ∃ k, w3.heap.size = k := ⟨_, rfl⟩
    obtain ⟨W4, hW4⟩ : ∃ W4, w3.alloc (.cells #[.int .i64 d, .int .i64 s, .int .i64 b, .int .i64 m] 28) = W4 := ⟨_, rfl⟩
    rw [hW4, hk] at hM
    rw [hk] at hgk
    clear T T2 T3 hS3 D1 hS1 hb1
    go_upto_region 5 with fail
    clear hW4 hk
    have hMS : MadeS w g k d s b m W4 := hM.open
    have hMd := MadeS.drew hMS
    have hd : 1 ≤ d ∧ d ≤ 1000 := by omega
    have hs : 1 ≤ s ∧ s ≤ 1000 := by omega
    have hn1 : 1 ≤ 1 + v := by omega
    have hn : 1 + v ≤ 20 := by omega
    have lz1 : k + 1 ≤ W4.heap.size := hM.free.1
    have lz0 : k ≤ W4.heap.size := Nat.le_of_lt hM.free.1
    have hl2 : ∀ c : Nat, c < c + 1 + 1 := fun c => by omega
    have hl3 : ∀ c : Nat, k + 1 ≤ c → k + 1 ≤ c + 1 := fun c _ => by omega
    go_cut [6, 7] (fun s6 s7 wx => TwoTimes w g k (1 + v).toNat d s b m s6 s7 wx)
    case first =>
      go_region_held3 (fun W' => W'.cell? ⟨k, 0, none⟩ = some (.int .i64 d) ∧ W'.cell? ⟨k, 1, none⟩ = some (.int .i64 s) ∧ W'.cell? ⟨k, 2, none⟩ = some (.int .i64 b) ∧ W'.cell? ⟨k, 3, none⟩ = some (.int .i64 m) ∧ k ≤ W'.heap.size ∧ k + 1 ≤ W'.heap.size ∧ (∀ c, k + 1 ≤ c → c < W'.heap.size → W'.cell? ⟨c, 0, none⟩ = some (cellOf W' c 0)) ∧ (∀ c, k + 1 ≤ c → c < W'.heap.size → W'.cell? ⟨c, 1, none⟩ = some (cellOf W' c 1)) ∧ (∀ c, k + 1 ≤ c → c < W'.heap.size → W'.cell? ⟨c, 2, none⟩ = some (cellOf W' c 2)) ∧ (∀ c, k + 1 ≤ c → c < W'.heap.size → W'.cell? ⟨c, 3, none⟩ = some (cellOf W' c 3)) ∧ (∀ c j, k + 1 ≤ c → c < W'.heap.size → W'.frozen? ⟨c, j, none⟩ = false) ∧ MadeSt w g k d s b m W') (first | ((repeat (first | (with_reducible assumption) | (with_reducible refine MadeS.alloc ?_ _ _ _ _ _) | (with_reducible refine MadeS.drew ?_) | (with_reducible refine MadeS.set4 ?_ hg hS0 hgk ?_ _ _ _ _) | omega)); done)) (first | (go_at_call 9; refine (time_gives hd hs hn1 hn hg hS0 hgk (by with_reducible assumption)).mono ?_; rintro e w' ⟨x1, x2, x3, x4, rfl, hx, hle, hz0, hz1, hz2, hs'⟩; (try simp only [size_drew', World.size_alloc] at hz0 hz1 hz2 hle); (try have hq0 := hz0 W4.heap.size (by omega)); (try have hq1 := hz1 W4.heap.size (by omega)); (try have hq2 := hz0 (W4.heap.size + 1) (by omega)); (try have hq3 := hz1 (W4.heap.size + 1) (by omega))))
      all_goals
        go_wp2_with fail
        go_meet
        have hB := hs'.st.boxes
        clear hz0 hz1 hz2
        refine twoTimes_of (by with_reducible assumption) ?_ ?_ ?_ ?_ ?_
        · first | omega | (simp only [World.size_alloc]; omega)
        · first | omega | (simp only [World.size_alloc]; omega)
        · first | omega | (simp only [World.size_alloc]; omega)
        · iterate 4 (apply Exists.intro)
          apply And.intro
          · repeat (first | (with_reducible refine box_new ?_ _ _ _ _ _; first | (with_reducible rfl) | (simp only [World.size_alloc]; done) | (simp only [size_set]; done) | (simp only [World.size_alloc, size_set]; done)) | (with_reducible refine Box4.alloc ?_ _) | (with_reducible refine box_same (boxes_at (K := k + 1) (by repeat (first | (with_reducible assumption) | (with_reducible refine Boxes.alloc ?_ _ _ _ _ _) | (with_reducible refine Boxes.set ?_ _ _))) (by first | omega | (simp only [World.size_alloc]; omega)) (by first | omega | (simp only [size_set]; omega) | (simp only [World.size_alloc]; omega) | (simp only [World.size_alloc, size_set]; omega))) _ _ _ _) | (with_reducible refine box_other ?_ (by first | omega | (simp only [World.size_alloc]; omega)) _ _ _ _))
          · with_reducible assumption
        · iterate 4 (apply Exists.intro)
          apply And.intro
          · repeat (first | (with_reducible refine box_new ?_ _ _ _ _ _; first | (with_reducible rfl) | (simp only [World.size_alloc]; done) | (simp only [size_set]; done) | (simp only [World.size_alloc, size_set]; done)) | (with_reducible refine Box4.alloc ?_ _) | (with_reducible refine box_same (boxes_at (K := k + 1) (by repeat (first | (with_reducible assumption) | (with_reducible refine Boxes.alloc ?_ _ _ _ _ _) | (with_reducible refine Boxes.set ?_ _ _))) (by first | omega | (simp only [World.size_alloc]; omega)) (by first | omega | (simp only [size_set]; omega) | (simp only [World.size_alloc]; omega) | (simp only [World.size_alloc, size_set]; omega))) _ _ _ _) | (with_reducible refine box_other ?_ (by first | omega | (simp only [World.size_alloc]; omega)) _ _ _ _))
          · with_reducible assumption

    case rest =>
      obtain ⟨c6, c7, x1, x2, x3, x4, y1, y2, y3, y4, rfl, rfl, ⟨h6, h7, h67⟩, hx, hy, hT⟩ := hcut
      clear hMS hMd hM lz1 lz0 hl2 hl3 hd hs hn1 hn
      obtain ⟨a, rfl⟩ := Int.eq_ofNat_of_zero_le (by have := hx.w1; omega : 0 ≤ x1)
      obtain ⟨e, rfl⟩ := Int.eq_ofNat_of_zero_le (by have := hy.w1; omega : 0 ≤ y1)
      obtain ⟨v, rfl⟩ := Int.eq_ofNat_of_zero_le p3
      obtain ⟨S, rfl⟩ := Int.eq_ofNat_of_zero_le (by omega : 0 ≤ s)
      obtain ⟨N, hN⟩ : ∃ N : Nat, 1 + v = N := ⟨_, rfl⟩
      rw [show ((1 : Int) + (v : Int)).toNat = N from by omega] at hx hy
      have hN20 : N ≤ 20 := by omega
      have h20 : 2 ^ N ≤ 2 ^ 20 := Nat.pow_le_pow_right (by omega) hN20
      have h20' : 2 ^ N ≤ 1048576 := by simpa using h20
      have ha20 : a < 1048576 := by have := hx.w2; omega
      have he20 : e < 1048576 := by have := hy.w2; omega
      clear h20 h20'
      obtain ⟨M, C, B1, B2, V, r1, r2, r3, r4, r5, r6, r7, r8, r9, r10, r11, r12⟩ := meets_law hx hy hN20 d2 s2
      rw [Int.toNat_natCast] at r9
      replace ha20 := hide ha20
      replace he20 := hide he20
      replace r1 := hide r1
      replace r2 := hide r2
      replace r3 := hide r3
      replace r4 := hide r4
      replace r5 := hide r5
      replace r6 := hide r6
      replace r7 := hide r7
      replace r8 := hide r8
      replace r9 := hide r9
      replace r10 := hide r10
      replace r11 := hide r11
      replace r12 := hide r12
      have xs1 := hx.s1
      have xl1 := hx.l1
      have xs2 := hx.s2
      have ys1 := hy.s1
      have yl1 := hy.l1
      have ys2 := hy.s2
      rw [show ((1 : Int) + (v : Int)) = (N : Int) from by omega]
      clear hN p3 q3
      obtain ⟨a0, a1, a2, a3⟩ := hT.b6
      obtain ⟨e0, e1, e2, e3⟩ := hT.b7
      obtain ⟨g0, g1, g2, g3⟩ := hT.grid
      go_wp2_with fail
      refine (tgBetween_walk _ _ _ _ _ _ _ _ _).mono ?_
      rintro e' w5 ⟨rfl, hb5⟩
      rw [r1.out, r3.out]
      replace hT := hT.later hb5
      clear hb5 a0 a1 a2 a3 e0 e1 e2 e3 g0 g1 g2 g3
      obtain ⟨a0, a1, a2, a3⟩ := hT.b6
      obtain ⟨e0, e1, e2, e3⟩ := hT.b7
      go_wp2_with fail
      refine (tgBetween_walk _ _ _ _ _ _ _ _ _).mono ?_
      rintro e' w6 ⟨rfl, hb6⟩
      rw [r2.out, r4.out]
      replace hT := hT.later hb6
      clear hb6 a0 a1 a2 a3 e0 e1 e2 e3
      obtain ⟨a0, a1, a2, a3⟩ := hT.b6
      obtain ⟨e0, e1, e2, e3⟩ := hT.b7
      obtain ⟨g0, g1, g2, g3⟩ := hT.grid
      have hTT := hide hT
      obtain ⟨Q, hQ⟩ : ∃ Q, decide (x2 = y2) = Q := ⟨_, rfl⟩
      have hQ2 : (x2 == y2) = Q := by rw [← hQ, Bool.eq_iff_iff]; simp
      rw [hQ] at r9
      replace hQ := hide hQ
      clear hT
      go_wp2_with fail
      go_loop [12, 13] (fun t i => ∃ kk : Nat, kk ≤ N ∧ i = .int .i64 kk ∧ t = .bool (anyTo (fun k => comW a e Q k && anyTo (inS x3 x4 y3 y4) S) kk)) (fun _ i => N - (intOf i).toNat)
      case atStart => exact ⟨0, Nat.zero_le _, rfl, rfl⟩
      case round =>
        obtain ⟨kk, hkk, rfl, rfl⟩ := hrel
        by_cases hlt : kk < N
        · as_aux_lemma =>
            obtain ⟨P, hP⟩ : ∃ P, anyTo (fun k => comW a e Q k && anyTo (inS x3 x4 y3 y4) S) kk = P := ⟨_, rfl⟩
            rw [hP]
            replace hP := hide hP
            have f1 := bit_walk a kk ha20.out
            have f2 := bit_walk e kk he20.out
            obtain ⟨Ba, hBa⟩ : ∃ Ba, a.testBit kk = Ba := ⟨_, rfl⟩
            obtain ⟨Be, hBe⟩ : ∃ Be, e.testBit kk = Be := ⟨_, rfl⟩
            rw [hBa] at f1
            rw [hBe] at f2
            replace hBa := hide hBa
            replace hBe := hide hBe
            go_wp2_with fail
            go_loop [12, 14] (fun t i => ∃ j : Nat, j ≤ S ∧ i = .int .i64 j ∧ t = .bool (P || (Ba && Be && Q && anyTo (inS x3 x4 y3 y4) j))) (fun _ i => S - (intOf i).toNat)
            case atStart => exact ⟨0, Nat.zero_le _, rfl, by simp [anyTo]⟩
            case round =>
              obtain ⟨j, hj, rfl, rfl⟩ := hrel
              by_cases hjs : j < S
              · obtain ⟨cur, hcur⟩ : ∃ cur, (P || (Ba && Be && Q && anyTo (inS x3 x4 y3 y4) j)) = cur := ⟨_, rfl⟩
                rw [hcur]
                replace hcur := hide hcur
                cases cur with
                | true =>
                  go_wp2_with fail
                  go_round
                  case rel => exact ⟨j + 1, by omega, by go_num, by rw [anyTo_step, bstep_true hcur.out]⟩
                  case measure => simp [intOf]; omega
                | false =>
                  have hways : Ba = false ∨ (Ba = true ∧ Be = false) ∨ (Ba = true ∧ Be = true ∧ Q = false) ∨ (Ba = true ∧ Be = true ∧ Q = true) := by
                    cases Ba <;> cases Be <;> cases Q <;> simp
                  have hP0 : P = false := by
                    have := hcur.out
                    rw [Bool.or_eq_false_iff] at this
                    exact this.1
                  replace hP0 := hide hP0
                  rcases hways with rfl | ⟨rfl, rfl⟩ | ⟨rfl, rfl, rfl⟩ | ⟨rfl, rfl, rfl⟩
                  · go_wp2_with fail
                    go_round
                    case rel => exact ⟨j + 1, by omega, by go_num, by rw [hP0.out]; simp⟩
                    case measure => simp [intOf]; omega
                  · go_wp2_with fail
                    go_round
                    case rel => exact ⟨j + 1, by omega, by go_num, by rw [hP0.out]; simp⟩
                    case measure => simp [intOf]; omega
                  · go_wp2_with fail
                    go_round
                    case rel => exact ⟨j + 1, by omega, by go_num, by rw [hP0.out]; simp⟩
                    case measure => simp [intOf]; omega
                  · have hA0 : anyTo (inS x3 x4 y3 y4) j = false := by
                      have := hcur.out
                      rw [hP0.out] at this
                      simpa using this
                    replace hA0 := hide hA0
                    by_cases hin : x3 ≤ j ∧ (j : Int) < x3 + x4 ∧ y3 ≤ j ∧ (j : Int) < y3 + y4
                    · have hp : Hid (inS x3 x4 y3 y4 j = true) := decide_eq_true hin
                      obtain ⟨i1, i2, i3, i4⟩ := hin
                      go_wp2_with fail
                      go_round
                      case rel => exact ⟨j + 1, by omega, by go_num, by rw [anyTo_step, hp.out]; simp⟩
                      case measure => simp [intOf]; omega
                    · have hp : Hid (inS x3 x4 y3 y4 j = false) := decide_eq_false hin
                      go_wp2_with fail
                      all_goals try (exfalso; omega)
                      all_goals
                        go_round
                        case rel => exact ⟨j + 1, by omega, by go_num, by rw [anyTo_step, hp.out, hA0.out, hP0.out]; first | rfl | simp; try omega⟩
                        case measure => simp [intOf]; omega
              · obtain rfl : j = S := by omega
                go_wp2_with fail
                go_round
                case rel => exact ⟨kk + 1, by omega, by go_num, by rw [anyTo_step, hP.out]; show _ = Value.bool (P || (comW a e Q kk && anyTo (inS x3 x4 y3 y4) j)); unfold comW; rw [hBa.out, hBe.out]⟩
                case measure => simp [intOf]; omega
        · obtain rfl : kk = N := by omega
          have hcc : anyTo (fun k => comW a e Q k && anyTo (inS x3 x4 y3 y4) S) kk = C := r9.out
          rw [hcc]
          clear hcc
          as_aux_lemma =>
            have hT := hTT.out
            clear a0 a1 a2 a3 e0 e1 e2 e3 g0 g1 g2 g3
            obtain ⟨Z, hZ⟩ : ∃ Z, (V == -1) = Z := ⟨_, rfl⟩
            have hZ2 : (V != -1) = !Z := by rw [bne, hZ]
            have hQ3 : (x2 != y2) = !Q := by rw [bne, hQ2]
            have hC : C = (M && Z) := by rw [← hZ]; exact r10.out
            subst hC
            have hno : ¬ (M = true ∧ Z = true ∧ Q = true ∧ B1 = true) := by
              rintro ⟨hm, hz, hq, hb⟩
              rw [r12.out (by rw [hq] at hQ2; exact beq_iff_eq.1 hQ2) (by rw [hz] at hZ; exact beq_iff_eq.1 hZ) hm] at hb
              cases hb
            have hB2 : B1 = true → B2 = false := fun h => by have := r11.out; rw [h] at this; simpa using this
            replace hno := hide hno
            go_wp2_with fail
            refine (keepTwo hT (awake06_walk _ hT.std)).mono ?_
            rintro e' w7 ⟨rfl, hT7⟩
            clear hT hTT hx hy xs1 xl1 xs2 ys1 yl1 ys2 ha20 he20 r1 r2 r3 r4 r9 r10 r11 r12 hQ hgk hg hS0 h6 h7 d1 d2 s1 s2 hS hd400 hN20 hkk
            obtain ⟨a0, a1, a2, a3⟩ := hT7.b6
            obtain ⟨e0, e1, e2, e3⟩ := hT7.b7
            go_wp2_with (first | (go_at_call 11; refine (keepTwo (by with_reducible assumption) (tgOverlap_walk _ _ _ _ _ _ _ _ _)).mono ?_; rintro e' w8 ⟨rfl, hT8⟩; clear a0 a1 a2 a3 e0 e1 e2 e3; (first | rw [r5.out] | rw [r6.out]); have a0 := hT8.b6.c0; have a1 := hT8.b6.c1; have a2 := hT8.b6.c2; have a3 := hT8.b6.c3; have e0 := hT8.b7.c0; have e1 := hT8.b7.c1; have e2 := hT8.b7.c2; have e3 := hT8.b7.c3) | (go_at_call 12; refine (keepTwo (by with_reducible assumption) (tgBefore_walk _ _ _ _ _ _ _ _ _)).mono ?_; rintro e' w8 ⟨rfl, hT8⟩; clear a0 a1 a2 a3 e0 e1 e2 e3; (first | rw [r7.out] | rw [r8.out]); have a0 := hT8.b6.c0; have a1 := hT8.b6.c1; have a2 := hT8.b6.c2; have a3 := hT8.b6.c3; have e0 := hT8.b7.c0; have e1 := hT8.b7.c1; have e2 := hT8.b7.c2; have e3 := hT8.b7.c3))
            all_goals
              go_ret
              refine ⟨ret_bool ?_, Two.below (by with_reducible assumption)⟩
              have hno' := hno.out
              first
                | rfl
                | exact absurd ⟨by with_reducible assumption, by with_reducible assumption, by with_reducible assumption, by with_reducible assumption⟩ hno'
                | (rw [hB2 (by with_reducible assumption)]; rfl)
                | (simp [hB2 (by with_reducible assumption)]; done)
                | simp
  · have hd400 : decide (n ≤ 400) = false := by simpa using hn
    go_enter Tryd.func3, Tryd.ntmps3
    go_wp2_with (go_at_call 4; refine (light_walk _ _ _ _).mono ?_; rintro e w' ⟨rfl, rfl⟩)
    refine (awake06_walk _ hS).mono ?_
    rintro e w1 ⟨rfl, hb1⟩
    go_wp2
    go_ret
    exact ⟨rfl, hb1⟩
end Go.Proofs.YtgbkochjoaalhaaDoor
