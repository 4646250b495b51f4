/- The statement TimegridTimesMade: its walk. Conditions: the numbers can be read; the program's variables hold what Std says. -/
import Derived.Test.YtdnmmkbknicdcaaDoorTwo
namespace Go.Proofs.YtdnmmkbknicdcaaDoor
open Go.RowKit

-- <start>
set_option maxHeartbeats 4000000 in
theorem made_walk (A : Option Addr) (n c : Nat) (w : World) (hS : Std w) (hA : 0 < n → ∃ b off, A = some ⟨b, off, none⟩ ∧ ∀ j, j < n → ∃ x : Int, w.cell? ⟨b, off + j, none⟩ = some (.int .i64 x)) :
    Calls Tryd.prog 6 #[.slice A n c] w fun e w' => e = .returned (.bool true) ∧ Below w.heap.size w w' := by
  by_cases hn : n ≤ 400
  · have hd400 : decide (n ≤ 400) = true := by simpa using hn
    have D0 := dice_new (c := c) hn hA
    have hS0 := hS.big
    obtain ⟨g, hgw⟩ : ∃ g, w.heap.size = g := ⟨_, rfl⟩
    obtain ⟨W1, hW1⟩ : ∃ W1, w.alloc (.cells #[.slice A n c, .int .i64 0] 66) = W1 := ⟨_, rfl⟩
    have hb1 : Below w.heap.size w W1 := by rw [← hW1]; exact (by repeat (first | exact Below.refl _ _ | refine ext_alloc ?_ _ | refine ext_drewN ?_ _ | refine ext_drew ?_ | refine ext_trans ?_ (by assumption)))
    have hS1 := hS.after hb1
    rw [hW1] at D0
    have hg : w.heap.size ≤ g := Nat.le_of_eq hgw
    have D1 : DiceOk w.heap.size W1 g := by rw [← hgw]; exact D0
    replace hW1 := hide hW1
    replace hgw := hide hgw
    clear D0 hA
    go_enter Tryd.func6, Tryd.ntmps6
    go_wp2_with (go_at_call 13; refine (light_walk _ _ _ _).mono ?_; rintro e w' ⟨rfl, rfl⟩)
    refine (roll_walk _ _ _ _).mono ?_
    rintro e w' ⟨rfl, rfl⟩
    rw [hW1.out, hgw.out]
    clear hW1 hgw
    go_wp2_with fail
    refine (grid_walk w.heap.size g W1 D1).mono ?_
    rintro e w2 ⟨d, s, b, m, rfl, ⟨d1, d2, s1, s2, -, -, -, -⟩, T2⟩
    go_wp2_with fail
    refine (next_walk w.heap.size g 8 (by omega) _ T2.dice).mono ?_
    rintro e w3 ⟨v, rfl, p3, q3, -, T3, -⟩
    have q3 := q3 (by omega)
    have T := T2.trans T3
    have hS3 := T.std hS1 (by omega)
    have hM : MadeSt w g w3.heap.size d s b m (w3.alloc (.cells #[.int .i64 d, .int .i64 s, .int .i64 b, .int .i64 m] 28)) :=
      ⟨T.dice.later (ext_alloc (Below.refl _ _) _), Box4.new _ _ _ _ _ _, Free.new _ _ _, ext_alloc (T.ext hb1 hg) _, hS3.alloc _, fun c h1 h2 => by rw [World.size_alloc] at h2; omega⟩
    have hgk : g < w3.heap.size := T.dice.lt
    obtain ⟨k, hk⟩ : ∃ k, w3.heap.size = k := ⟨_, rfl⟩
    obtain ⟨W4, hW4⟩ : ∃ W4, w3.alloc (.cells #[.int .i64 d, .int .i64 s, .int .i64 b, .int .i64 m] 28) = W4 := ⟨_, rfl⟩
    rw [hW4, hk] at hM
    rw [hk] at hgk
    clear T T2 T3 hS3 D1 hS1 hb1
    go_upto_region 5 with fail
    clear hW4 hk
    have hMS : MadeS w g k d s b m W4 := hM.open
    have hMd := MadeS.drew hMS
    have hd : 1 ≤ d ∧ d ≤ 1000 := by omega
    have hs : 1 ≤ s ∧ s ≤ 1000 := by omega
    have hn1 : 1 ≤ 1 + v := by omega
    have hn : 1 + v ≤ 20 := by omega
    have lz1 : k + 1 ≤ W4.heap.size := hM.free.1
    have lz0 : k ≤ W4.heap.size := Nat.le_of_lt hM.free.1
    have hl2 : ∀ c : Nat, c < c + 1 + 1 := fun c => by omega
    have hl3 : ∀ c : Nat, k + 1 ≤ c → k + 1 ≤ c + 1 := fun c _ => by omega
    go_cut [6, 7] (fun s6 s7 wx => TwoTimes w g k (1 + v).toNat d s b m s6 s7 wx)
    case first =>
      go_region_held3 (fun W' => W'.cell? ⟨k, 0, none⟩ = some (.int .i64 d) ∧ W'.cell? ⟨k, 1, none⟩ = some (.int .i64 s) ∧ W'.cell? ⟨k, 2, none⟩ = some (.int .i64 b) ∧ W'.cell? ⟨k, 3, none⟩ = some (.int .i64 m) ∧ k ≤ W'.heap.size ∧ k + 1 ≤ W'.heap.size ∧ (∀ c, k + 1 ≤ c → c < W'.heap.size → W'.cell? ⟨c, 0, none⟩ = some (cellOf W' c 0)) ∧ (∀ c, k + 1 ≤ c → c < W'.heap.size → W'.cell? ⟨c, 1, none⟩ = some (cellOf W' c 1)) ∧ (∀ c, k + 1 ≤ c → c < W'.heap.size → W'.cell? ⟨c, 2, none⟩ = some (cellOf W' c 2)) ∧ (∀ c, k + 1 ≤ c → c < W'.heap.size → W'.cell? ⟨c, 3, none⟩ = some (cellOf W' c 3)) ∧ (∀ c j, k + 1 ≤ c → c < W'.heap.size → W'.frozen? ⟨c, j, none⟩ = false) ∧ MadeSt w g k d s b m W') (first | ((repeat (first | (with_reducible assumption) | (with_reducible refine MadeS.alloc ?_ _ _ _ _ _) | (with_reducible refine MadeS.drew ?_) | (with_reducible refine MadeS.set4 ?_ hg hS0 hgk ?_ _ _ _ _) | omega)); done)) (first | (go_at_call 18; refine (time_gives hd hs hn1 hn hg hS0 hgk (by with_reducible assumption)).mono ?_; rintro e w' ⟨x1, x2, x3, x4, rfl, hx, hle, hz0, hz1, hz2, hs'⟩; (try simp only [size_drew', World.size_alloc] at hz0 hz1 hz2 hle); (try have hq0 := hz0 W4.heap.size (by omega)); (try have hq1 := hz1 W4.heap.size (by omega)); (try have hq2 := hz0 (W4.heap.size + 1) (by omega)); (try have hq3 := hz1 (W4.heap.size + 1) (by omega))))
      all_goals
        go_wp2_with fail
        go_meet
        have hB := hs'.st.boxes
        clear hz0 hz1 hz2
        refine twoTimes_of (by with_reducible assumption) ?_ ?_ ?_ ?_ ?_
        · first | omega | (simp only [World.size_alloc]; omega)
        · first | omega | (simp only [World.size_alloc]; omega)
        · first | omega | (simp only [World.size_alloc]; omega)
        · iterate 4 (apply Exists.intro)
          apply And.intro
          · repeat (first | (with_reducible refine box_new ?_ _ _ _ _ _; first | (with_reducible rfl) | (simp only [World.size_alloc]; done) | (simp only [size_set]; done) | (simp only [World.size_alloc, size_set]; done)) | (with_reducible refine Box4.alloc ?_ _) | (with_reducible refine box_same (boxes_at (K := k + 1) (by repeat (first | (with_reducible assumption) | (with_reducible refine Boxes.alloc ?_ _ _ _ _ _) | (with_reducible refine Boxes.set ?_ _ _))) (by first | omega | (simp only [World.size_alloc]; omega)) (by first | omega | (simp only [size_set]; omega) | (simp only [World.size_alloc]; omega) | (simp only [World.size_alloc, size_set]; omega))) _ _ _ _) | (with_reducible refine box_other ?_ (by first | omega | (simp only [World.size_alloc]; omega)) _ _ _ _))
          · with_reducible assumption
        · iterate 4 (apply Exists.intro)
          apply And.intro
          · repeat (first | (with_reducible refine box_new ?_ _ _ _ _ _; first | (with_reducible rfl) | (simp only [World.size_alloc]; done) | (simp only [size_set]; done) | (simp only [World.size_alloc, size_set]; done)) | (with_reducible refine Box4.alloc ?_ _) | (with_reducible refine box_same (boxes_at (K := k + 1) (by repeat (first | (with_reducible assumption) | (with_reducible refine Boxes.alloc ?_ _ _ _ _ _) | (with_reducible refine Boxes.set ?_ _ _))) (by first | omega | (simp only [World.size_alloc]; omega)) (by first | omega | (simp only [size_set]; omega) | (simp only [World.size_alloc]; omega) | (simp only [World.size_alloc, size_set]; omega))) _ _ _ _) | (with_reducible refine box_other ?_ (by first | omega | (simp only [World.size_alloc]; omega)) _ _ _ _))
          · with_reducible assumption
    case rest =>
      obtain ⟨c6, c7, x1, x2, x3, x4, y1, y2, y3, y4, rfl, rfl, ⟨h6, h7, h67⟩, -, -, hT⟩ := hcut
      clear hMS hMd hM lz1 lz0 hl2 hl3 hd hs hn1 hn
      have n76 : ¬ c7 = c6 := fun e => h67 e.symm
      go_wp2_with fail
      refine (one_walk w.heap.size g 4 (by omega) (by omega) _ hT.dice).mono ?_
      rintro e w5 ⟨o1, rfl, T5⟩
      replace hT := hT.on hg hS0 hgk h6 h7 T5
      clear T5
      go_upto_if 28 with fail
      go_cut [6] (fun s6 wx => s6 = .pointer (some ⟨c6, 0, none⟩) ∧ ∃ x1 x2 x3 x4 : Int, Two w g k c6 c7 d s b m x1 x2 x3 x4 y1 y2 y3 y4 wx)
      case first =>
        cases o1 with
        | false =>
          go_wp2_with fail
          go_meet
          exact ⟨rfl, _, _, _, _, hT⟩
        | true =>
          obtain ⟨a0, a1, a2, a3⟩ := hT.b6
          go_wp2_with fail
          refine (oddTime_walk w.heap.size g x1 x2 x3 x4 _ hT.dice).mono ?_
          rintro e w6 ⟨z1, z2, z3, z4, rfl, T6⟩
          replace hT := hT.on hg hS0 hgk h6 h7 T6
          clear T6 a0 a1 a2 a3
          obtain ⟨a0, a1, a2, a3⟩ := hT.b6
          have f0 := hT.f6.2 0
          have f1 := hT.f6.2 1
          have f2 := hT.f6.2 2
          have f3 := hT.f6.2 3
          go_wp2_with fail
          go_meet
          exact ⟨rfl, _, _, _, _, hT.set6 hg hS0 hgk h6 h67 _ _ _ _⟩
      case rest =>
        clear hT
        obtain ⟨rfl, x1, x2, x3, x4, hT⟩ := hcut
        go_wp2_with fail
        refine (one_walk w.heap.size g 5 (by omega) (by omega) _ hT.dice).mono ?_
        rintro e w5 ⟨o2, rfl, T5⟩
        replace hT := hT.on hg hS0 hgk h6 h7 T5
        clear T5
        go_upto_if 33 with fail
        go_cut [4] (fun s4 wx => s4 = .pointer (some ⟨k, 0, none⟩) ∧ ∃ d s b m : Int, Two w g k c6 c7 d s b m x1 x2 x3 x4 y1 y2 y3 y4 wx)
        case first =>
          cases o2 with
          | false =>
            go_wp2_with fail
            go_meet
            exact ⟨rfl, _, _, _, _, hT⟩
          | true =>
            obtain ⟨a0, a1, a2, a3⟩ := hT.grid
            go_wp2_with fail
            refine (oddGrid_walk w.heap.size g d s b m _ hT.dice).mono ?_
            rintro e w6 ⟨z1, z2, z3, z4, rfl, T6⟩
            replace hT := hT.on hg hS0 hgk h6 h7 T6
            clear T6 a0 a1 a2 a3
            obtain ⟨a0, a1, a2, a3⟩ := hT.grid
            have f0 := hT.gfree.2 0
            have f1 := hT.gfree.2 1
            have f2 := hT.gfree.2 2
            have f3 := hT.gfree.2 3
            go_wp2_with fail
            go_meet
            exact ⟨rfl, _, _, _, _, hT.setg hg hS0 hgk h6 h7 _ _ _ _⟩
        case rest =>
          clear hT
          obtain ⟨rfl, d', s', b', m', hT⟩ := hcut
          obtain ⟨a0, a1, a2, a3⟩ := hT.b6
          obtain ⟨e0, e1, e2, e3⟩ := hT.b7
          obtain ⟨g0, g1, g2, g3⟩ := hT.grid
          go_wp2_with fail
          refine (times_walk d' s' b' m' _ x1 x2 x3 x4 y1 y2 y3 y4 _ hT.std).mono ?_
          rintro e w7 ⟨rfl, hb7⟩
          go_wp2
          go_ret
          exact ⟨rfl, ext_trans hT.below hb7⟩
  · have hd400 : decide (n ≤ 400) = false := by simpa using hn
    go_enter Tryd.func6, Tryd.ntmps6
    go_wp2_with (go_at_call 13; refine (light_walk _ _ _ _).mono ?_; rintro e w' ⟨rfl, rfl⟩)
    refine (awake06_walk _ hS).mono ?_
    rintro e w1 ⟨rfl, hb1⟩
    go_wp2
    go_ret
    exact ⟨rfl, hb1⟩
end Go.Proofs.YtdnmmkbknicdcaaDoor
