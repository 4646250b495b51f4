/- The statement CodesRanges: its walk. Condition: what the program's variables hold. -/
import Derived.Test.YtjdhjnciokhbkaaGreatDoorKWide
import Derived.Test.YtjdhjnciokhbkaaGreatDoorKAwake3
import Derived.Test.YtjdhjnciokhbkaaGreatDoorKDice
import Derived.Deep.RegionHeld3
import Derived.Deep.DeepCutAuto
namespace Go.Proofs.YtjdhjnciokhbkaaGreatDoor
open Go.RowKit
set_option maxRecDepth 100000

theorem wideA_eq (n w : Nat) : (⟨#[80]⟩ : ByteArray) ++ mkB (wrL n w) = wideA n w := by
  refine dat_inj ?_
  rw [show ((⟨#[80]⟩ : ByteArray) ++ mkB (wrL n w)).data.toList = 80 :: (mkB (wrL n w)).data.toList from rfl, mkB_list]
  exact (mkB_list _).symm
theorem rangeA_eq (A B : ByteArray) : A ++ (⟨#[46, 46]⟩ : ByteArray) ++ B = mkB (A.data.toList ++ 46 :: 46 :: B.data.toList) := by
  refine dat_inj ?_
  rw [mkB_list]
  simp
theorem wide_size (n w : Nat) (hn : n < 10000) (hw : w ≤ 10) : (wrL n w).length ≤ 10 := by
  have := nDigits_le 3 n (by omega)
  rw [len_wrL]; omega
set_option maxHeartbeats 8000000 in
theorem ranges_walk (x y z : Int) (w : World) (hS : Std w) :
    Calls Tryz.prog 7 #[.int .i64 x, .int .i64 y, .int .i64 z] w fun e w' => e = .returned (.bool true) ∧ Below w.heap.size w w' := by
  have m1 := fun (W : World) => mod_walk x 1200 (by decide) W
  have m2 := fun (W : World) => mod_walk y 70 (by decide) W
  have m3 := fun (W : World) => mod_walk z 5 (by decide) W
  obtain ⟨n, hn, hn2⟩ : ∃ n : Nat, modV x 1200 = n ∧ n < 1200 := ⟨(modV x 1200).toNat, by have := modV_bd x 1200; omega, by have := (modV_bd x 1200).2.1 (by decide); omega⟩
  obtain ⟨k, hk, hk2⟩ : ∃ k : Nat, modV y 70 = k ∧ k < 70 := ⟨(modV y 70).toNat, by have := modV_bd y 70; omega, by have := (modV_bd y 70).2.1 (by decide); omega⟩
  obtain ⟨u, hu, hu2⟩ : ∃ u : Nat, modV z 5 = u ∧ u < 5 := ⟨(modV z 5).toNat, by have := modV_bd z 5; omega, by have := (modV_bd z 5).2.1 (by decide); omega⟩
  rw [hn] at m1
  rw [hk] at m2
  rw [hu] at m3
  obtain ⟨v, hv⟩ : ∃ v, u + 1 = v := ⟨_, rfl⟩
  have hvi : (1 : Int) + (u : Int) = (v : Int) := by omega
  have hv1 : v ≤ 5 := by omega
  have hlist := list_wide (n := n) (k := k) (w := v) (by omega) (by omega) (by omega)
  rw [← rangeA_eq] at hlist
  have d1 := fun (W : World) => wide_walk n v W (by omega) (by omega)
  have d2 : ∀ W : World, Calls Tryz.prog 35 #[.int .i64 ((n : Int) + (k : Int)), .int .i64 v] W fun e w' => e = .returned (.string (mkB (wrL (n + k) v))) ∧ Below W.heap.size W w' := fun (W : World) => wide_walk (n + k) v W (by omega) (by omega)
  have e1 := wideA_eq n v
  have e2 := wideA_eq (n + k) v
  have z1 := wide_size n v (by omega) (by omega)
  have z2 := wide_size (n + k) v (by omega) (by omega)
  obtain ⟨X1, hX1⟩ : ∃ X, mkB (wrL n v) = X := ⟨_, rfl⟩
  obtain ⟨X2, hX2⟩ : ∃ X, mkB (wrL (n + k) v) = X := ⟨_, rfl⟩
  obtain ⟨P1, hP1⟩ : ∃ X, wideA n v = X := ⟨_, rfl⟩
  obtain ⟨P2, hP2⟩ : ∃ X, wideA (n + k) v = X := ⟨_, rfl⟩
  rw [← mkB_size, hX1] at z1
  rw [← mkB_size, hX2] at z2
  rw [hX1] at d1 e1
  rw [hX2] at d2 e2
  rw [hP1] at e1 hlist
  rw [hP2] at e2 hlist
  have s1 : P1.size = 1 + X1.size := by rw [← e1, ByteArray.size_append]; rfl
  have s2 : P2.size = 1 + X2.size := by rw [← e2, ByteArray.size_append]; rfl
  obtain ⟨S, hSS⟩ : ∃ S, P1 ++ (⟨#[46, 46]⟩ : ByteArray) ++ P2 = S := ⟨_, rfl⟩
  have s3 : S.size = P1.size + 2 + P2.size := by rw [← hSS, ByteArray.size_append, ByteArray.size_append]; rfl
  rw [hSS] at hlist
  have hl := fun (W : World) (hW : Below w.heap.size w W) => list_walk S W (hS.after hW) (by omega)
  rw [hlist] at hl
  have o1 : (9223372036854775807 < 1 + X1.size) = False := by simp; omega
  have o2 : (9223372036854775807 < 1 + X2.size) = False := by simp; omega
  have o3 : (9223372036854775807 < P1.size + 2) = False := by simp; omega
  have o4 : (9223372036854775807 < P1.size + 2 + P2.size) = False := by simp; omega
  have hd1 : ∀ W : World, Calls Tryz.prog 35 #[.int .i64 n, .int .i64 1] W fun e w' => e = .returned (.string (mkB (wrL n 1))) ∧ Below W.heap.size W w' := fun (W : World) => wide_walk n 1 W (by omega) (by omega)
  have zl := len_wrL n 1
  have hnp := Lib.nDigits_pos n
  have hnq := nDigits_le 3 n (by omega)
  clear hlist hn hk hu hv hX1 hX2 hP1 hP2
  replace m1 := hide m1
  replace m2 := hide m2
  replace m3 := hide m3
  replace d1 := hide d1
  replace d2 := hide d2
  replace hl := hide hl
  go_enter Tryz.func7, Tryz.ntmps7
  go_wp2_with (first | (go_at_call 34; (with_reducible refine (m1.out _).mono ?_); rintro e w1 ⟨rfl, rfl⟩) | (go_at_call 34; (with_reducible refine (m2.out _).mono ?_); rintro e w1 ⟨rfl, rfl⟩) | (go_at_call 34; (with_reducible refine (m3.out _).mono ?_); rintro e w1 ⟨rfl, rfl⟩) | (go_at_call 35; (with_reducible refine (d1.out _).mono ?_); rintro e w1 ⟨rfl, hb1⟩) | (go_at_call 35; (with_reducible refine (d2.out _).mono ?_); rintro e w2 ⟨rfl, hb2⟩))
  refine (hl.out _ (ext_trans hb1 hb2)).mono ?_
  clear m1 m2 m3 d1 d2 hl hSS s1 s2 s3 o1 o2 o3 o4 e1 e2 z1 z2
  by_cases h64 : 64 ≤ k
  · rw [if_pos h64]
    rintro e w3 ⟨v3, rfl, hown, hb3⟩
    have hki : (64 : Int) ≤ (k : Int) := by omega
    have hbb := ext_trans (ext_trans hb1 hb2) hb3
    have haw := awake03_walk w3 (hS.after hbb)
    clear hown
    go_wp2_with (go_at_call 22; refine haw.mono ?_; rintro e w4 ⟨rfl, hb4⟩)
    go_ret
    exact ⟨rfl, ext_trans hbb hb4⟩
  · rw [if_neg h64]
    rintro e w3 ⟨v3, rfl, hown, hb3⟩
    have hki : ¬ (64 : Int) ≤ (k : Int) := by omega
    have hbb := ext_trans (ext_trans hb1 hb2) hb3
    obtain ⟨A, c, rfl⟩ := hown.form
    have hat := hown.any'
    rw [show (List.map (fun i => wideA (n + i) (max v (Lib.nDigits n))) (List.range (k + 1))).length = k + 1 from by simp]
    clear hown
    go_wp2_with fail
    obtain ⟨mx, hmx⟩ : ∃ mx, max v (Lib.nDigits n) = mx := ⟨_, rfl⟩
    have hmx9 : mx ≤ 10 := by omega
    obtain ⟨D, hD⟩ : ∃ D, mkB (wrL n 1) = D := ⟨_, rfl⟩
    have hDs : D.size = Lib.nDigits n := by rw [← hD, mkB_size, zl]; omega
    rw [hD] at hd1
    rw [hmx] at hat
    have hmi : max (v : Int) (D.size : Int) = (mx : Int) := by rw [hDs]; omega
    replace hat := hide hat
    clear zl hD hDs hmx hnp hnq
    go_loopw [14] (fun i wr => ∃ j : Nat, j ≤ k + 1 ∧ i = .int .i64 j ∧ Below w3.heap.size w3 wr) (fun i _ => k + 1 - (intOf i).toNat)
    case atStart => exact ⟨0, Nat.zero_le _, rfl, Below.refl _ _⟩
    case round =>
      obtain ⟨j, hj, rfl, hb⟩ := hrel
      by_cases hlt : j ≤ k
      · have hji : (j : Int) ≤ (k : Int) := by omega
        have hj0 : (0 : Int) ≤ (j : Int) := by omega
        have hjk : (j : Int) < (k : Int) + 1 := by omega
        obtain ⟨b, off, rfl, hbl, -, k0⟩ := hat.out.str (j := j) (z := wideA (n + j) mx) (by rw [List.getElem?_map, List.getElem?_range (by omega)]; rfl)
        have hT := wideA_eq (n + j) mx
        have d2 : ∀ W : World, Calls Tryz.prog 35 #[.int .i64 ((n : Int) + (j : Int)), .int .i64 mx] W fun e w' => e = .returned (.string (mkB (wrL (n + j) mx))) ∧ Below W.heap.size W w' := fun (W : World) => wide_walk (n + j) mx W (by omega) (by omega)
        have z2 := wide_size (n + j) mx (by omega) (by omega)
        obtain ⟨E, hE⟩ : ∃ E, mkB (wrL (n + j) mx) = E := ⟨_, rfl⟩
        obtain ⟨T, hTT⟩ : ∃ T, wideA (n + j) mx = T := ⟨_, rfl⟩
        rw [← mkB_size, hE] at z2
        rw [hE] at hT d2
        rw [hTT] at hT k0
        have o2 : (9223372036854775807 < 1 + E.size) = False := by simp; omega
        have hSL : Cn1 b (off + j) ((.string T)) wr := ((bcell hb).1 _ _ hbl).trans k0
        have hc1 := hide (fun (V : World) (hV : Below wr.heap.size wr V) => (hd1 V).mono fun e w' ⟨he, hb'⟩ => (⟨he, ext_trans hV hb', hSL.later (ext_trans hV hb')⟩ : e = Ending.returned (.string D) ∧ Below wr.heap.size wr w' ∧ Cn1 b (off + j) ((.string T)) w'))
        have hc2 := hide (fun (V : World) (hV : Below wr.heap.size wr V) => (d2 V).mono fun e w' ⟨he, hb'⟩ => (⟨he, ext_trans hV hb', hSL.later (ext_trans hV hb')⟩ : e = Ending.returned (.string E) ∧ Below wr.heap.size wr w' ∧ Cn1 b (off + j) ((.string T)) w'))
        have hww : IntKind.i64.wrap ((n : Int) + (j : Int)) = (n : Int) + (j : Int) := by rw [IntKind.wrap_i64]; omega
        have hSd := hSL.drew
        have hrefl := Below.refl wr.heap.size wr
        have hblr : b < wr.heap.size := Nat.lt_of_lt_of_le hbl hb.size
        clear hE hTT z2 d2 k0 hd1
        go_upto_region 12 with fail
        go_region_held3 (fun W' => W'.cell? ⟨b, off + j, none⟩ = some ((.string T))) (first | ((repeat (first | (with_reducible assumption) | (with_reducible refine Cn1.alloc ?_ _) | (with_reducible refine Cn1.drew ?_) | (with_reducible refine Cn1.set ?_ ?_ _) | omega)); done)) (first | (go_at_call 35; (with_reducible refine (hc1.out _ ?_).mono ?_); (repeat (first | (with_reducible assumption) | (with_reducible refine ext_alloc ?_ _) | (with_reducible refine ext_drew ?_))); rintro e w5 ⟨rfl, hb5, hx5⟩) | (go_at_call 35; (with_reducible refine (hc2.out _ ?_).mono ?_); (repeat (first | (with_reducible assumption) | (with_reducible refine ext_alloc ?_ _) | (with_reducible refine ext_drew ?_))); rintro e w6 ⟨rfl, hb6, hx6⟩))
        all_goals
          go_wp2_with fail
          go_roundw
          case rel => exact ⟨j + 1, by omega, by go_num, ext_trans hb hb6⟩
          case measure => simp [intOf]; omega
      · have hji : (k : Int) < (j : Int) := by omega
        have hbw := ext_trans hbb hb
        have haw := awake03_walk wr (hS.after hbw)
        clear hd1
        go_wp2_with (go_at_call 22; refine haw.mono ?_; rintro e w4 ⟨rfl, hb4⟩)
        go_ret
        exact ⟨rfl, ext_trans hbw hb4⟩
end Go.Proofs.YtjdhjnciokhbkaaGreatDoor
