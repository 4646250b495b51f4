/- Walk of codes.between. Conditions: room for at most 64 codes; what the program's variables hold. -/
import Derived.Test.YtnbcaklnpflihaaGreatDoorKListP
import Derived.Test.YtnbcaklnpflihaaGreatDoorKWayA
namespace Go.Proofs.YtnbcaklnpflihaaGreatDoor
open Go.RowKit
set_option maxRecDepth 100000

def PartsIs (P : ByteArray) (d n : Nat) (ok : Bool) (w : World) (e : Ending) (w' : World) : Prop :=
  e = .returned (.tuple #[.string P, .int .i64 (n : Int), .int .i64 (d : Int), .bool ok]) ∧ Below w.heap.size w w'
theorem parts_is (a : ByteArray) (w : World) (hS : Std w) (hs : a.size ≤ 18) :
    Calls Tryz.prog 126 #[.string a] w fun e w' => PartsIs (mkB (preL a)) (widT a) (if tailAt a < a.size then numT a else 0) (decide (tailAt a < a.size)) w e w' := by
  refine (parts_walk a w hS hs).mono ?_
  rintro e w' ⟨X, rfl, hX, hb⟩
  refine ⟨?_, hb⟩
  rw [mkB_of hX]
  have h1 : ((a.size : Int) - (tailAt a : Int)) = ((widT a : Nat) : Int) := by have := tail_le a; unfold widT; omega
  rw [h1]
  by_cases h : tailAt a < a.size
  · rw [if_pos h, if_pos h]; rfl
  · rw [if_neg h, if_neg h]; rfl
theorem numT_le (a : ByteArray) (h : a.size ≤ 16) : numT a ≤ 100000000000000000 := by
  have hx := ext_list a (tailAt a) a.size
  rw [List.take_of_length_le (by simp)] at hx
  have h1 := (dig_val (tail_digS a)).2
  have h2 : valS (a.extract (tailAt a) a.size) = numT a := by unfold numT valL valS; rw [hx]
  have h3 : (a.extract (tailAt a) a.size).size ≤ 17 := by simp only [ByteArray.size_extract]; omega
  have := pow18 h3
  omega
theorem toList_no {X Y : ByteArray} (h : ¬ X.data.toList = Y.data.toList) : (X.toList == Y.toList) = false := by rw [toList_dataL, toList_dataL]; exact beq_false_of_ne h
theorem toList_ne {X Y : ByteArray} (h : ¬ X.data.toList = Y.data.toList) : ¬ X.toList = Y.toList := by rw [toList_dataL, toList_dataL]; exact h
theorem toList_yes {X Y : ByteArray} (h : X.data.toList = Y.data.toList) : X.toList = Y.toList := by rw [toList_dataL, toList_dataL]; exact h
theorem written_is (p : List UInt8) (n d : Nat) (w : World) (hS : Std w) (hn : n ≤ 9223372036854775807) (hP : p.length ≤ 1000) (hd : d ≤ 1000) :
    Calls Tryz.prog 127 #[.string (mkB p), .int .i64 n, .int .i64 d] w fun e w' => e = .returned (.string (mkB (p ++ wrL n d))) ∧ Below w.heap.size w w' := by
  refine (written_walk (mkB p) n d w hS hn (by rw [mkB_size]; exact hP) hd).mono ?_
  rintro e w' ⟨X, rfl, hX, hb⟩
  rw [mkB_list] at hX
  exact ⟨by rw [mkB_of hX], hb⟩
def BetwIs (r : Nat × List ByteArray) (w : World) (e : Ending) (w' : World) : Prop :=
  ∃ v, e = .returned (.tuple #[v, .int .i64 (r.1 : Int)]) ∧ Own kStr 9 [] 0 w.heap.size w' v r.2 ∧ Below w.heap.size w w'
theorem betw_none {n : Nat} {w w' : World} (hb : Below w.heap.size w w') : BetwIs (n, []) w (.returned (.tuple #[.slice none 0 0, .int .i64 (n : Int)])) w' := ⟨_, rfl, Own.nil, hb⟩
set_option maxHeartbeats 4000000 in
theorem between_walk (a b : ByteArray) (room : Nat) (w : World) (hS : Std w) (hr : room ≤ 64) :
    Calls Tryz.prog 110 #[.string a, .string b, .int .i64 room] w fun e w' => BetwIs (rangeV a b room) w e w' := by
  have hbig := hS.big
  have c1 := hide (cvalid_walk a)
  have c2 := hide (cvalid_walk b)
  by_cases hv : codeB a = true ∧ codeB b = true
  · obtain ⟨va, vb⟩ := hv
    have sa := code_size va
    have sb := code_size vb
    have na := numT_le a sa.2
    have nb := numT_le b sb.2
    have hV : rangeV a b room = if endsB a b = true then
      if room ≤ numT b - numT a then (2, []) else (0, (List.range (numT b - numT a + 1)).map (ranF a))
      else (3, []) := if_pos ⟨va, vb⟩
    have p1 := hide (fun (W : World) (h : Below w.heap.size w W) => parts_is a W (hS.after h) (by omega))
    have p2 := hide (fun (W : World) (h : Below w.heap.size w W) => parts_is b W (hS.after h) (by omega))
    rw [va] at c1
    rw [vb] at c2
    have hno : ∀ {W : World}, Below w.heap.size w W → endsB a b = false → BetwIs (rangeV a b room) w (.returned (.tuple #[.slice none 0 0, .int .i64 (3 : Int)])) W := by
      intro W hW he
      rw [hV, if_neg (by rw [he]; simp)]
      exact betw_none hW
    by_cases hA : tailAt a < a.size
    · rw [if_pos hA, decide_eq_true hA] at p1
      by_cases hB : tailAt b < b.size
      · rw [if_pos hB, decide_eq_true hB] at p2
        by_cases hP : preL a = preL b
        · rw [← hP] at p2
          by_cases hN : numT a ≤ numT b
          · have hNi : (numT a : Int) ≤ (numT b : Int) := by omega
            have wr := hide (fun (W : World) (h : Below w.heap.size w W) => written_is (preL a) (numT b) (widT a) W (hS.after h) (by omega) (by unfold preL; rw [List.length_take, len_size]; omega) (by unfold widT; omega))
            by_cases hW : preL a ++ wrL (numT b) (widT a) = b.data.toList
            · have heq := toList_yes (X := mkB (preL a ++ wrL (numT b) (widT a))) (Y := b) (by rw [mkB_list]; exact hW)
              have hE : endsB a b = true := decide_eq_true ⟨hA, hB, hP, hN, hW⟩
              rw [if_pos hE] at hV
              have hw0 : IntKind.i64.wrap ((numT b : Int) - (numT a : Int)) = (numT b : Int) - (numT a : Int) := by rw [IntKind.wrap_i64]; omega
              by_cases hR : room ≤ numT b - numT a
              · have hRi : (room : Int) ≤ (numT b : Int) - (numT a : Int) := by omega
                rw [if_pos hR] at hV
                rw [hV]
                clear hA hB hP hV va vb sa sb na nb hE hno hW hR
                go_enter Tryz.func110, Tryz.ntmps110
                go_wp2_with (first | (go_at_call 30; (with_reducible refine (c1.out _).mono ?_); rintro e w' ⟨rfl, rfl⟩) | (go_at_call 30; (with_reducible refine (c2.out _).mono ?_); rintro e w' ⟨rfl, rfl⟩) | (go_at_call 126; (with_reducible refine (p1.out _ ?_).mono ?_); exact Below.refl _ _; rintro e w1 ⟨rfl, hb1⟩) | (go_at_call 126; (with_reducible refine (p2.out _ ?_).mono ?_); assumption; rintro e w2 ⟨rfl, hb2⟩) | (go_at_call 127; (with_reducible refine (wr.out _ ?_).mono ?_); exact ext_trans hb1 hb2; rintro e w3 ⟨rfl, hb3⟩))
                all_goals
                  go_ret2
                  exact betw_none (ext_trans (ext_trans hb1 hb2) hb3)
              · have hRi : ¬ (room : Int) ≤ (numT b : Int) - (numT a : Int) := by omega
                rw [if_neg hR] at hV
                rw [hV]
                have hpl : (preL a).length ≤ 1000 := by unfold preL; rw [List.length_take, len_size]; omega
                have hdl : widT a ≤ 1000 := by unfold widT; omega
                have hnf : ∀ k, ranF a k = mkB (preL a ++ wrL (numT a + k) (widT a)) := fun _ => rfl
                clear hA hB hP hV va vb sa sb hE hno hW
                obtain ⟨n, hn⟩ : ∃ n, numT a = n := ⟨_, rfl⟩
                obtain ⟨m, hm⟩ : ∃ m, numT b = m := ⟨_, rfl⟩
                obtain ⟨d, hd⟩ : ∃ d, widT a = d := ⟨_, rfl⟩
                obtain ⟨p, hp⟩ : ∃ p, preL a = p := ⟨_, rfl⟩
                obtain ⟨f, hf⟩ : ∃ f, ranF a = f := ⟨_, rfl⟩
                simp only [hn, hm, hd, hp, hf] at *
                replace hnf := hide hnf
                replace hR := hide hR
                clear hn hm hd hp hf
                go_enter Tryz.func110, Tryz.ntmps110
                go_wp2_with (first | (go_at_call 30; (with_reducible refine (c1.out _).mono ?_); rintro e w' ⟨rfl, rfl⟩) | (go_at_call 30; (with_reducible refine (c2.out _).mono ?_); rintro e w' ⟨rfl, rfl⟩) | (go_at_call 126; (with_reducible refine (p1.out _ ?_).mono ?_); exact Below.refl _ _; rintro e w1 ⟨rfl, hb1⟩) | (go_at_call 126; (with_reducible refine (p2.out _ ?_).mono ?_); assumption; rintro e w2 ⟨rfl, hb2⟩) | (go_at_call 127; (with_reducible refine (wr.out _ ?_).mono ?_); exact ext_trans hb1 hb2; rintro e w3 ⟨rfl, hb3⟩))
                all_goals
                  have hb := ext_trans (ext_trans hb1 hb2) hb3
                  replace hR := hR.out
                  clear hb1 hb2 hb3 hw0 heq wr p1 p2 c1 c2 hRi hNi
                  go_loopw [16, 17] (fun v i wr => ∃ k, k ≤ m - n + 1 ∧ i = .int .i64 ((n + k : Nat) : Int) ∧ Own kStr 9 [] 0 w.heap.size wr v ((List.range k).map f) ∧ Below w.heap.size w wr) (fun _ i _ => m + 1 - (intOf i).toNat)
                  case atStart => exact ⟨0, Nat.zero_le _, rfl, Own.nil, hb⟩
                  case round =>
                    obtain ⟨k, hk, rfl, hown, hb⟩ := hrel
                    by_cases hlt : k < m - n + 1
                    · have hki : ((n + k : Nat) : Int) ≤ (m : Int) := by omega
                      have hz := hb.size
                      have wr2 := written_is p (n + k) d wr (hS.after hb) (by omega) hpl hdl
                      rw [← hnf.out] at wr2
                      go_wp2_with fail
                      refine wr2.mono ?_
                      clear wr2
                      rintro e w3 ⟨rfl, hb3⟩
                      have hown3 := hown.later hb3
                      have hz3 := hb3.size
                      go_wp2_with (at_builtin; refine wpList_own rfl _ _ rfl apd_strs (by decide) rfl (hown3.alloc _) ?d1 (by decide) ⟨w3.heap.size, 0, none⟩ 1 rfl (f k) [.string (f k)] rfl (World.news_of_block (cs := #[.string (f k)]) (t := 9) (fr := (0, 0)) (heap_alloc_new _ _)) (by decide) (Nat.zero_le _) ?d2 ?_)
                      case d1 => simp; omega
                      case d2 => rw [World.size_alloc]; omega
                      intro v4 w4 hown4 hgrow
                      have hb4 := (hown3.alloc _).below_grown (ext_alloc (ext_trans hb hb3) _) (Nat.le_refl _) hgrow
                      rw [show (List.range k).map f ++ [f k] = (List.range (k + 1)).map f from by rw [List.range_succ, List.map_append]; rfl] at hown4
                      clear hown hown3 hgrow hb hb3
                      go_wp2
                      go_roundw
                      case rel => exact ⟨k + 1, by omega, by go_num, hown4, hb4⟩
                      case measure => simp [intOf]; omega
                    · obtain rfl : k = m - n + 1 := by omega
                      have hki : (m : Int) < ((n + (m - n + 1) : Nat) : Int) := by omega
                      go_wp2
                      go_ret2
                      exact ⟨_, rfl, hown, hb⟩
            · replace hno := hide (fun (W : World) (hW' : Below w.heap.size w W) => hno hW' (decide_eq_false fun h => hW h.2.2.2.2))
              have hne := toList_no (X := mkB (preL a ++ wrL (numT b) (widT a))) (Y := b) (by rw [mkB_list]; exact hW)
              clear hA hB hP hN hV va vb sa sb na nb
              go_enter Tryz.func110, Tryz.ntmps110
              go_wp2_with (first | (go_at_call 30; (with_reducible refine (c1.out _).mono ?_); rintro e w' ⟨rfl, rfl⟩) | (go_at_call 30; (with_reducible refine (c2.out _).mono ?_); rintro e w' ⟨rfl, rfl⟩) | (go_at_call 126; (with_reducible refine (p1.out _ ?_).mono ?_); exact Below.refl _ _; rintro e w1 ⟨rfl, hb1⟩) | (go_at_call 126; (with_reducible refine (p2.out _ ?_).mono ?_); assumption; rintro e w2 ⟨rfl, hb2⟩) | (go_at_call 127; (with_reducible refine (wr.out _ ?_).mono ?_); exact ext_trans hb1 hb2; rintro e w3 ⟨rfl, hb3⟩))
              all_goals
                go_ret2
                exact hno.out _ (ext_trans (ext_trans hb1 hb2) hb3)
          · have hNi : (numT b : Int) < (numT a : Int) := by omega
            replace hno := hide (fun (W : World) (hW : Below w.heap.size w W) => hno hW (decide_eq_false fun h => hN h.2.2.2.1))
            clear hA hB hP hN hV va vb sa sb na nb
            go_enter Tryz.func110, Tryz.ntmps110
            go_wp2_with (first | (go_at_call 30; (with_reducible refine (c1.out _).mono ?_); rintro e w' ⟨rfl, rfl⟩) | (go_at_call 30; (with_reducible refine (c2.out _).mono ?_); rintro e w' ⟨rfl, rfl⟩) | (go_at_call 126; (with_reducible refine (p1.out _ ?_).mono ?_); exact Below.refl _ _; rintro e w1 ⟨rfl, hb1⟩) | (go_at_call 126; (with_reducible refine (p2.out _ ?_).mono ?_); assumption; rintro e w2 ⟨rfl, hb2⟩) | (go_at_call 127; (with_reducible refine (wr.out _ ?_).mono ?_); exact ext_trans hb1 hb2; rintro e w3 ⟨rfl, hb3⟩))
            all_goals
              go_ret2
              exact hno.out _ (ext_trans hb1 hb2)
        · replace hno := hide (fun (W : World) (hW : Below w.heap.size w W) => hno hW (decide_eq_false fun h => hP h.2.2.1))
          have hPn := toList_ne (X := mkB (preL a)) (Y := mkB (preL b)) (by rw [mkB_list, mkB_list]; exact hP)
          clear hA hB hP hV va vb sa sb na nb
          go_enter Tryz.func110, Tryz.ntmps110
          go_wp2_with (first | (go_at_call 30; (with_reducible refine (c1.out _).mono ?_); rintro e w' ⟨rfl, rfl⟩) | (go_at_call 30; (with_reducible refine (c2.out _).mono ?_); rintro e w' ⟨rfl, rfl⟩) | (go_at_call 126; (with_reducible refine (p1.out _ ?_).mono ?_); exact Below.refl _ _; rintro e w1 ⟨rfl, hb1⟩) | (go_at_call 126; (with_reducible refine (p2.out _ ?_).mono ?_); assumption; rintro e w2 ⟨rfl, hb2⟩) | (go_at_call 127; (with_reducible refine (wr.out _ ?_).mono ?_); exact ext_trans hb1 hb2; rintro e w3 ⟨rfl, hb3⟩))
          all_goals
            go_ret2
            exact hno.out _ (ext_trans hb1 hb2)
      · rw [if_neg hB, decide_eq_false hB] at p2
        replace hno := hide (fun (W : World) (hW : Below w.heap.size w W) => hno hW (decide_eq_false fun h => hB h.2.1))
        clear hA hB hV va vb sa sb na nb
        go_enter Tryz.func110, Tryz.ntmps110
        go_wp2_with (first | (go_at_call 30; (with_reducible refine (c1.out _).mono ?_); rintro e w' ⟨rfl, rfl⟩) | (go_at_call 30; (with_reducible refine (c2.out _).mono ?_); rintro e w' ⟨rfl, rfl⟩) | (go_at_call 126; (with_reducible refine (p1.out _ ?_).mono ?_); exact Below.refl _ _; rintro e w1 ⟨rfl, hb1⟩) | (go_at_call 126; (with_reducible refine (p2.out _ ?_).mono ?_); assumption; rintro e w2 ⟨rfl, hb2⟩) | (go_at_call 127; (with_reducible refine (wr.out _ ?_).mono ?_); exact ext_trans hb1 hb2; rintro e w3 ⟨rfl, hb3⟩))
        all_goals
          go_ret2
          exact hno.out _ (ext_trans hb1 hb2)
    · rw [if_neg hA, decide_eq_false hA] at p1
      replace hno := hide (fun (W : World) (hW : Below w.heap.size w W) => hno hW (decide_eq_false fun h => hA h.1))
      clear hA hV va vb sa sb na nb
      go_enter Tryz.func110, Tryz.ntmps110
      go_wp2_with (first | (go_at_call 30; (with_reducible refine (c1.out _).mono ?_); rintro e w' ⟨rfl, rfl⟩) | (go_at_call 30; (with_reducible refine (c2.out _).mono ?_); rintro e w' ⟨rfl, rfl⟩) | (go_at_call 126; (with_reducible refine (p1.out _ ?_).mono ?_); exact Below.refl _ _; rintro e w1 ⟨rfl, hb1⟩) | (go_at_call 126; (with_reducible refine (p2.out _ ?_).mono ?_); assumption; rintro e w2 ⟨rfl, hb2⟩) | (go_at_call 127; (with_reducible refine (wr.out _ ?_).mono ?_); exact ext_trans hb1 hb2; rintro e w3 ⟨rfl, hb3⟩))
      all_goals
        go_ret2
        exact hno.out _ (ext_trans hb1 hb2)
  · have hV : rangeV a b room = (10, []) := if_neg hv
    rw [hV]
    cases va : codeB a with
    | false =>
      rw [va] at c1
      clear hv va
      go_enter Tryz.func110, Tryz.ntmps110
      go_wp2_with (go_at_call 30; refine (c1.out _).mono ?_; rintro e w' ⟨rfl, rfl⟩)
      go_ret2
      exact betw_none (Below.refl _ _)
    | true =>
      cases vb : codeB b with
      | false =>
        rw [va] at c1
        rw [vb] at c2
        clear hv va vb
        go_enter Tryz.func110, Tryz.ntmps110
        go_wp2_with (first | (go_at_call 30; (with_reducible refine (c1.out _).mono ?_); rintro e w' ⟨rfl, rfl⟩) | (go_at_call 30; (with_reducible refine (c2.out _).mono ?_); rintro e w' ⟨rfl, rfl⟩))
        go_ret2
        exact betw_none (Below.refl _ _)
      | true => exact absurd ⟨va, vb⟩ hv
end Go.Proofs.YtnbcaklnpflihaaGreatDoor
