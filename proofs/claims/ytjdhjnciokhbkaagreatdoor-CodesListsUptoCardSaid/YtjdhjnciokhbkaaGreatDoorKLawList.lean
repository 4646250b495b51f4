/- The statement CodesLists: its walk. Conditions: a text shorter than 2^30 bytes; the numbers can be read; what the program's variables hold. -/
import Derived.Test.YtjdhjnciokhbkaaGreatDoorKListR
import Derived.Test.YtjdhjnciokhbkaaGreatDoorKLawCRet
import Derived.Test.YtjdhjnciokhbkaaGreatDoorKJoinR
namespace Go.Proofs.YtjdhjnciokhbkaaGreatDoor
open Go.RowKit
set_option maxRecDepth 100000

theorem same_two {A A' : Option Addr} {l : List ByteArray} {c c' : Nat} {w w1 : World} (hl : l.length ≤ 9223372036854775807) (h1 : At kStr AnyB w A l) (h2 : At kStr AnyB w1 A' l) (hb : Below w.heap.size w w1) (V : World) (hV : Below w1.heap.size w1 V) :
    Calls Tryz.prog 33 #[.slice A l.length c, .slice A' l.length c'] V fun e w' => e = .returned (.bool true) ∧ Below V.heap.size V w' :=
  r2SameS_walk A A' l c c' V hl (h1.later (ext_trans hb hV)) (h2.later hV)
set_option maxHeartbeats 8000000 in
theorem clists_walk (s : ByteArray) (A : Option Addr) (n c : Nat) (w : World) (hS : Std w) (hs : s.size < 1073741824) (hA : 0 < n → ∃ b off, A = some ⟨b, off, none⟩ ∧ ∀ j, j < n → ∃ x : Int, w.cell? ⟨b, off + j, none⟩ = some (.int .i64 x)) :
    Calls Tryz.prog 6 #[.string s, .slice A n c] w fun e w' => e = .returned (.bool true) ∧ Below w.heap.size w w' := by
  by_cases hn : n ≤ 400
  · have hd400 : decide (n ≤ 400) = true := by simpa using hn
    have D0 := dice_new (c := c) hn hA
    have hS0 := hS.big
    obtain ⟨g, hgw⟩ : ∃ g, w.heap.size = g := ⟨_, rfl⟩
    obtain ⟨W1, hW1⟩ : ∃ W1, w.alloc (.cells #[.slice A n c, .int .i64 0] 84) = W1 := ⟨_, rfl⟩
    have hb1 : Below w.heap.size w W1 := by rw [← hW1]; exact (by repeat (first | exact Below.refl _ _ | refine ext_alloc ?_ _ | refine ext_drewN ?_ _ | refine ext_drew ?_ | refine ext_trans ?_ (by assumption)))
    rw [hW1] at D0
    have hg : w.heap.size ≤ g := Nat.le_of_eq hgw
    have D1 : DiceOk w.heap.size W1 g := by rw [← hgw]; exact D0
    have hl1 := hide (fun (V : World) (hV : Below w.heap.size w V) => list_walk s V (hS.after hV) hs)
    have hr1 := hide (fun (V : World) (hV : Below w.heap.size w V) => r3list_walk s V (hS.after hV) hs)
    obtain ⟨⟨e1, l1⟩, hv1⟩ : ∃ r, listV s = r := ⟨_, rfl⟩
    rw [hv1] at hl1 hr1
    replace hW1 := hide hW1
    replace hgw := hide hgw
    clear D0 hA hv1
    go_enter Tryz.func6, Tryz.ntmps6
    go_wp2_with (go_at_call 13; refine (light_walk _ _ _ _).mono ?_; rintro e w' ⟨rfl, rfl⟩)
    refine (roll_walk _ _ _ _).mono ?_
    rintro e w' ⟨rfl, rfl⟩
    rw [hW1.out, hgw.out]
    clear hW1 hgw
    go_wp2_with fail
    refine (dcodes_walk w.heap.size g 14 (by decide) W1 D1).mono ?_
    rintro e w2 ⟨v2, L, rfl, hmade, hown, T2⟩
    have hb2 := T2.ext hb1 hg
    obtain ⟨A2, c2, rfl, hcap, hat⟩ := hown.any
    have hL16 := hmade.1
    have hjv := join_made hmade
    have hcs : ∀ x ∈ L, codeB x = true := fun x hx => codesL_ok x (hmade.2.2 x hx)
    obtain ⟨hp1, hp2⟩ := piece_small _ L (Nat.le_refl _) hcs
    have hjl := lens59 40 ((pieceS 0 L).map (·.data.toList)) (fun x hx => by obtain ⟨p, hp, rfl⟩ := List.mem_map.1 hx; exact hp2 p hp)
    rw [List.length_map] at hjl
    have hc2 := r3join_walk A2 L c2 w2 hat.any (by omega)
    rw [hjv] at hc2
    obtain ⟨t, ht⟩ : ∃ t, mkB (Lib.join ((pieceS 0 L).map (·.data.toList)) [59]) = t := ⟨_, rfl⟩
    have htz : t.size ≤ 800 := by rw [← ht, mkB_size]; omega
    rw [ht] at hc2
    have D2 := T2.dice
    have hgz : g < w2.heap.size := D2.lt
    obtain ⟨N, hN⟩ : ∃ N, L.length = N := ⟨_, rfl⟩
    rw [hN] at hc2 ⊢
    clear ht hjl hp1 hp2 hcs hjv hmade hown T2 hat D1 hcap hL16 hN
    go_wp2_with fail
    refine hc2.mono ?_
    clear hc2
    rintro e w3 ⟨rfl, hb3⟩
    have q3 := ext_trans hb2 hb3
    have D3 := D2.later hb3
    dsimp only
    go_wp2_with fail
    refine (one_walk w.heap.size g 2 (by decide) (by decide) w3 D3).mono ?_
    rintro e w4 ⟨b, rfl, T4⟩
    have q4 := T4.ext q3 hg
    have D4 := T4.dice
    clear q3 D2 D3 T4 hb2 hb3 hb1
    cases b with
    | false =>
      have q5 := q4
      obtain ⟨X, hX⟩ : ∃ X, t = X := ⟨_, rfl⟩
      have hXz : X.size ≤ 1000 := by rw [← hX]; omega
      rw [hX]
      clear hX q4 D4
      have hlX := hide (fun (V : World) (hV : Below w.heap.size w V) => list_walk X V (hS.after hV) (by omega))
      have hrX := hide (fun (V : World) (hV : Below w.heap.size w V) => r3list_walk X V (hS.after hV) (by omega))
      obtain ⟨⟨e2, l2⟩, hv2⟩ : ∃ r, listV X = r := ⟨_, rfl⟩
      rw [hv2] at hlX hrX
      clear hv2
      go_wp2_with fail
      refine (hl1.out _ q5).mono ?_
      rintro e w6 ⟨v6, rfl, ho6, hb6⟩
      have q6 := ext_trans q5 hb6
      have n1 := ho6.le
      obtain ⟨A6, c6, rfl, -, a6⟩ := ho6.any
      clear ho6
      dsimp only
      go_wp2_with fail
      refine (hr1.out _ q6).mono ?_
      rintro e w7 ⟨v7, rfl, ho7, hb7⟩
      have q7 := ext_trans q6 hb7
      obtain ⟨A7, c7, rfl, -, a7⟩ := ho7.any
      clear ho7
      have s1 := hide (same_two (c := c6) (c' := c7) n1 a6.any a7.any hb7)
      clear a6 a7
      dsimp only
      go_wp2_with fail
      refine (hlX.out _ q7).mono ?_
      rintro e w8 ⟨v8, rfl, ho8, hb8⟩
      have q8 := ext_trans q7 hb8
      have n2 := ho8.le
      obtain ⟨A8, c8, rfl, -, a8⟩ := ho8.any
      clear ho8
      dsimp only
      go_wp2_with fail
      refine (hrX.out _ q8).mono ?_
      rintro e w9 ⟨v9, rfl, ho9, hb9⟩
      have q9 := ext_trans q8 hb9
      obtain ⟨A9, c9, rfl, -, a9⟩ := ho9.any
      clear ho9
      have s2 := hide (same_two (c := c8) (c' := c9) n2 a8.any a9.any hb9)
      clear a8 a9
      have haw := awake03_walk w9 (hS.after q9)
      have b79 := ext_trans hb8 hb9
      obtain ⟨N1, hN1⟩ : ∃ N, l1.length = N := ⟨_, rfl⟩
      obtain ⟨N2, hN2⟩ : ∃ N, l2.length = N := ⟨_, rfl⟩
      rw [hN1] at s1 ⊢
      rw [hN2] at s2 ⊢
      clear hN1 hN2 hl1 hr1 hlX hrX q5 q6 q7 q8 hb6 hb7 hb8 hb9 n1 n2
      dsimp only
      go_wp2_with fail
      refine haw.mono ?_
      clear haw
      rintro e w10 ⟨rfl, hb10⟩
      go_wp2_with fail
      refine (s1.out _ (ext_trans b79 hb10)).mono ?_
      clear s1 b79
      rintro e w11 ⟨rfl, hb11⟩
      have b11 := ext_trans hb10 hb11
      go_wp2_with fail
      refine (s2.out _ b11).mono ?_
      clear s2
      rintro e w12 ⟨rfl, hb12⟩
      go_wp2
      go_ret
      exact ⟨rfl, ext_trans (ext_trans q9 b11) hb12⟩
    | true =>
      go_wp2_with fail
      refine (spoil_walk w.heap.size g t _ (by decide) (by decide) (by omega) w4 D4).mono ?_
      rintro e w5 ⟨X, rfl, hXs, T5⟩
      have q5 := T5.ext q4 hg
      have hXz : X.size ≤ 1000 := by omega
      clear q4 D4 T5 hXs
      have hlX := hide (fun (V : World) (hV : Below w.heap.size w V) => list_walk X V (hS.after hV) (by omega))
      have hrX := hide (fun (V : World) (hV : Below w.heap.size w V) => r3list_walk X V (hS.after hV) (by omega))
      obtain ⟨⟨e2, l2⟩, hv2⟩ : ∃ r, listV X = r := ⟨_, rfl⟩
      rw [hv2] at hlX hrX
      clear hv2
      go_wp2_with fail
      refine (hl1.out _ q5).mono ?_
      rintro e w6 ⟨v6, rfl, ho6, hb6⟩
      have q6 := ext_trans q5 hb6
      have n1 := ho6.le
      obtain ⟨A6, c6, rfl, -, a6⟩ := ho6.any
      clear ho6
      dsimp only
      go_wp2_with fail
      refine (hr1.out _ q6).mono ?_
      rintro e w7 ⟨v7, rfl, ho7, hb7⟩
      have q7 := ext_trans q6 hb7
      obtain ⟨A7, c7, rfl, -, a7⟩ := ho7.any
      clear ho7
      have s1 := hide (same_two (c := c6) (c' := c7) n1 a6.any a7.any hb7)
      clear a6 a7
      dsimp only
      go_wp2_with fail
      refine (hlX.out _ q7).mono ?_
      rintro e w8 ⟨v8, rfl, ho8, hb8⟩
      have q8 := ext_trans q7 hb8
      have n2 := ho8.le
      obtain ⟨A8, c8, rfl, -, a8⟩ := ho8.any
      clear ho8
      dsimp only
      go_wp2_with fail
      refine (hrX.out _ q8).mono ?_
      rintro e w9 ⟨v9, rfl, ho9, hb9⟩
      have q9 := ext_trans q8 hb9
      obtain ⟨A9, c9, rfl, -, a9⟩ := ho9.any
      clear ho9
      have s2 := hide (same_two (c := c8) (c' := c9) n2 a8.any a9.any hb9)
      clear a8 a9
      have haw := awake03_walk w9 (hS.after q9)
      have b79 := ext_trans hb8 hb9
      obtain ⟨N1, hN1⟩ : ∃ N, l1.length = N := ⟨_, rfl⟩
      obtain ⟨N2, hN2⟩ : ∃ N, l2.length = N := ⟨_, rfl⟩
      rw [hN1] at s1 ⊢
      rw [hN2] at s2 ⊢
      clear hN1 hN2 hl1 hr1 hlX hrX q5 q6 q7 q8 hb6 hb7 hb8 hb9 n1 n2
      dsimp only
      go_wp2_with fail
      refine haw.mono ?_
      clear haw
      rintro e w10 ⟨rfl, hb10⟩
      go_wp2_with fail
      refine (s1.out _ (ext_trans b79 hb10)).mono ?_
      clear s1 b79
      rintro e w11 ⟨rfl, hb11⟩
      have b11 := ext_trans hb10 hb11
      go_wp2_with fail
      refine (s2.out _ b11).mono ?_
      clear s2
      rintro e w12 ⟨rfl, hb12⟩
      go_wp2
      go_ret
      exact ⟨rfl, ext_trans (ext_trans q9 b11) hb12⟩
  · have hd400 : decide (n ≤ 400) = false := by simpa using hn
    have haw := awake03_walk w hS
    clear hA
    go_enter Tryz.func6, Tryz.ntmps6
    go_wp2_with (go_at_call 13; refine (light_walk _ _ _ _).mono ?_; rintro e w' ⟨rfl, rfl⟩)
    refine haw.mono ?_
    rintro e w1 ⟨rfl, hb1⟩
    go_wp2
    go_ret
    exact ⟨rfl, hb1⟩
end Go.Proofs.YtjdhjnciokhbkaaGreatDoor
