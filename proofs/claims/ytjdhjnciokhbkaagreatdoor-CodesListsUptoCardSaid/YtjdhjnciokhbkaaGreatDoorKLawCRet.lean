/- The statement CodesReturns: its walk. Conditions: the numbers can be read; what the program's variables hold. -/
import Derived.Test.YtjdhjnciokhbkaaGreatDoorKJoinR
import Derived.Test.YtjdhjnciokhbkaaGreatDoorKDiceK
import Derived.Test.YtjdhjnciokhbkaaGreatDoorKAwake3
namespace Go.Proofs.YtjdhjnciokhbkaaGreatDoor
open Go.RowKit
set_option maxRecDepth 100000

theorem jErr_made {l : List ByteArray} (hc : ∀ x ∈ l, codeB x = true) (hn : l.Nodup) : ∀ n, n ≤ l.length → jErr l n = 0
  | 0, _ => rfl
  | n + 1, h => by
    have hz : l[n]? = some l[n] := List.getElem?_eq_getElem (by omega)
    rw [jErr_next (jErr_made hc hn n (by omega))]
    unfold jE
    rw [List.getD_eq_getElem?_getD, hz]
    show (if codeB l[n] = false then 10 else if 0 ≤ idxS l[n] (l.take n) then 11 else 0) = 0
    rw [hc _ (List.getElem_mem _), if_neg (by simp), if_neg]
    intro hi
    obtain ⟨k, hk⟩ := List.getElem?_of_mem (idx_mem.1 hi)
    rw [List.getElem?_take] at hk
    split at hk
    · rename_i hkn
      have h1 : l[k]? = l[n]? := by rw [hk, hz]
      have := (List.getElem?_inj (by omega) hn).1 h1
      omega
    · cases hk
theorem join_made {l : List ByteArray} (h : CodesMade l) : joinV l = (0, mkB (Lib.join ((pieceS 0 l).map (·.data.toList)) [59])) := by
  have hc : ∀ x ∈ l, codeB x = true := fun x hx => codesL_ok x (h.2.2 x hx)
  have := h.1
  unfold joinV
  rw [if_neg (by omega), jErr_made hc h.2.1 _ (Nat.le_refl _), if_neg (by simp)]
theorem piece_small : ∀ (n : Nat) (l : List ByteArray), l.length ≤ n → (∀ x ∈ l, codeB x = true) → (pieceS 0 l).length ≤ l.length ∧ ∀ p ∈ pieceS 0 l, p.data.toList.length ≤ 40
  | _, [], _, _ => by simp [pieceS]
  | 0, _ :: _, hn, _ => by simp at hn
  | n + 1, a :: r, hn, hc => by
    have ha := code_size (hc a (by simp))
    by_cases h : 3 ≤ runV (a :: r)
    · have hl := runV_le (a :: r)
      have hb := code_size (hc ((a :: r).getD (runV (a :: r) - 1) ⟨#[]⟩) (by
        rw [List.getD_eq_getElem?_getD, List.getElem?_eq_getElem (by omega)]
        exact List.getElem_mem _))
      obtain ⟨h1, h2⟩ := piece_small n ((a :: r).drop (runV (a :: r))) (by rw [List.length_drop]; simp at hn ⊢; omega) (fun x hx => hc x (List.mem_of_mem_drop hx))
      rw [piece_run h]
      refine ⟨by rw [List.length_drop] at h1; simp only [List.length_cons] at h1 hl ⊢; omega, fun p hp => ?_⟩
      rcases List.mem_cons.1 hp with rfl | hp
      · rw [len_size, rangeT_size]; omega
      · exact h2 p hp
    · obtain ⟨h1, h2⟩ := piece_small n r (by simpa using hn) (fun x hx => hc x (List.mem_cons_of_mem _ hx))
      rw [piece_one h]
      refine ⟨by simpa using h1, fun p hp => ?_⟩
      rcases List.mem_cons.1 hp with rfl | hp
      · rw [len_size]; omega
      · exact h2 p hp
set_option maxHeartbeats 8000000 in
theorem creturns_walk (A : Option Addr) (n c : Nat) (w : World) (hS : Std w) (hA : 0 < n → ∃ b off, A = some ⟨b, off, none⟩ ∧ ∀ j, j < n → ∃ x : Int, w.cell? ⟨b, off + j, none⟩ = some (.int .i64 x)) :
    Calls Tryz.prog 12 #[.slice A n c] w fun e w' => e = .returned (.bool true) ∧ Below w.heap.size w w' := by
  by_cases hn : n ≤ 400
  · have hd400 : decide (n ≤ 400) = true := by simpa using hn
    have D0 := dice_new (c := c) hn hA
    have hS0 := hS.big
    obtain ⟨g, hgw⟩ : ∃ g, w.heap.size = g := ⟨_, rfl⟩
    obtain ⟨W1, hW1⟩ : ∃ W1, w.alloc (.cells #[.slice A n c, .int .i64 0] 84) = W1 := ⟨_, rfl⟩
    have hb1 : Below w.heap.size w W1 := by rw [← hW1]; exact (by repeat (first | exact Below.refl _ _ | refine ext_alloc ?_ _ | refine ext_drewN ?_ _ | refine ext_drew ?_ | refine ext_trans ?_ (by assumption)))
    rw [hW1] at D0
    have hg : w.heap.size ≤ g := Nat.le_of_eq hgw
    have D1 : DiceOk w.heap.size W1 g := by rw [← hgw]; exact D0
    replace hW1 := hide hW1
    replace hgw := hide hgw
    clear D0 hA
    go_enter Tryz.func12, Tryz.ntmps12
    go_wp2_with (go_at_call 13; refine (light_walk _ _ _ _).mono ?_; rintro e w' ⟨rfl, rfl⟩)
    refine (roll_walk _ _ _ _).mono ?_
    rintro e w' ⟨rfl, rfl⟩
    rw [hW1.out, hgw.out]
    clear hW1 hgw
    go_wp2_with fail
    refine (dcodes_walk w.heap.size g 16 (by decide) W1 D1).mono ?_
    rintro e w2 ⟨v2, L, rfl, hmade, hown, T2⟩
    have hb2 := T2.ext hb1 hg
    obtain ⟨A2, c2, rfl, hcap, hat⟩ := hown.any
    have hL16 := hmade.1
    have hjv := join_made hmade
    have hcs : ∀ x ∈ L, codeB x = true := fun x hx => codesL_ok x (hmade.2.2 x hx)
    have hlj := list_join (l := L) (by omega) hcs hmade.2.1
    obtain ⟨hp1, hp2⟩ := piece_small _ L (Nat.le_refl _) hcs
    have hjl := lens59 40 ((pieceS 0 L).map (·.data.toList)) (fun x hx => by obtain ⟨p, hp, rfl⟩ := List.mem_map.1 hx; exact hp2 p hp)
    rw [List.length_map] at hjl
    have hc2 := cjoin_walk A2 L c2 w2 (hS.after hb2) hat.any (by omega) hcap
    rw [hjv] at hc2
    obtain ⟨s, hs⟩ : ∃ s, mkB (Lib.join ((pieceS 0 L).map (·.data.toList)) [59]) = s := ⟨_, rfl⟩
    have hsz : s.size ≤ 1000 := by rw [← hs, mkB_size]; omega
    rw [hs] at hc2 hlj
    have hl2 := fun (V : World) (hV : Below w2.heap.size w2 V) => list_walk s V (hS.after (ext_trans hb2 hV)) (by omega)
    rw [hlj] at hl2
    have hat2 := hat.any
    replace hl2 := hide hl2
    clear hs hlj hjl hp1 hp2 hcs hjv hmade hown T2 hat D1 hcap
    go_wp2_with fail
    refine hc2.mono ?_
    clear hc2
    rintro e w3 ⟨rfl, hb3⟩
    dsimp only
    go_wp2_with fail
    refine (hl2.out _ hb3).mono ?_
    clear hl2
    rintro e w4 ⟨v4, rfl, hown4, hb4⟩
    have q4 := ext_trans hb2 (ext_trans hb3 hb4)
    have haw := awake03_walk w4 (hS.after q4)
    have hsame := hide (fun (V : World) (hV : Below w4.heap.size w4 V) => by
      obtain ⟨A4, c4, e4, -, hat4⟩ := hown4.any
      exact (⟨A4, c4, e4, r2SameS_walk A2 A4 L c2 c4 V (by omega) (hat2.later (ext_trans (ext_trans hb3 hb4) hV)) (hat4.later hV).any⟩ : ∃ A4 c4, v4 = .slice A4 L.length c4 ∧ Calls Tryz.prog 33 #[.slice A2 L.length c2, .slice A4 L.length c4] V fun e w' => e = .returned (.bool true) ∧ Below V.heap.size V w'))
    obtain ⟨N, hN⟩ : ∃ N, L.length = N := ⟨_, rfl⟩
    rw [hN] at hsame ⊢
    clear hown4 hat2 hN
    dsimp only
    go_wp2_with fail
    refine haw.mono ?_
    clear haw
    rintro e w5 ⟨rfl, hb5⟩
    obtain ⟨A4, c4, rfl, hsm⟩ := hsame.out _ hb5
    clear hsame
    go_wp2_with fail
    refine hsm.mono ?_
    clear hsm
    rintro e w6 ⟨rfl, hb6⟩
    go_wp2
    go_ret
    exact ⟨rfl, ext_trans (ext_trans q4 hb5) hb6⟩
  · have hd400 : decide (n ≤ 400) = false := by simpa using hn
    have haw := awake03_walk w hS
    clear hA
    go_enter Tryz.func12, Tryz.ntmps12
    go_wp2_with (go_at_call 13; refine (light_walk _ _ _ _).mono ?_; rintro e w' ⟨rfl, rfl⟩)
    refine haw.mono ?_
    rintro e w1 ⟨rfl, hb1⟩
    go_wp2
    go_ret
    exact ⟨rfl, hb1⟩
end Go.Proofs.YtjdhjnciokhbkaaGreatDoor
