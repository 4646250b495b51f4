/- The statement CodesJoins: its walk. Conditions: the cells of the codes; the numbers can be read; what the program's variables hold. -/
import Derived.Test.YtjdhjnciokhbkaaGreatDoorKJoinR
import Derived.Test.YtjdhjnciokhbkaaGreatDoorKDiceK
import Derived.Test.YtjdhjnciokhbkaaGreatDoorKAwake3
namespace Go.Proofs.YtjdhjnciokhbkaaGreatDoor
open Go.RowKit
set_option maxRecDepth 100000

set_option maxHeartbeats 8000000 in
theorem joins_walk (D : Option Addr) (ls : List ByteArray) (dc : Nat) (A : Option Addr) (n c : Nat) (w : World) (hS : Std w) (hD : At kStr (· < w.heap.size) w D ls) (hl : ls.length ≤ 9223372036854775807) (hlc : ls.length ≤ dc)
    (hA : 0 < n → ∃ b off, A = some ⟨b, off, none⟩ ∧ ∀ j, j < n → ∃ x : Int, w.cell? ⟨b, off + j, none⟩ = some (.int .i64 x)) :
    Calls Tryz.prog 11 #[.slice D ls.length dc, .slice A n c] w fun e w' => e = .returned (.bool true) ∧ Below w.heap.size w w' := by
  by_cases hn : n ≤ 400
  · have hd400 : decide (n ≤ 400) = true := by simpa using hn
    have D0 := dice_new (c := c) hn hA
    have hS0 := hS.big
    obtain ⟨g, hgw⟩ : ∃ g, w.heap.size = g := ⟨_, rfl⟩
    obtain ⟨W1, hW1⟩ : ∃ W1, w.alloc (.cells #[.slice A n c, .int .i64 0] 84) = W1 := ⟨_, rfl⟩
    have hb1 : Below w.heap.size w W1 := by rw [← hW1]; exact (by repeat (first | exact Below.refl _ _ | refine ext_alloc ?_ _ | refine ext_drewN ?_ _ | refine ext_drew ?_ | refine ext_trans ?_ (by assumption)))
    rw [hW1] at D0
    have hg : w.heap.size ≤ g := Nat.le_of_eq hgw
    have D1 : DiceOk w.heap.size W1 g := by rw [← hgw]; exact D0
    have hc1 := hide (fun (V : World) (hV : Below w.heap.size w V) => cjoin_walk D ls dc V (hS.after hV) (hD.later hV).any hl hlc)
    have hr1 := hide (fun (V : World) (hV : Below w.heap.size w V) => r3join_walk D ls dc V (hD.later hV).any hl)
    obtain ⟨⟨e1, s1⟩, hv1⟩ : ∃ r, joinV ls = r := ⟨_, rfl⟩
    rw [hv1] at hc1 hr1
    obtain ⟨N, hN⟩ : ∃ N, ls.length = N := ⟨_, rfl⟩
    rw [hN] at hc1 hr1 ⊢
    replace hW1 := hide hW1
    replace hgw := hide hgw
    clear D0 hA hv1 hD hl hlc hN
    go_enter Tryz.func11, Tryz.ntmps11
    go_wp2_with (go_at_call 13; refine (light_walk _ _ _ _).mono ?_; rintro e w' ⟨rfl, rfl⟩)
    refine (roll_walk _ _ _ _).mono ?_
    rintro e w' ⟨rfl, rfl⟩
    rw [hW1.out, hgw.out]
    clear hW1 hgw
    go_wp2_with fail
    refine (dcodes_walk w.heap.size g 14 (by decide) W1 D1).mono ?_
    rintro e w2 ⟨v2, L, rfl, hmade, hown, T2⟩
    have hb2 := T2.ext hb1 hg
    obtain ⟨A2, c2, rfl, hcap, hat⟩ := hown.any
    have hL16 := hmade.1
    have hc2 := hide (fun (V : World) (hV : Below w2.heap.size w2 V) => cjoin_walk A2 L c2 V (hS.after (ext_trans hb2 hV)) (hat.later hV).any (by omega) hcap)
    have hr2 := hide (fun (V : World) (hV : Below w2.heap.size w2 V) => r3join_walk A2 L c2 V (hat.later hV).any (by omega))
    obtain ⟨⟨e2, s2⟩, hv2⟩ : ∃ r, joinV L = r := ⟨_, rfl⟩
    rw [hv2] at hc2 hr2
    clear hv2 hmade hown T2 hat D1
    go_wp2_with fail
    refine (hc1.out _ hb2).mono ?_
    rintro e w3 ⟨rfl, hb3⟩
    have q3 := ext_trans hb2 hb3
    go_wp2_with fail
    refine (hr1.out _ q3).mono ?_
    rintro e w4 ⟨rfl, hb4⟩
    have p4 := ext_trans hb3 hb4
    go_wp2_with fail
    refine (hc2.out _ p4).mono ?_
    rintro e w5 ⟨rfl, hb5⟩
    have p5 := ext_trans p4 hb5
    go_wp2_with fail
    refine (hr2.out _ p5).mono ?_
    rintro e w6 ⟨rfl, hb6⟩
    have q6 := ext_trans hb2 (ext_trans p5 hb6)
    have haw := awake03_walk w6 (hS.after q6)
    clear hc1 hr1 hc2 hr2 hb2 hb3 hb4 hb5 hb6 q3 p4 p5 hcap
    dsimp only
    go_wp2_with fail
    refine haw.mono ?_
    clear haw
    rintro e w7 ⟨rfl, hb7⟩
    go_wp2
    go_ret
    exact ⟨rfl, ext_trans q6 hb7⟩
  · have hd400 : decide (n ≤ 400) = false := by simpa using hn
    have haw := awake03_walk w hS
    obtain ⟨N, hN⟩ : ∃ N, ls.length = N := ⟨_, rfl⟩
    rw [hN]
    clear hA hD hl hlc hN
    go_enter Tryz.func11, Tryz.ntmps11
    go_wp2_with (go_at_call 13; refine (light_walk _ _ _ _).mono ?_; rintro e w' ⟨rfl, rfl⟩)
    refine haw.mono ?_
    rintro e w1 ⟨rfl, hb1⟩
    go_wp2
    go_ret
    exact ⟨rfl, hb1⟩
end Go.Proofs.YtjdhjnciokhbkaaGreatDoor
