/- The statement WeeksetExact: its walk. Conditions: texts shorter than 2^30 bytes; what the program's variables hold. -/
import Derived.Test.YtdnmmkbknicdcaaDoorLaw5
namespace Go.Proofs.YtdnmmkbknicdcaaDoor
open Go.RowKit
set_option maxRecDepth 100000

set_option maxHeartbeats 4000000 in
theorem exact_walk (set n : Int) (s : ByteArray) (hs : s.size < 1073741824) (w : World) (hS : Std w) (hW : Wds w) :
    Calls Tryd.prog 7 #[.int .i64 set, .int .i64 n, .string s] w fun e w' => e = .returned (.bool true) ∧ Below w.heap.size w w' := by
  have h1 := hide (wsParse_walk s n hs w hS)
  have h2 : Hid (∀ w, Std w → Wds w → _) := fun w hS hW => r5Parse_walk s n hs w hS hW
  have h3 := hide (wsFormat_walk set n)
  have h4 : Hid (∀ w, Wds w → _) := fun w hW => r5Format_walk set n w hW
  obtain ⟨p1, hp1⟩ : ∃ p, (parseV s n).1 = p := ⟨_, rfl⟩
  obtain ⟨p2, hp2⟩ : ∃ p, (parseV s n).2 = p := ⟨_, rfl⟩
  obtain ⟨f1, hf1⟩ : ∃ p, (fmtV set n).1 = p := ⟨_, rfl⟩
  obtain ⟨f2, hf2⟩ : ∃ p, (fmtV set n).2 = p := ⟨_, rfl⟩
  have g1 := h1.out
  have g2 := fun w hS hW => h2.out w hS hW
  have g3 := fun w => h3.out w
  have g4 := fun w hW => h4.out w hW
  simp only [hp1, hp2] at g1 g2
  simp only [hf1, hf2] at g3 g4
  clear h1 h2 h3 h4 hp1 hp2 hf1 hf2
  replace g1 := hide g1
  replace g2 := hide g2
  replace g3 := hide g3
  replace g4 := hide g4
  go_enter Tryd.func7, Tryd.ntmps7
  go_wp2_with fail
  refine g1.out.mono ?_
  rintro e w1 ⟨rfl, hb1⟩
  have hS1 := hS.after hb1
  have hW1 := hW.after hb1 hS
  go_wp2_with fail
  refine (g2.out _ hS1 hW1).mono ?_
  rintro e w2 ⟨rfl, hb2⟩
  have hS2 := hS1.after hb2
  have hW2 := hW1.after hb2 hS1
  go_wp2_with fail
  refine (g3.out _).mono ?_
  rintro e w3 ⟨rfl, hb3⟩
  have hS3 := hS2.after hb3
  have hW3 := hW2.after hb3 hS2
  go_wp2_with fail
  refine (g4.out _ hW3).mono ?_
  rintro e w4 ⟨rfl, hb4⟩
  have hS4 := hS3.after hb4
  have hb := ext_trans (ext_trans (ext_trans hb1 hb2) hb3) hb4
  clear hb1 hb2 hb3 hb4 hS1 hS2 hS3 hW1 hW2 hW3
  go_wp2_with fail
  refine (awake05_walk _ hS4).mono ?_
  rintro e w5 ⟨rfl, hb5⟩
  replace hb := ext_trans hb hb5
  clear hb5
  go_wp2_with (first | (go_at_call 40; refine (wsValid_walk _ _ _).mono ?_; rintro e w3 ⟨rfl, rfl⟩) | (go_at_call 41; refine (r5Valid_walk _ _ _).mono ?_; rintro e w3 ⟨rfl, rfl⟩))
  refine (wsWeeks_walk _ _).mono ?_
  rintro e w6 ⟨v, rfl, hv, hb6⟩
  replace hb := ext_trans hb hb6
  go_wp2_with fail
  refine (r5Weeks_walk _ _).mono ?_
  rintro e w7 ⟨v', rfl, hv', hb7⟩
  replace hb := ext_trans hb hb7
  replace hv := hv.later hb7
  have hl : (weeksI set).length ≤ 1000 := by
    unfold weeksI
    split
    · have := weeksL_len set.toNat 20; omega
    · exact Nat.zero_le _
  replace hl := hide hl
  go_wp2_with fail
  refine (sameInts_walk _ _ (weeksI set) hl.out _ _ _ hv hv').mono ?_
  rintro e w8 ⟨rfl, hb8⟩
  replace hb := ext_trans hb hb8
  go_wp2
  go_ret
  exact ⟨ret_bool (by simp), hb⟩
end Go.Proofs.YtdnmmkbknicdcaaDoor
