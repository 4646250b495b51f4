/- The statement TimegridReturns: its walk. Conditions: the numbers can be read; the program's variables hold what Std says. -/
import Derived.Test.YtgoppjhjmonidaaGreatDoorKTwo
import Derived.Test.YtgoppjhjmonidaaGreatDoorKTgK
import Derived.Test.YtgoppjhjmonidaaGreatDoorKMeets
namespace Go.Proofs.YtgoppjhjmonidaaGreatDoor
open Go.RowKit
set_option maxRecDepth 100000

theorem week_made {d s b m n : Int} (d1 : 1 ≤ d) (d2 : d ≤ 5) (s1 : 2 ≤ s) (s2 : s ≤ 8) (b1 : 480 ≤ b) (b2 : b ≤ 585) (m1 : 30 ≤ m) (m2 : m ≤ 60) (n1 : 1 ≤ n) (n2 : n ≤ 20) : weekB d s b m n = true := by
  have h1 : s * m ≤ 8 * m := Int.mul_le_mul_of_nonneg_right s2 (by omega)
  have hg : gridV d s b m = 0 := gridV_no (by omega)
  simp only [weekB, hg, decide_true, Bool.true_and, decide_eq_true_eq]
  omega
theorem fits_made {n : Nat} {d s b m x1 x2 x3 x4 : Int} (hw : weekB d s b m n = true) (h : TimeB n d s x1 x2 x3 x4) (hn1 : 1 ≤ n) (hn : n ≤ 20) (hd : d ≤ 5) (hs : s ≤ 8) : fitsV d s b m n x1 x2 x3 x4 = 0 := by
  have hsd := sound_of h hn hd hs
  have hv : validB x1 n = true := validB_iff.2 ⟨by omega, by omega, h.w1, by rw [Int.toNat_natCast]; have := h.w2; simpa using this⟩
  obtain ⟨-, -, -, d2, -, -, s3⟩ := h
  unfold fitsV
  rw [if_neg (by rw [hw]; simp), if_neg (by rw [hsd, hv]; simp; omega)]
end Go.Proofs.YtgoppjhjmonidaaGreatDoor
