/- Laws that make a grid and two times: the state that they carry. Conditions: the numbers can be read; the program's variables hold what Std says. -/
import Derived.Test.YtnbcaklnpflihaaGreatDoorKLawT
import Derived.Test.YtnbcaklnpflihaaGreatDoorKDiceB
import Derived.Test.YtnbcaklnpflihaaGreatDoorKDiceC
namespace Go.Proofs.YtnbcaklnpflihaaGreatDoor
open Go.RowKit

theorem size_drew' (w : World) : w.drew.heap.size = w.heap.size := rfl
/-- A time that fits a grid of d days and s slots, in n weeks. -/
structure TimeB (n : Nat) (d s x1 x2 x3 x4 : Int) : Prop where
  w1 : 1 ≤ x1
  w2 : x1 < ((2 ^ n : Nat) : Int)
  d1 : 0 ≤ x2
  d2 : x2 < d
  s1 : 0 ≤ x3
  l1 : 1 ≤ x4
  s2 : x3 + x4 ≤ s
theorem Box4.setOther {w : World} {g c : Nat} {a b x0 x1 x : Value} (h : Box4 w g a b x0 x1) (hne : g ≠ c) (j : Nat) : Box4 (w.setCell ⟨c, j, none⟩ x) g a b x0 x1 := by
  have ho : ∀ y, (w.setCell ⟨c, j, none⟩ x).cell? ⟨g, y, none⟩ = w.cell? ⟨g, y, none⟩ := fun y => World.cell?_setCell_other _ _ _ _ (fun e => hne (by injection e with e1; exact e1.symm))
  exact ⟨(ho _).trans h.c0, (ho _).trans h.c1, (ho _).trans h.c2, (ho _).trans h.c3⟩
theorem box_other {w : World} {g c : Nat} {a b x0 x1 : Value} (h : Box4 w g a b x0 x1) (hne : g ≠ c) (y0 y1 y2 y3 : Value) :
    Box4 ((((w.setCell ⟨c, 0, none⟩ y0).setCell ⟨c, 1, none⟩ y1).setCell ⟨c, 2, none⟩ y2).setCell ⟨c, 3, none⟩ y3) g a b x0 x1 :=
  (((h.setOther hne 0).setOther hne 1).setOther hne 2).setOther hne 3
theorem box_same {w : World} {c : Nat} (h : ∀ j, j < 4 → ∃ v, w.cell? ⟨c, j, none⟩ = some v) (y0 y1 y2 y3 : Value) :
    Box4 ((((w.setCell ⟨c, 0, none⟩ y0).setCell ⟨c, 1, none⟩ y1).setCell ⟨c, 2, none⟩ y2).setCell ⟨c, 3, none⟩ y3) c y0 y1 y2 y3 := by
  obtain ⟨q0, q1, q2, q3⟩ := set4_cells w c y0 y1 y2 y3 h _ rfl
  exact ⟨q0, q1, q2, q3⟩
theorem box_new {w : World} {c : Nat} (hc : c = w.heap.size) (y0 y1 y2 y3 : Value) (t : TypeId) : Box4 (w.alloc (.cells #[y0, y1, y2, y3] t)) c y0 y1 y2 y3 := by
  subst hc; exact Box4.new _ _ _ _ _ _
theorem size_set (w : World) (p : Addr) (u : Value) : (w.setCell p u).heap.size = w.heap.size := by simp [World.setCell]
theorem boxes_at {K : Nat} {W : World} (h : Boxes K W) {c : Nat} (h1 : K ≤ c) (h2 : c < W.heap.size) : ∀ j, j < 4 → ∃ v, W.cell? ⟨c, j, none⟩ = some v := (h c h1 h2).1
theorem free_set {w : World} {g : Nat} (h : Free w g) (p : Addr) (u : Value) : Free (w.setCell p u) g := ⟨by rw [size_set]; exact h.1, fun j => by rw [World.frozen?_setCell]; exact h.2 j⟩
theorem std_set4 {c : Nat} {w : World} (h : Std w) (hc : 10 ≤ c) (y0 y1 y2 y3 : Value) : Std ((((w.setCell ⟨c, 0, none⟩ y0).setCell ⟨c, 1, none⟩ y1).setCell ⟨c, 2, none⟩ y2).setCell ⟨c, 3, none⟩ y3) :=
  h.below (B := 10) (((((Below.refl _ _).setCell (p := ⟨c, 0, none⟩) hc _).setCell (p := ⟨c, 1, none⟩) hc _).setCell (p := ⟨c, 2, none⟩) hc _).setCell (p := ⟨c, 3, none⟩) hc _) (Nat.le_refl _)
theorem free_set4 {w : World} {g : Nat} (h : Free w g) (c : Nat) (y0 y1 y2 y3 : Value) : Free ((((w.setCell ⟨c, 0, none⟩ y0).setCell ⟨c, 1, none⟩ y1).setCell ⟨c, 2, none⟩ y2).setCell ⟨c, 3, none⟩ y3) g :=
  free_set (free_set (free_set (free_set h _ _) _ _) _ _) _ _
end Go.Proofs.YtnbcaklnpflihaaGreatDoor
