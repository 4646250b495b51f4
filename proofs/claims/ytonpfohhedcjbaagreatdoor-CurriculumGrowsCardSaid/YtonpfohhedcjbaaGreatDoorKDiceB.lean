/- Walks of package timetablemade, on: times. -/
import Derived.Test.YtonpfohhedcjbaaGreatDoorKDice
namespace Go.Proofs.YtonpfohhedcjbaaGreatDoor
open Go.RowKit

/-- What the first statement of Time leaves: a box with weeks, day and start. -/
def TimeCut (B : Nat) (w : World) (g k : Nat) (d s b m : Int) (n : Nat) (s7 : Value) (W : World) : Prop :=
  ∃ (c : Nat) (v1 v2 v3 : Int), s7 = .pointer (some ⟨c, 0, none⟩) ∧ k + 2 ≤ c ∧ Box4 W c (.int .i64 v1) (.int .i64 v2) (.int .i64 v3) (.int .i64 0) ∧ Free W c ∧
    (1 ≤ v1 ∧ v1 < ((2 ^ n : Nat) : Int) ∧ 0 ≤ v2 ∧ v2 < d ∧ 0 ≤ v3 ∧ v3 < s) ∧ MakingS B w g k d s b m W
theorem timeCut_alloc {B : Nat} {w : World} {g k : Nat} {d s b m : Int} {n : Nat} {W : World} {v1 v2 v3 : Int} {c : Nat} (h : MakingS B w g k d s b m W) (hc : c = W.heap.size)
    (h1 : 1 ≤ v1) (h2 : v1 < ((2 ^ n : Nat) : Int)) (h3 : 0 ≤ v2) (h4 : v2 < d) (h5 : 0 ≤ v3) (h6 : v3 < s) :
    TimeCut B w g k d s b m n (.pointer (some ⟨c, 0, none⟩)) (W.alloc (.cells #[.int .i64 v1, .int .i64 v2, .int .i64 v3, .int .i64 0] 232)) := by
  subst hc
  exact ⟨_, v1, v2, v3, rfl, h.big, Box4.new _ _ _ _ _ _, Free.new _ _ _, ⟨h1, h2, h3, h4, h5, h6⟩, h.alloc _ _ _ _⟩
theorem timeCut_set {B : Nat} {w : World} {g k : Nat} {d s b m : Int} {n : Nat} {W : World} {v1 v2 v3 : Int} {c : Nat} (h : MakingS B w g k d s b m W) (hw : w.heap.size ≤ k) (hc : k + 2 ≤ c) (hlt : c < W.heap.size)
    (h1 : 1 ≤ v1) (h2 : v1 < ((2 ^ n : Nat) : Int)) (h3 : 0 ≤ v2) (h4 : v2 < d) (h5 : 0 ≤ v3) (h6 : v3 < s) :
    TimeCut B w g k d s b m n (.pointer (some ⟨c, 0, none⟩)) ((((W.setCell ⟨c, 0, none⟩ (.int .i64 v1)).setCell ⟨c, 1, none⟩ (.int .i64 v2)).setCell ⟨c, 2, none⟩ (.int .i64 v3)).setCell ⟨c, 3, none⟩ (.int .i64 0)) := by
  have hB := h.boxes c hc hlt
  have hS := MakingS.set4 h hw hc (.int .i64 v1) (.int .i64 v2) (.int .i64 v3) (.int .i64 0)
  obtain ⟨q0, q1, q2, q3⟩ := set4_cells W c (.int .i64 v1) (.int .i64 v2) (.int .i64 v3) (.int .i64 0) hB.1 _ rfl
  have hlt' : c < ((((W.setCell ⟨c, 0, none⟩ (.int .i64 v1)).setCell ⟨c, 1, none⟩ (.int .i64 v2)).setCell ⟨c, 2, none⟩ (.int .i64 v3)).setCell ⟨c, 3, none⟩ (.int .i64 0)).heap.size := World.block_lt_of_cell? _ _ q0
  exact ⟨c, v1, v2, v3, rfl, hc, ⟨q0, q1, q2, q3⟩, ⟨hlt', (hS.boxes c hc hlt').2⟩, ⟨h1, h2, h3, h4, h5, h6⟩, hS⟩
end Go.Proofs.YtonpfohhedcjbaaGreatDoor
