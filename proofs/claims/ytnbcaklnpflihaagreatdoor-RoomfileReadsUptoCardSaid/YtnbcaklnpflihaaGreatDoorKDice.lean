/- Walks of package timetablemade: the dice that make inputs out of numbers. What they give is told by its bounds alone. -/
import Derived.Test.YtnbcaklnpflihaaGreatDoorKEnds
import Derived.RegionTactic
import Derived.BigRegion
import Derived.Deep.RegionHeld3
import Derived.Deep.DeepCutAuto
namespace Go.Proofs.YtnbcaklnpflihaaGreatDoor
open Go.RowKit

/-- n modulo m, from 0 on; 0 if m is less than 1. -/
def modV (x m : Int) : Int := if m < 1 then 0 else if x.tmod m < 0 then x.tmod m + m else x.tmod m
theorem tmod_bd (x m : Int) (h : 1 ≤ m) : -m < x.tmod m ∧ x.tmod m < m := by
  have h1 := Int.tmod_lt_of_pos x (by omega : 0 < m)
  have h2 := Int.lt_tmod_of_pos x (by omega : 0 < m)
  omega
theorem modV_bd (x m : Int) : 0 ≤ modV x m ∧ (1 ≤ m → modV x m < m) ∧ (m < 1 → modV x m = 0) := by
  unfold modV
  by_cases h : m < 1
  · rw [if_pos h]; exact ⟨by omega, by omega, fun _ => rfl⟩
  · rw [if_neg h]
    have := tmod_bd x m (by omega)
    split <;> exact ⟨by omega, by omega, by omega⟩
theorem only_drewN {a w : World} {row : Option Nat} (h : a.grownBy w row) (n : Nat) : a.grownBy (w.drewN n) row := ⟨h.os, h.tape, h.output, h.size, h.block⟩
theorem only_alloc {a w : World} {row : Option Nat} (h : a.grownBy w row) (o : Obj) : a.grownBy (w.alloc o) row :=
  ⟨h.os, h.tape, h.output, Nat.le_trans h.size (by simp), fun i hi hne => (Below.heap_alloc w o i (Nat.lt_of_lt_of_le hi h.size)).trans (h.block i hi hne)⟩
theorem only_setCell {a w : World} {g : Nat} (h : a.grownBy w (some g)) {p : Addr} (hp : p.block = g ∨ a.heap.size ≤ p.block) (u : Value) : a.grownBy (w.setCell p u) (some g) :=
  ⟨h.os, h.tape, h.output, by simpa [World.setCell] using h.size, fun i hi hne => (Below.heap_setCell w p u i (by
    rintro rfl
    rcases hp with hp | hp
    · exact hne (by rw [hp])
    · omega)).trans (h.block i hi hne)⟩
theorem only_of_below {a w : World} (h : Below a.heap.size a w) (row : Option Nat) : a.grownBy w row := ⟨h.os, h.tape, h.output, h.size, fun i hi _ => h.block i hi⟩
theorem Box4.four {w : World} {g : Nat} {a b c d : Value} (h : Box4 w g a b c d) : ∀ j, j < 4 → ∃ v, w.cell? ⟨g, j, none⟩ = some v := by
  intro j hj
  match j, hj with
  | 0, _ => exact ⟨_, h.c0⟩
  | 1, _ => exact ⟨_, h.c1⟩
  | 2, _ => exact ⟨_, h.c2⟩
  | 3, _ => exact ⟨_, h.c3⟩
/-- No cell of block g is frozen. -/
def Free (w : World) (g : Nat) : Prop := g < w.heap.size ∧ ∀ j, w.frozen? ⟨g, j, none⟩ = false
theorem Free.new (w : World) (t : TypeId) (cs : Array Value) : Free (w.alloc (.cells cs t)) w.heap.size := ⟨by simp, fun j => by simp⟩
theorem Free.later {w w' : World} {g : Nat} (h : Free w g) (hb : Below w.heap.size w w') : Free w' g := ⟨Nat.lt_of_lt_of_le h.1 hb.size, fun j => (hb.frozen (p := ⟨g, j, none⟩) h.1).trans (h.2 j)⟩
theorem quiet_left {P : Program} {f : FuncId} {args : Array Value} {w : World} {n : Nat} {v : Value}
    (h : Calls P f args (w.drewN n) fun e w' => e = .returned v ∧ w.drewN n = w') : Calls P f args (w.drewN n) fun e w'' => e = .returned v ∧ ∃ m, w'' = w.drewN m :=
  h.mono fun _ _ ⟨he, hm⟩ => ⟨he, n, hm.symm⟩
theorem pow_facts2 (n : Nat) (h1 : 1 ≤ n) (h : n ≤ 20) : wrap64 ((2 : Int) ^ n) = (2 : Int) ^ n ∧ wrap64 ((2 : Int) ^ n - 1) = ((2 ^ n - 1 : Nat) : Int) ∧ 2 ≤ 2 ^ n ∧ 2 ^ n ≤ 1048576 := by
  have hp := pow_small n h
  have h2 : 2 ^ 1 ≤ 2 ^ n := Nat.pow_le_pow_right (by omega) h1
  have e : ((2 : Int) ^ n) = ((2 ^ n : Nat) : Int) := by simp
  refine ⟨(wrap64_pow n h).trans e.symm, ?_, by omega, hp⟩
  rw [e]
  generalize 2 ^ n = m at hp h2
  rw [show ((m : Int) - 1) = ((m - 1 : Nat) : Int) from by omega]
  exact IntWalk.wrap64_in _ ⟨by omega, by omega⟩
theorem odd_mask (n : Nat) (h1 : 1 ≤ n) (h : n ≤ 20) : 1 ≤ 349525 &&& (2 ^ n - 1) ∧ 349525 &&& (2 ^ n - 1) < 2 ^ n := by
  have key : ∀ k : Nat, k < 21 → 1 ≤ k → 1 ≤ 349525 &&& (2 ^ k - 1) ∧ 349525 &&& (2 ^ k - 1) < 2 ^ k := by decide +kernel
  exact key n (by omega) h1
/-- The blocks from K on are open boxes of four cells. -/
def Boxes (K : Nat) (W : World) : Prop := ∀ c, K ≤ c → c < W.heap.size → (∀ j, j < 4 → ∃ v, W.cell? ⟨c, j, none⟩ = some v) ∧ ∀ j, W.frozen? ⟨c, j, none⟩ = false
theorem Boxes.alloc {K : Nat} {W : World} (h : Boxes K W) (x0 x1 x2 x3 : Value) (t : TypeId) : Boxes K (W.alloc (.cells #[x0, x1, x2, x3] t)) := by
  intro c h1 h2
  have hN := Box4.new W t x0 x1 x2 x3
  have hF := Free.new W t #[x0, x1, x2, x3]
  have hb : Below W.heap.size W (W.alloc (.cells #[x0, x1, x2, x3] t)) := ext_alloc (Below.refl _ _) _
  rw [World.size_alloc] at h2
  by_cases e : c = W.heap.size
  · subst e; exact ⟨hN.four, hF.2⟩
  · refine ⟨fun j hj => ?_, fun j => (hb.frozen (p := ⟨c, j, none⟩) (by show c < W.heap.size; omega)).trans ((h c h1 (by omega)).2 j)⟩
    obtain ⟨v, hv⟩ := (h c h1 (by omega)).1 j hj
    exact ⟨v, cell_later hb hv⟩
theorem Boxes.set {K : Nat} {W : World} (h : Boxes K W) (p : Addr) (u : Value) : Boxes K (W.setCell p u) := by
  intro c h1 h2
  have hs : (W.setCell p u).heap.size = W.heap.size := by simp [World.setCell]
  refine ⟨fun j hj => ?_, fun j => ?_⟩
  · obtain ⟨v, hv⟩ := (h c h1 (by omega)).1 j hj
    exact cell?_setCell_some hv
  · rw [World.frozen?_setCell]; exact (h c h1 (by omega)).2 j
theorem Boxes.none {W W' : World} (h : W'.heap.size = W.heap.size) : Boxes W.heap.size W' := fun c h1 h2 => by omega
/-- What a cell holds. -/
def cellOf (W : World) (c j : Nat) : Value := (W.cell? ⟨c, j, none⟩).getD undef
theorem cellOf_eq {W : World} {c j : Nat} {v : Value} (h : W.cell? ⟨c, j, none⟩ = some v) : W.cell? ⟨c, j, none⟩ = some (cellOf W c j) := by
  unfold cellOf; rw [h]; rfl
attribute [irreducible] cellOf
/-- Contracts that hand the state on. -/
def Gives (S : World → Prop) (lo hi : Int) (w : World) (e : Ending) (w' : World) : Prop := ∃ v : Int, e = .returned (.int .i64 v) ∧ lo ≤ v ∧ v < hi ∧ w'.heap.size = w.heap.size ∧ S w'
end Go.Proofs.YtnbcaklnpflihaaGreatDoor
