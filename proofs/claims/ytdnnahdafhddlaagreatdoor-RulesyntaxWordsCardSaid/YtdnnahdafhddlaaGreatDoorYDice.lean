/- Walks of package timetablemade: the dice that make inputs out of numbers. What they give is told by its bounds alone. -/
import Derived.Deep.RegionHeld3
import Derived.Test.YtdnnahdafhddlaaGreatDoorYEnds
namespace Go.Proofs.YtdnnahdafhddlaaGreatDoor
open Go.RowKit

/-- n modulo m, from 0 on; 0 if m is less than 1. -/
def modV (x m : Int) : Int := if m < 1 then 0 else if x.tmod m < 0 then x.tmod m + m else x.tmod m
theorem tmod_bd (x m : Int) (h : 1 ≤ m) : -m < x.tmod m ∧ x.tmod m < m := by
  have h1 := Int.tmod_lt_of_pos x (by omega : 0 < m)
  have h2 := Int.lt_tmod_of_pos x (by omega : 0 < m)
  omega
theorem modV_bd (x m : Int) : 0 ≤ modV x m ∧ (1 ≤ m → modV x m < m) ∧ (m < 1 → modV x m = 0) := by
  unfold modV
  by_cases h : m < 1
  · rw [if_pos h]; exact ⟨by omega, by omega, fun _ => rfl⟩
  · rw [if_neg h]
    have := tmod_bd x m (by omega)
    split <;> exact ⟨by omega, by omega, by omega⟩
set_option maxHeartbeats 400000 in
theorem mod_walk (x m : Int) (hm : m ≤ 1073741824) (w : World) :
    Calls Tryz.prog 24 #[.int .i64 x, .int .i64 m] w fun e w' => e = .returned (.int .i64 (modV x m)) ∧ w = w' := by
  by_cases h : m < 1
  · rw [show modV x m = 0 from if_pos h]
    go_enter Tryz.func24, Tryz.ntmps24
    go_wp2
    go_ret
    exact ⟨rfl, rfl⟩
  · have hb := tmod_bd x m (by omega)
    obtain ⟨h1, h2⟩ := hb
    have hv : Hid (modV x m = if x.tmod m < 0 then x.tmod m + m else x.tmod m) := if_neg h
    have hm0 : (m == 0) = false := by simp; omega
    go_enter Tryz.func24, Tryz.ntmps24
    go_wp2
    all_goals go_ret
    all_goals refine ⟨ret_int ?_, rfl⟩
    all_goals rw [hv.out]
    all_goals first | exact (if_pos ‹_›).symm | exact (if_neg (by omega)).symm

/-- Block g holds dice over numbers that lie below block B. -/
def DiceOk (B : Nat) (w : World) (g : Nat) : Prop :=
  B ≤ g ∧ ∃ (A : Option Addr) (n c k : Nat), w.heap[g]? = some (.cells #[.slice A n c, .int .i64 k] 58 (0, 0)) ∧ k ≤ n ∧ n ≤ 400 ∧
    (0 < n → ∃ b off, A = some ⟨b, off, none⟩ ∧ b < B ∧ ∀ j, j < n → ∃ x : Int, w.cell? ⟨b, off + j, none⟩ = some (.int .i64 x))
theorem DiceOk.lt {B : Nat} {w : World} {g : Nat} (h : DiceOk B w g) : g < w.heap.size := by
  obtain ⟨_, A, n, c, k, hg, _⟩ := h
  exact (Array.getElem?_eq_some_iff.1 hg).1
theorem DiceOk.later {B : Nat} {w w' : World} {g : Nat} (h : DiceOk B w g) (hb : Below w.heap.size w w') : DiceOk B w' g := by
  have hlt := h.lt
  obtain ⟨hB, A, n, c, k, hg, h1, h2, h3⟩ := h
  refine ⟨hB, A, n, c, k, (hb.block g hlt).trans hg, h1, h2, fun hn => ?_⟩
  obtain ⟨b, off, hA, hne, hc⟩ := h3 hn
  exact ⟨b, off, hA, hne, fun j hj => by obtain ⟨x, hx⟩ := hc j hj; exact ⟨x, cell_later hb hx⟩⟩
theorem only_drewN {a w : World} {row : Option Nat} (h : a.grownBy w row) (n : Nat) : a.grownBy (w.drewN n) row := ⟨h.os, h.tape, h.output, h.size, h.block⟩
theorem only_setCell {a w : World} {g : Nat} (h : a.grownBy w (some g)) {p : Addr} (hp : p.block = g ∨ a.heap.size ≤ p.block) (u : Value) : a.grownBy (w.setCell p u) (some g) :=
  ⟨h.os, h.tape, h.output, by simpa [World.setCell] using h.size, fun i hi hne => (Below.heap_setCell w p u i (by
    rintro rfl
    rcases hp with hp | hp
    · exact hne (by rw [hp])
    · omega)).trans (h.block i hi hne)⟩
theorem only_of_below {a w : World} (h : Below a.heap.size a w) (row : Option Nat) : a.grownBy w row := ⟨h.os, h.tape, h.output, h.size, fun i hi _ => h.block i hi⟩
/-- What throws leave: dice, and of what was there the dice alone may have turned. -/
structure Thrown (B : Nat) (w : World) (g : Nat) (w' : World) : Prop where
  lt : g < w.heap.size
  dice : DiceOk B w' g
  only : w.grownBy w' (some g)
theorem Thrown.refl {B : Nat} {w : World} {g : Nat} (h : DiceOk B w g) : Thrown B w g w := ⟨h.lt, h, World.grownBy.refl _ _⟩
theorem Thrown.later {B : Nat} {a b c : World} {g : Nat} (h : Thrown B a g b) (k : Below b.heap.size b c) : Thrown B a g c := ⟨h.lt, h.dice.later k, h.only.trans (only_of_below k _)⟩
theorem Thrown.below {B C : Nat} {w w' : World} {g : Nat} (h : Thrown B w g w') (hC : C ≤ g) : Below C w w' :=
  Below.grown (Below.refl _ _) h.only (by have := h.lt; omega) (fun k hk => by injection hk with hk; omega)
theorem Thrown.ext {B : Nat} {w0 w w' : World} {g : Nat} (h0 : Below w0.heap.size w0 w) (h : Thrown B w g w') (hg : w0.heap.size ≤ g) : Below w0.heap.size w0 w' :=
  h0.trans (h.below hg)
theorem Thrown.std {B : Nat} {w w' : World} {g : Nat} (h : Thrown B w g w') (hS : Std w) (hg : 12 ≤ g) : Std w' := hS.below (h.below (C := 12) hg) (Nat.le_refl _)
/-- A throw gives a number from 0 to m - 1 (0 if m is less than 1). -/
def Throws (B : Nat) (m : Int) (w : World) (g : Nat) (e : Ending) (w' : World) : Prop := ∃ v : Int, e = .returned (.int .i64 v) ∧ 0 ≤ v ∧ (1 ≤ m → v < m) ∧ (m < 1 → v = 0) ∧ Thrown B w g w' ∧ w'.heap.size = w.heap.size

theorem quiet_left {P : Program} {f : FuncId} {args : Array Value} {w : World} {n : Nat} {v : Value}
    (h : Calls P f args (w.drewN n) fun e w' => e = .returned v ∧ w.drewN n = w') : Calls P f args (w.drewN n) fun e w'' => e = .returned v ∧ ∃ m, w'' = w.drewN m :=
  h.mono fun _ _ ⟨he, hm⟩ => ⟨he, n, hm.symm⟩
set_option maxHeartbeats 800000 in
theorem next_walk (B g : Nat) (m : Int) (hm : m ≤ 1073741824) (w : World) (h : DiceOk B w g) :
    Calls Tryz.prog 11 #[.pointer (some ⟨g, 0, none⟩), .int .i64 m] w fun e w' => Throws B m w g e w' := by
  have hD := h
  obtain ⟨hB, A, n, c, k, hg, hk, hn, hA⟩ := h
  have c0 : w.cell? ⟨g, 0, none⟩ = some (.slice A n c) := by rw [cell_of_row w g 0 _ _ _ hg]; rfl
  have c1 : w.cell? ⟨g, 1, none⟩ = some (.int .i64 k) := by rw [cell_of_row w g 1 _ _ _ hg]; rfl
  have f1 : w.frozen? ⟨g, 1, none⟩ = false := by simp [World.frozen?, hg]
  by_cases hkn : n ≤ k
  · go_enter Tryz.func11, Tryz.ntmps11
    go_wp2_with fail
    go_quiet (fail)
    go_wp2
    go_ret
    exact ⟨0, rfl, by omega, by omega, fun _ => rfl, (Thrown.refl hD).later (ext_drewN (Below.refl _ _) _), rfl⟩
  · obtain ⟨b, off, rfl, hne, hcells⟩ := hA (by omega)
    obtain ⟨x, hx⟩ := hcells k (by omega)
    have hmd := modV_bd x m
    obtain ⟨hm1, hm2, hm3⟩ := hmd
    have hm2 := hide hm2
    have hm3 := hide hm3
    have hng : ¬ b = g := by omega
    go_enter Tryz.func11, Tryz.ntmps11
    go_wp2_with fail
    go_quiet (fail)
    go_wp2_with fail
    obtain ⟨W, hW⟩ : ∃ W, (w.drewN nq).setCell ⟨g, 1, none⟩ (.int .i64 (↑k + 1)) = W := ⟨_, rfl⟩
    have T : Thrown B w g W := by
      rw [← hW]
      refine ⟨hD.lt, ⟨hB, some ⟨b, off, none⟩, n, c, k + 1, ?_, by omega, hn, fun _ => ⟨b, off, rfl, hne, fun j hj => ?_⟩⟩, only_setCell (only_drewN (World.grownBy.refl _ _) _) (Or.inl rfl) _⟩
      · have hg' : (w.drewN nq).heap[g]? = some (.cells #[.slice (some ⟨b, off, none⟩) n c, .int .i64 k] 58 (0, 0)) := hg
        simp only [World.setCell, Array.getElem?_modify, hg']
        rfl
      · obtain ⟨y, hy⟩ := hcells j hj
        exact ⟨y, (World.cell?_setCell_other _ _ _ _ (fun e => by injection e; omega)).trans hy⟩
    have k0 : W.cell? ⟨g, 0, none⟩ = some (.slice (some ⟨b, off, none⟩) n c) := by rw [← hW]; exact (World.cell?_setCell_other _ _ _ _ (fun e => by injection e; omega)).trans c0
    have k1 : W.cell? ⟨g, 1, none⟩ = some (.int .i64 (↑k + 1)) := by rw [← hW]; exact World.cell?_setCell_same _ _ _ (h := c1)
    have k2 : W.cell? ⟨b, off + k, none⟩ = some (.int .i64 x) := by rw [← hW]; exact (World.cell?_setCell_other _ _ _ _ (fun e => by injection e; omega)).trans hx
    have hWs : W.heap.size = w.heap.size := by rw [← hW]; simp [World.setCell, World.drewN]
    rw [hW]
    clear hW c0 c1 f1 hx
    have hWs := hide hWs
    go_quiet ((go_at_call 24; exact quiet_left (mod_walk _ _ hm _)))
    go_wp2
    go_ret
    exact ⟨_, rfl, hm1, hm2.out, hm3.out, T.later (ext_drewN (Below.refl _ _) _), hWs.out⟩

/-- len(t) <= 400. -/
theorem light_walk (A : Option Addr) (n c : Nat) (w : World) :
    Calls Tryz.prog 9 #[.slice A n c] w fun e w' => e = .returned (.bool (decide (n ≤ 400))) ∧ w = w' := by
  go_enter Tryz.func9, Tryz.ntmps9
  go_wp2
  go_ret
  exact ⟨ret_bool (by rw [decide_eq_decide]; omega), rfl⟩

/-- Dice are made of numbers that came in. -/
theorem roll_walk (A : Option Addr) (n c : Nat) (w : World) :
    Calls Tryz.prog 10 #[.slice A n c] w fun e w' => e = .returned (.pointer (some ⟨w.heap.size, 0, none⟩)) ∧ w.alloc (.cells #[.slice A n c, .int .i64 0] 58) = w' := by
  go_enter Tryz.func10, Tryz.ntmps10
  go_wp2
  go_ret
  exact ⟨rfl, rfl⟩
theorem dice_new {A : Option Addr} {n c : Nat} {w : World} (hn : n ≤ 400) (hA : 0 < n → ∃ b off, A = some ⟨b, off, none⟩ ∧ ∀ j, j < n → ∃ x : Int, w.cell? ⟨b, off + j, none⟩ = some (.int .i64 x)) :
    DiceOk w.heap.size (w.alloc (.cells #[.slice A n c, .int .i64 0] 58)) w.heap.size := by
  refine ⟨Nat.le_refl _, A, n, c, 0, heap_alloc_new w _, Nat.zero_le _, hn, fun h => ?_⟩
  obtain ⟨b, off, rfl, hc⟩ := hA h
  obtain ⟨x, hx⟩ := hc 0 h
  refine ⟨b, off, rfl, World.block_lt_of_cell? _ _ hx, fun j hj => ?_⟩
  obtain ⟨y, hy⟩ := hc j hj
  exact ⟨y, cell_alloc_of hy _⟩

/-- A yes or a no. -/
def Ones (B : Nat) (w : World) (g : Nat) (e : Ending) (w' : World) : Prop := ∃ b : Bool, e = .returned (.bool b) ∧ Thrown B w g w'
theorem one_walk (B g : Nat) (m : Int) (hm1 : 1 ≤ m) (hm : m ≤ 1073741824) (w : World) (h : DiceOk B w g) :
    Calls Tryz.prog 12 #[.pointer (some ⟨g, 0, none⟩), .int .i64 m] w fun e w' => Ones B w g e w' := by
  go_enter Tryz.func12, Tryz.ntmps12
  go_wp2_with fail
  refine (next_walk B g m hm _ h).mono ?_
  rintro e w1 ⟨v1, rfl, p1, q1, -, T1, -⟩
  have q1 := q1 hm1
  go_wp2
  go_ret
  exact ⟨_, rfl, T1⟩

end Go.Proofs.YtdnnahdafhddlaaGreatDoor
