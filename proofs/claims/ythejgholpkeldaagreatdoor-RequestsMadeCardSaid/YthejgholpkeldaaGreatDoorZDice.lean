/- Walks of package timetablemade: the dice that make inputs out of numbers. What they give is told by its bounds alone. -/
import Derived.Test.YthejgholpkeldaaGreatDoorRows
import Derived.WalkKit
import Derived.WalkSpells
import Derived.WalkLawsBesides
import Derived.BigGuardPart
import Derived.Lib.Hide
import Derived.Laws.BitsAllLaws
import Derived.Laws.BitsLemmas
import Derived.Lib.LaidTab
import Derived.Test.YthejgholpkeldaaGreatDoorShelf
import Derived.Lib.ConvBytes
import Derived.Deep.QuietTactic
import Derived.BigQuiet
import Derived.Laws.ResultCell
import Derived.RegionTactic
import Derived.BigRegion
import Derived.Deep.RegionHeld3
import Derived.Deep.DeepCutAuto
import Derived.Test.YthejgholpkeldaaGreatDoorZEnds
namespace Go.Proofs.YthejgholpkeldaaGreatDoor
open Go.RowKit

/-- n modulo m, from 0 on; 0 if m is less than 1. -/
def modV (x m : Int) : Int := if m < 1 then 0 else if x.tmod m < 0 then x.tmod m + m else x.tmod m
theorem tmod_bd (x m : Int) (h : 1 ≤ m) : -m < x.tmod m ∧ x.tmod m < m := by
  have h1 := Int.tmod_lt_of_pos x (by omega : 0 < m)
  have h2 := Int.lt_tmod_of_pos x (by omega : 0 < m)
  omega
theorem modV_bd (x m : Int) : 0 ≤ modV x m ∧ (1 ≤ m → modV x m < m) ∧ (m < 1 → modV x m = 0) := by
  unfold modV
  by_cases h : m < 1
  · rw [if_pos h]; exact ⟨by omega, by omega, fun _ => rfl⟩
  · rw [if_neg h]
    have := tmod_bd x m (by omega)
    split <;> exact ⟨by omega, by omega, by omega⟩
set_option maxHeartbeats 400000 in
theorem mod_walk (x m : Int) (hm : m ≤ 1073741824) (w : World) :
    Calls Tryz.prog 30 #[.int .i64 x, .int .i64 m] w fun e w' => e = .returned (.int .i64 (modV x m)) ∧ w = w' := by
  by_cases h : m < 1
  · rw [show modV x m = 0 from if_pos h]
    go_enter Tryz.func30, Tryz.ntmps30
    go_wp2
    go_ret
    exact ⟨rfl, rfl⟩
  · have hb := tmod_bd x m (by omega)
    obtain ⟨h1, h2⟩ := hb
    have hv : Hid (modV x m = if x.tmod m < 0 then x.tmod m + m else x.tmod m) := if_neg h
    have hm0 : (m == 0) = false := by simp; omega
    go_enter Tryz.func30, Tryz.ntmps30
    go_wp2
    all_goals go_ret
    all_goals refine ⟨ret_int ?_, rfl⟩
    all_goals rw [hv.out]
    all_goals first | exact (if_pos ‹_›).symm | exact (if_neg (by omega)).symm

/-- Block g holds dice over numbers that lie below block B. -/
def DiceOk (B : Nat) (w : World) (g : Nat) : Prop :=
  B ≤ g ∧ ∃ (A : Option Addr) (n c k : Nat), w.heap[g]? = some (.cells #[.slice A n c, .int .i64 k] 57 (0, 0)) ∧ k ≤ n ∧ n ≤ 400 ∧
    (0 < n → ∃ b off, A = some ⟨b, off, none⟩ ∧ b < B ∧ ∀ j, j < n → ∃ x : Int, w.cell? ⟨b, off + j, none⟩ = some (.int .i64 x))
theorem DiceOk.lt {B : Nat} {w : World} {g : Nat} (h : DiceOk B w g) : g < w.heap.size := by
  obtain ⟨_, A, n, c, k, hg, _⟩ := h
  exact (Array.getElem?_eq_some_iff.1 hg).1
theorem DiceOk.later {B : Nat} {w w' : World} {g : Nat} (h : DiceOk B w g) (hb : Below w.heap.size w w') : DiceOk B w' g := by
  have hlt := h.lt
  obtain ⟨hB, A, n, c, k, hg, h1, h2, h3⟩ := h
  refine ⟨hB, A, n, c, k, (hb.block g hlt).trans hg, h1, h2, fun hn => ?_⟩
  obtain ⟨b, off, hA, hne, hc⟩ := h3 hn
  exact ⟨b, off, hA, hne, fun j hj => by obtain ⟨x, hx⟩ := hc j hj; exact ⟨x, cell_later hb hx⟩⟩
theorem DiceOk.set {B : Nat} {w : World} {g : Nat} (h : DiceOk B w g) {p : Addr} (hp : B ≤ p.block) (hne : p.block ≠ g) (u : Value) : DiceOk B (w.setCell p u) g := by
  obtain ⟨hB, A, n, c, k, hg, h1, h2, h3⟩ := h
  refine ⟨hB, A, n, c, k, (Below.heap_setCell w p u g (fun e => hne e.symm)).trans hg, h1, h2, fun hn => ?_⟩
  obtain ⟨b, off, hA, hlt, hc⟩ := h3 hn
  refine ⟨b, off, hA, hlt, fun j hj => ?_⟩
  obtain ⟨x, hx⟩ := hc j hj
  exact ⟨x, (World.cell?_setCell_other w p ⟨b, off + j, none⟩ u (fun e => by rw [e] at hp; simp at hp; omega)).trans hx⟩
theorem only_drewN {a w : World} {row : Option Nat} (h : a.grownBy w row) (n : Nat) : a.grownBy (w.drewN n) row := ⟨h.os, h.tape, h.output, h.size, h.block⟩
theorem only_alloc {a w : World} {row : Option Nat} (h : a.grownBy w row) (o : Obj) : a.grownBy (w.alloc o) row :=
  ⟨h.os, h.tape, h.output, Nat.le_trans h.size (by simp), fun i hi hne => (Below.heap_alloc w o i (Nat.lt_of_lt_of_le hi h.size)).trans (h.block i hi hne)⟩
theorem only_setCell {a w : World} {g : Nat} (h : a.grownBy w (some g)) {p : Addr} (hp : p.block = g ∨ a.heap.size ≤ p.block) (u : Value) : a.grownBy (w.setCell p u) (some g) :=
  ⟨h.os, h.tape, h.output, by simpa [World.setCell] using h.size, fun i hi hne => (Below.heap_setCell w p u i (by
    rintro rfl
    rcases hp with hp | hp
    · exact hne (by rw [hp])
    · omega)).trans (h.block i hi hne)⟩
theorem only_of_below {a w : World} (h : Below a.heap.size a w) (row : Option Nat) : a.grownBy w row := ⟨h.os, h.tape, h.output, h.size, fun i hi _ => h.block i hi⟩
/-- What throws leave: dice, and of what was there the dice alone may have turned. -/
structure Thrown (B : Nat) (w : World) (g : Nat) (w' : World) : Prop where
  lt : g < w.heap.size
  dice : DiceOk B w' g
  only : w.grownBy w' (some g)
theorem Thrown.refl {B : Nat} {w : World} {g : Nat} (h : DiceOk B w g) : Thrown B w g w := ⟨h.lt, h, World.grownBy.refl _ _⟩
theorem Thrown.size {B : Nat} {w w' : World} {g : Nat} (h : Thrown B w g w') : w.heap.size ≤ w'.heap.size := h.only.size
theorem Thrown.trans {B : Nat} {a b c : World} {g : Nat} (h : Thrown B a g b) (k : Thrown B b g c) : Thrown B a g c := ⟨h.lt, k.dice, h.only.trans k.only⟩
theorem Thrown.later {B : Nat} {a b c : World} {g : Nat} (h : Thrown B a g b) (k : Below b.heap.size b c) : Thrown B a g c := ⟨h.lt, h.dice.later k, h.only.trans (only_of_below k _)⟩
theorem Thrown.alloc {B : Nat} {a b : World} {g : Nat} (h : Thrown B a g b) (o : Obj) : Thrown B a g (b.alloc o) := h.later (ext_alloc (Below.refl _ _) o)
theorem Thrown.set {B : Nat} {a b : World} {g : Nat} (h : Thrown B a g b) {p : Addr} (hp : a.heap.size ≤ p.block) (u : Value) : Thrown B a g (b.setCell p u) :=
  ⟨h.lt, h.dice.set (by have := h.dice.1; have := h.lt; omega) (by have := h.lt; omega) u, only_setCell h.only (Or.inr hp) u⟩
theorem Thrown.below {B C : Nat} {w w' : World} {g : Nat} (h : Thrown B w g w') (hC : C ≤ g) : Below C w w' :=
  Below.grown (Below.refl _ _) h.only (by have := h.lt; omega) (fun k hk => by injection hk with hk; omega)
theorem Thrown.ext {B : Nat} {w0 w w' : World} {g : Nat} (h0 : Below w0.heap.size w0 w) (h : Thrown B w g w') (hg : w0.heap.size ≤ g) : Below w0.heap.size w0 w' :=
  h0.trans (h.below hg)
theorem Thrown.cell {B : Nat} {w w' : World} {g b o : Nat} {v : Value} (h : Thrown B w g w') (hne : b ≠ g) (hc : w.cell? ⟨b, o, none⟩ = some v) : w'.cell? ⟨b, o, none⟩ = some v := by
  have hlt := World.block_lt_of_cell? _ _ hc
  exact (World.cell?_of_block (w := w) (h.only.block b hlt (fun e => hne (by injection e)))).trans hc
theorem Thrown.box {B : Nat} {w w' : World} {g b : Nat} {x0 x1 x2 x3 : Value} (h : Thrown B w g w') (hne : b ≠ g) (hb : Box4 w b x0 x1 x2 x3) : Box4 w' b x0 x1 x2 x3 :=
  ⟨h.cell hne hb.c0, h.cell hne hb.c1, h.cell hne hb.c2, h.cell hne hb.c3⟩
theorem Thrown.std {B : Nat} {w w' : World} {g : Nat} (h : Thrown B w g w') (hS : Std w) (hg : 9 ≤ g) : Std w' := hS.below (h.below (C := 9) hg) (Nat.le_refl _)
theorem Box4.four {w : World} {g : Nat} {a b c d : Value} (h : Box4 w g a b c d) : ∀ j, j < 4 → ∃ v, w.cell? ⟨g, j, none⟩ = some v := by
  intro j hj
  match j, hj with
  | 0, _ => exact ⟨_, h.c0⟩
  | 1, _ => exact ⟨_, h.c1⟩
  | 2, _ => exact ⟨_, h.c2⟩
  | 3, _ => exact ⟨_, h.c3⟩
theorem Thrown.set4 {B : Nat} {a b : World} {g : Nat} (h : Thrown B a g b) {k : Nat} (hp : a.heap.size ≤ k) (x0 x1 x2 x3 : Value) :
    Thrown B a g ((((b.setCell ⟨k, 0, none⟩ x0).setCell ⟨k, 1, none⟩ x1).setCell ⟨k, 2, none⟩ x2).setCell ⟨k, 3, none⟩ x3) :=
  (((h.set (p := ⟨k, 0, none⟩) hp _).set (p := ⟨k, 1, none⟩) hp _).set (p := ⟨k, 2, none⟩) hp _).set (p := ⟨k, 3, none⟩) hp _
/-- No cell of block g is frozen. -/
def Free (w : World) (g : Nat) : Prop := g < w.heap.size ∧ ∀ j, w.frozen? ⟨g, j, none⟩ = false
theorem Free.new (w : World) (t : TypeId) (cs : Array Value) : Free (w.alloc (.cells cs t)) w.heap.size := ⟨by simp, fun j => by simp⟩
theorem Free.thrown {B : Nat} {w w' : World} {g b : Nat} (h : Free w b) (T : Thrown B w g w') (hne : b ≠ g) : Free w' b :=
  ⟨Nat.lt_of_lt_of_le h.1 T.size, fun j => (World.frozen?_of_block (w := w) (T.only.block b h.1 (fun e => hne (by injection e)))).trans (h.2 j)⟩
/-- A throw gives a number from 0 to m - 1 (0 if m is less than 1). -/
def Throws (B : Nat) (m : Int) (w : World) (g : Nat) (e : Ending) (w' : World) : Prop := ∃ v : Int, e = .returned (.int .i64 v) ∧ 0 ≤ v ∧ (1 ≤ m → v < m) ∧ (m < 1 → v = 0) ∧ Thrown B w g w' ∧ w'.heap.size = w.heap.size

theorem quiet_left {P : Program} {f : FuncId} {args : Array Value} {w : World} {n : Nat} {v : Value}
    (h : Calls P f args (w.drewN n) fun e w' => e = .returned v ∧ w.drewN n = w') : Calls P f args (w.drewN n) fun e w'' => e = .returned v ∧ ∃ m, w'' = w.drewN m :=
  h.mono fun _ _ ⟨he, hm⟩ => ⟨he, n, hm.symm⟩
set_option maxHeartbeats 800000 in
theorem next_walk (B g : Nat) (m : Int) (hm : m ≤ 1073741824) (w : World) (h : DiceOk B w g) :
    Calls Tryz.prog 13 #[.pointer (some ⟨g, 0, none⟩), .int .i64 m] w fun e w' => Throws B m w g e w' := by
  have hD := h
  obtain ⟨hB, A, n, c, k, hg, hk, hn, hA⟩ := h
  have c0 : w.cell? ⟨g, 0, none⟩ = some (.slice A n c) := by rw [cell_of_row w g 0 _ _ _ hg]; rfl
  have c1 : w.cell? ⟨g, 1, none⟩ = some (.int .i64 k) := by rw [cell_of_row w g 1 _ _ _ hg]; rfl
  have f1 : w.frozen? ⟨g, 1, none⟩ = false := by simp [World.frozen?, hg]
  by_cases hkn : n ≤ k
  · go_enter Tryz.func13, Tryz.ntmps13
    go_wp2_with fail
    go_quiet (fail)
    go_wp2
    go_ret
    exact ⟨0, rfl, by omega, by omega, fun _ => rfl, (Thrown.refl hD).later (ext_drewN (Below.refl _ _) _), rfl⟩
  · obtain ⟨b, off, rfl, hne, hcells⟩ := hA (by omega)
    obtain ⟨x, hx⟩ := hcells k (by omega)
    have hmd := modV_bd x m
    obtain ⟨hm1, hm2, hm3⟩ := hmd
    have hm2 := hide hm2
    have hm3 := hide hm3
    have hng : ¬ b = g := by omega
    go_enter Tryz.func13, Tryz.ntmps13
    go_wp2_with fail
    go_quiet (fail)
    go_wp2_with fail
    obtain ⟨W, hW⟩ : ∃ W, (w.drewN nq).setCell ⟨g, 1, none⟩ (.int .i64 (↑k + 1)) = W := ⟨_, rfl⟩
    have T : Thrown B w g W := by
      rw [← hW]
      refine ⟨hD.lt, ⟨hB, some ⟨b, off, none⟩, n, c, k + 1, ?_, by omega, hn, fun _ => ⟨b, off, rfl, hne, fun j hj => ?_⟩⟩, only_setCell (only_drewN (World.grownBy.refl _ _) _) (Or.inl rfl) _⟩
      · have hg' : (w.drewN nq).heap[g]? = some (.cells #[.slice (some ⟨b, off, none⟩) n c, .int .i64 k] 57 (0, 0)) := hg
        simp only [World.setCell, Array.getElem?_modify, hg']
        rfl
      · obtain ⟨y, hy⟩ := hcells j hj
        exact ⟨y, (World.cell?_setCell_other _ _ _ _ (fun e => by injection e; omega)).trans hy⟩
    have k0 : W.cell? ⟨g, 0, none⟩ = some (.slice (some ⟨b, off, none⟩) n c) := by rw [← hW]; exact (World.cell?_setCell_other _ _ _ _ (fun e => by injection e; omega)).trans c0
    have k1 : W.cell? ⟨g, 1, none⟩ = some (.int .i64 (↑k + 1)) := by rw [← hW]; exact World.cell?_setCell_same _ _ _ (h := c1)
    have k2 : W.cell? ⟨b, off + k, none⟩ = some (.int .i64 x) := by rw [← hW]; exact (World.cell?_setCell_other _ _ _ _ (fun e => by injection e; omega)).trans hx
    have hWs : W.heap.size = w.heap.size := by rw [← hW]; simp [World.setCell, World.drewN]
    rw [hW]
    clear hW c0 c1 f1 hx
    have hWs := hide hWs
    go_quiet ((go_at_call 30; exact quiet_left (mod_walk _ _ hm _)))
    go_wp2
    go_ret
    exact ⟨_, rfl, hm1, hm2.out, hm3.out, T.later (ext_drewN (Below.refl _ _) _), hWs.out⟩

/-- len(t) <= 400. -/
theorem light_walk (A : Option Addr) (n c : Nat) (w : World) :
    Calls Tryz.prog 5 #[.slice A n c] w fun e w' => e = .returned (.bool (decide (n ≤ 400))) ∧ w = w' := by
  go_enter Tryz.func5, Tryz.ntmps5
  go_wp2
  go_ret
  exact ⟨ret_bool (by rw [decide_eq_decide]; omega), rfl⟩

/-- Dice are made of numbers that came in. -/
theorem roll_walk (A : Option Addr) (n c : Nat) (w : World) :
    Calls Tryz.prog 7 #[.slice A n c] w fun e w' => e = .returned (.pointer (some ⟨w.heap.size, 0, none⟩)) ∧ w.alloc (.cells #[.slice A n c, .int .i64 0] 57) = w' := by
  go_enter Tryz.func7, Tryz.ntmps7
  go_wp2
  go_ret
  exact ⟨rfl, rfl⟩
theorem dice_new {A : Option Addr} {n c : Nat} {w : World} (hn : n ≤ 400) (hA : 0 < n → ∃ b off, A = some ⟨b, off, none⟩ ∧ ∀ j, j < n → ∃ x : Int, w.cell? ⟨b, off + j, none⟩ = some (.int .i64 x)) :
    DiceOk w.heap.size (w.alloc (.cells #[.slice A n c, .int .i64 0] 57)) w.heap.size := by
  refine ⟨Nat.le_refl _, A, n, c, 0, heap_alloc_new w _, Nat.zero_le _, hn, fun h => ?_⟩
  obtain ⟨b, off, rfl, hc⟩ := hA h
  obtain ⟨x, hx⟩ := hc 0 h
  refine ⟨b, off, rfl, World.block_lt_of_cell? _ _ hx, fun j hj => ?_⟩
  obtain ⟨y, hy⟩ := hc j hj
  exact ⟨y, cell_alloc_of hy _⟩

/-- A small valid grid. -/
def Grids (B : Nat) (w : World) (g : Nat) (e : Ending) (w' : World) : Prop :=
  ∃ d s b m : Int, e = .returned (.agg #[.int .i64 d, .int .i64 s, .int .i64 b, .int .i64 m]) ∧ (1 ≤ d ∧ d ≤ 5 ∧ 2 ≤ s ∧ s ≤ 8 ∧ 480 ≤ b ∧ b ≤ 585 ∧ 30 ≤ m ∧ m ≤ 60) ∧ Thrown B w g w'
set_option maxHeartbeats 1000000 in
theorem grid_walk (B g : Nat) (w : World) (h : DiceOk B w g) :
    Calls Tryz.prog 10 #[.pointer (some ⟨g, 0, none⟩)] w fun e w' => Grids B w g e w' := by
  have hlt := h.lt
  have hB := Box4.new w 32 (.int .i64 0) (.int .i64 0) (.int .i64 0) (.int .i64 0)
  have hF := Free.new w 32 #[.int .i64 0, .int .i64 0, .int .i64 0, .int .i64 0]
  have hT := (Thrown.refl h).alloc (.cells #[.int .i64 0, .int .i64 0, .int .i64 0, .int .i64 0] 32)
  have hne : w.heap.size ≠ g := by omega
  go_enter Tryz.func10, Tryz.ntmps10
  go_wp2_with fail
  refine (next_walk B g 5 (by omega) _ hT.dice).mono ?_
  rintro e w1 ⟨v1, rfl, p1, q1, -, T1, -⟩
  have q1 := q1 (by omega)
  have hT1 := hT.trans T1
  replace hB := T1.box hne hB
  replace hF := hF.thrown T1 hne
  go_wp2_with fail
  refine (next_walk B g 7 (by omega) _ hT1.dice).mono ?_
  rintro e w2 ⟨v2, rfl, p2, q2, -, T2, -⟩
  have q2 := q2 (by omega)
  have hT2 := hT1.trans T2
  replace hB := T2.box hne hB
  replace hF := hF.thrown T2 hne
  go_wp2_with fail
  refine (next_walk B g 8 (by omega) _ hT2.dice).mono ?_
  rintro e w3 ⟨v3, rfl, p3, q3, -, T3, -⟩
  have q3 := q3 (by omega)
  have hT3 := hT2.trans T3
  replace hB := T3.box hne hB
  replace hF := hF.thrown T3 hne
  go_wp2_with fail
  refine (next_walk B g 3 (by omega) _ hT3.dice).mono ?_
  rintro e w4 ⟨v4, rfl, p4, q4, -, T4, -⟩
  have q4 := q4 (by omega)
  have hT4 := hT3.trans T4
  replace hB := T4.box hne hB
  replace hF := hF.thrown T4 hne
  clear hT hT1 hT2 hT3 T1 T2 T3 T4
  have b0 := hB.c0
  have b1 := hB.c1
  have b2 := hB.c2
  have b3 := hB.c3
  have f0 := hF.2 0
  have f1 := hF.2 1
  have f2 := hF.2 2
  have f3 := hF.2 3
  go_wp2
  refine end_set4one rfl (Or.inl rfl) _ _ _ _ _ rfl rfl hB.four ⟨_, _, _, _, rfl, by omega, hT4.set4 (Nat.le_refl _) _ _ _ _⟩

/-- A yes or a no. -/
def Ones (B : Nat) (w : World) (g : Nat) (e : Ending) (w' : World) : Prop := ∃ b : Bool, e = .returned (.bool b) ∧ Thrown B w g w'
theorem one_walk (B g : Nat) (m : Int) (hm1 : 1 ≤ m) (hm : m ≤ 1073741824) (w : World) (h : DiceOk B w g) :
    Calls Tryz.prog 12 #[.pointer (some ⟨g, 0, none⟩), .int .i64 m] w fun e w' => Ones B w g e w' := by
  go_enter Tryz.func12, Tryz.ntmps12
  go_wp2_with fail
  refine (next_walk B g m hm _ h).mono ?_
  rintro e w1 ⟨v1, rfl, p1, q1, -, T1, -⟩
  have q1 := q1 hm1
  go_wp2
  go_ret
  exact ⟨_, rfl, T1⟩

/-- A set of weeks that is valid for n. -/
def Sets (B : Nat) (n : Nat) (w : World) (g : Nat) (e : Ending) (w' : World) : Prop := ∃ v : Int, e = .returned (.int .i64 v) ∧ 1 ≤ v ∧ v < ((2 ^ n : Nat) : Int) ∧ Thrown B w g w' ∧ w'.heap.size = w.heap.size
theorem pow_facts2 (n : Nat) (h1 : 1 ≤ n) (h : n ≤ 20) : wrap64 ((2 : Int) ^ n) = (2 : Int) ^ n ∧ wrap64 ((2 : Int) ^ n - 1) = ((2 ^ n - 1 : Nat) : Int) ∧ 2 ≤ 2 ^ n ∧ 2 ^ n ≤ 1048576 := by
  have hp := pow_small n h
  have h2 : 2 ^ 1 ≤ 2 ^ n := Nat.pow_le_pow_right (by omega) h1
  have e : ((2 : Int) ^ n) = ((2 ^ n : Nat) : Int) := by simp
  refine ⟨(wrap64_pow n h).trans e.symm, ?_, by omega, hp⟩
  rw [e]
  generalize 2 ^ n = m at hp h2
  rw [show ((m : Int) - 1) = ((m - 1 : Nat) : Int) from by omega]
  exact IntWalk.wrap64_in _ ⟨by omega, by omega⟩
theorem odd_mask (n : Nat) (h1 : 1 ≤ n) (h : n ≤ 20) : 1 ≤ 349525 &&& (2 ^ n - 1) ∧ 349525 &&& (2 ^ n - 1) < 2 ^ n := by
  have key : ∀ k : Nat, k < 21 → 1 ≤ k → 1 ≤ 349525 &&& (2 ^ k - 1) ∧ 349525 &&& (2 ^ k - 1) < 2 ^ k := by decide +kernel
  exact key n (by omega) h1
set_option maxHeartbeats 1000000 in
theorem set_walk (B g : Nat) (n : Int) (hn1 : 1 ≤ n) (hn : n ≤ 20) (w : World) (h : DiceOk B w g) :
    Calls Tryz.prog 51 #[.pointer (some ⟨g, 0, none⟩), .int .i64 n] w fun e w' => Sets B n.toNat w g e w' := by
  obtain ⟨n, rfl⟩ := Int.eq_ofNat_of_zero_le (by omega : 0 ≤ n)
  rw [Int.toNat_natCast]
  obtain ⟨e1, e2, e3, e4⟩ := pow_facts2 n (by omega) (by omega)
  go_enter Tryz.func51, Tryz.ntmps51
  go_wp2_with fail
  refine (next_walk B g 4 (by omega) _ h).mono ?_
  rintro e w1 ⟨v1, rfl, p1, q1, -, T1, s1⟩
  have q1 := q1 (by omega)
  replace s1 := hide s1
  have e2' := hide e2
  have om := odd_mask n (by omega) (by omega)
  have ea : Hid (bits .and .i64 349525 ((2 ^ n - 1 : Nat) : Int) = ((349525 &&& (2 ^ n - 1) : Nat) : Int)) := i64_and_nat 349525 (2 ^ n - 1) (by omega) (by omega)
  clear e2
  go_wp2_with fail
  · go_ret
    exact ⟨_, rfl, by rw [e2'.out]; omega, by rw [e2'.out]; omega, T1, s1.out⟩
  · go_ret
    exact ⟨_, rfl, by rw [e2'.out, ea.out]; omega, by rw [e2'.out, ea.out]; omega, T1, s1.out⟩
  · rw [e2'.out]
    refine (next_walk B g _ (by omega) _ T1.dice).mono ?_
    rintro e w2 ⟨v2, rfl, p2, q2, -, T2, s2⟩
    have q2 := q2 (by omega)
    replace s2 := hide s2
    go_wp2
    go_ret
    exact ⟨_, rfl, by omega, by omega, T1.trans T2, s2.out.trans s1.out⟩

/-- What a cell holds. -/
def cellOf (W : World) (c j : Nat) : Value := (W.cell? ⟨c, j, none⟩).getD undef
theorem cellOf_eq {W : World} {c j : Nat} {v : Value} (h : W.cell? ⟨c, j, none⟩ = some v) : W.cell? ⟨c, j, none⟩ = some (cellOf W c j) := by
  unfold cellOf; rw [h]; rfl
attribute [irreducible] cellOf
end Go.Proofs.YthejgholpkeldaaGreatDoor
