/- Laws that make a grid and two times: the state that they carry. Conditions: the numbers can be read; the program's variables hold what Std says. -/
import Derived.Test.YtimcdikeajbabaaGreatDoorRows
import Derived.WalkKit
import Derived.WalkSpells
import Derived.WalkLawsBesides
import Derived.BigGuardPart
import Derived.Lib.Hide
import Derived.Laws.BitsAllLaws
import Derived.Laws.BitsLemmas
import Derived.Lib.LaidTab
import Derived.Test.YtimcdikeajbabaaGreatDoorShelf
import Derived.Lib.ConvBytes
import Derived.Deep.QuietTactic
import Derived.BigQuiet
import Derived.Lib.SmallJoins
import Derived.Lib.SplitLaws
import Derived.Lib.CountLaws
import Derived.Lib.IndexMore
import Derived.Lib.Split
import Derived.Lib.Join
import Derived.Laws.ResultCell
import Derived.RegionTactic
import Derived.BigRegion
import Derived.Deep.RegionHeld3
import Derived.Deep.DeepCutAuto
import Derived.Test.YtimcdikeajbabaaGreatDoorQDiceB
namespace Go.Proofs.YtimcdikeajbabaaGreatDoor
open Go.RowKit

/-- The state of a law that makes its inputs: dice in block g, a grid in block k, boxes behind it. -/
structure MadeSt (w0 : World) (g k : Nat) (d s b m : Int) (W : World) : Prop where
  dice : DiceOk w0.heap.size W g
  grid : Box4 W k (.int .i64 d) (.int .i64 s) (.int .i64 b) (.int .i64 m)
  free : Free W k
  below : Below w0.heap.size w0 W
  std : Std W
  boxes : Boxes (k + 1) W
theorem MadeSt.on {w0 : World} {g k : Nat} {d s b m : Int} {W W' : World} (h : MadeSt w0 g k d s b m W) (hk : g < k) (hg : w0.heap.size ≤ g) (hS0 : 12 ≤ w0.heap.size) (T : Thrown w0.heap.size W g W') (hB : Boxes W.heap.size W') : MadeSt w0 g k d s b m W' :=
  ⟨T.dice, T.box (by omega) h.grid, h.free.thrown T (by omega), T.ext h.below hg, T.std h.std (by omega), h.boxes.thrown T (by omega) hB⟩
theorem MadeSt.set {w0 : World} {g k : Nat} {d s b m : Int} {W : World} (h : MadeSt w0 g k d s b m W) (hg : w0.heap.size ≤ g) (hS0 : 12 ≤ w0.heap.size) {c j : Nat} (hc : k < c) (hk : g < k) (u : Value) : MadeSt w0 g k d s b m (W.setCell ⟨c, j, none⟩ u) := by
  have ho : ∀ (x y : Nat), x < c → (W.setCell ⟨c, j, none⟩ u).cell? ⟨x, y, none⟩ = W.cell? ⟨x, y, none⟩ := fun x y hx => World.cell?_setCell_other _ _ _ _ (fun e => by injection e; omega)
  exact ⟨h.dice.set (by show w0.heap.size ≤ c; omega) (by show c ≠ g; omega) u, ⟨(ho _ _ hc).trans h.grid.c0, (ho _ _ hc).trans h.grid.c1, (ho _ _ hc).trans h.grid.c2, (ho _ _ hc).trans h.grid.c3⟩,
    ⟨by simpa [World.setCell] using h.free.1, fun y => by rw [World.frozen?_setCell]; exact h.free.2 y⟩, ext_set h.below (by show w0.heap.size ≤ c; omega) u,
    h.std.below (B := 12) (Below.setCell (Below.refl _ _) (by show 12 ≤ c; omega) u) (Nat.le_refl _), h.boxes.set _ u⟩
theorem MadeSt.later {w0 : World} {g k : Nat} {d s b m : Int} {W W' : World} (h : MadeSt w0 g k d s b m W) (hb : Below W.heap.size W W') (hB : Boxes (k + 1) W') : MadeSt w0 g k d s b m W' :=
  ⟨h.dice.later hb, h.grid.later hb, h.free.later hb, ext_trans h.below hb, h.std.after hb, hB⟩
/-- The state with the cells that a drawn region loads. -/
abbrev MadeS (w0 : World) (g k : Nat) (d s b m : Int) (W : World) : Prop :=
  W.cell? ⟨k, 0, none⟩ = some (.int .i64 d) ∧ W.cell? ⟨k, 1, none⟩ = some (.int .i64 s) ∧ W.cell? ⟨k, 2, none⟩ = some (.int .i64 b) ∧ W.cell? ⟨k, 3, none⟩ = some (.int .i64 m) ∧ k ≤ W.heap.size ∧ k + 1 ≤ W.heap.size ∧
    (∀ c, k + 1 ≤ c → c < W.heap.size → W.cell? ⟨c, 0, none⟩ = some (cellOf W c 0)) ∧ (∀ c, k + 1 ≤ c → c < W.heap.size → W.cell? ⟨c, 1, none⟩ = some (cellOf W c 1)) ∧
    (∀ c, k + 1 ≤ c → c < W.heap.size → W.cell? ⟨c, 2, none⟩ = some (cellOf W c 2)) ∧ (∀ c, k + 1 ≤ c → c < W.heap.size → W.cell? ⟨c, 3, none⟩ = some (cellOf W c 3)) ∧
    (∀ c j, k + 1 ≤ c → c < W.heap.size → W.frozen? ⟨c, j, none⟩ = false) ∧ MadeSt w0 g k d s b m W
theorem MadeSt.open {w0 : World} {g k : Nat} {d s b m : Int} {W : World} (h : MadeSt w0 g k d s b m W) : MadeS w0 g k d s b m W := by
  have hB := h.boxes
  refine ⟨h.grid.c0, h.grid.c1, h.grid.c2, h.grid.c3, Nat.le_of_lt h.free.1, h.free.1, fun c h1 h2 => ?_, fun c h1 h2 => ?_, fun c h1 h2 => ?_, fun c h1 h2 => ?_, fun c j h1 h2 => (hB c h1 h2).2 j, h⟩
  · obtain ⟨v, hv⟩ := (hB c h1 h2).1 0 (by omega); exact cellOf_eq hv
  · obtain ⟨v, hv⟩ := (hB c h1 h2).1 1 (by omega); exact cellOf_eq hv
  · obtain ⟨v, hv⟩ := (hB c h1 h2).1 2 (by omega); exact cellOf_eq hv
  · obtain ⟨v, hv⟩ := (hB c h1 h2).1 3 (by omega); exact cellOf_eq hv
theorem MadeS.st {w0 : World} {g k : Nat} {d s b m : Int} {W : World} (h : MadeS w0 g k d s b m W) : MadeSt w0 g k d s b m W := by obtain ⟨_, _, _, _, _, _, _, _, _, _, _, h⟩ := h; exact h
theorem MadeS.alloc {w0 : World} {g k : Nat} {d s b m : Int} {W : World} (h : MadeS w0 g k d s b m W) (x0 x1 x2 x3 : Value) (t : TypeId) : MadeS w0 g k d s b m (W.alloc (.cells #[x0, x1, x2, x3] t)) :=
  (h.st.later (ext_alloc (Below.refl _ _) _) (h.st.boxes.alloc _ _ _ _ _)).open
theorem MadeS.drew {w0 : World} {g k : Nat} {d s b m : Int} {W : World} (h : MadeS w0 g k d s b m W) : MadeS w0 g k d s b m W.drew := (h.st.later (ext_drew (Below.refl _ _)) h.st.boxes).open
theorem MadeS.set4 {w0 : World} {g k : Nat} {d s b m : Int} {W : World} (h : MadeS w0 g k d s b m W) (hg : w0.heap.size ≤ g) (hS0 : 12 ≤ w0.heap.size) (hk : g < k) {c : Nat} (hc : k + 1 ≤ c) (x0 x1 x2 x3 : Value) :
    MadeS w0 g k d s b m ((((W.setCell ⟨c, 0, none⟩ x0).setCell ⟨c, 1, none⟩ x1).setCell ⟨c, 2, none⟩ x2).setCell ⟨c, 3, none⟩ x3) :=
  ((((h.st.set hg hS0 hc hk x0).set hg hS0 hc hk x1).set hg hS0 hc hk x2).set hg hS0 hc hk x3).open
theorem size_drew' (w : World) : w.drew.heap.size = w.heap.size := rfl
/-- A time that fits a grid of d days and s slots, in n weeks. -/
structure TimeB (n : Nat) (d s x1 x2 x3 x4 : Int) : Prop where
  w1 : 1 ≤ x1
  w2 : x1 < ((2 ^ n : Nat) : Int)
  d1 : 0 ≤ x2
  d2 : x2 < d
  s1 : 0 ≤ x3
  l1 : 1 ≤ x4
  s2 : x3 + x4 ≤ s
/-- A time, told with what stays. -/
def TimeGives (w0 : World) (g k n : Nat) (d s b m : Int) (W : World) (e : Ending) (w' : World) : Prop :=
  ∃ x1 x2 x3 x4 : Int, e = .returned (.agg #[.int .i64 x1, .int .i64 x2, .int .i64 x3, .int .i64 x4]) ∧ TimeB n d s x1 x2 x3 x4 ∧ W.heap.size ≤ w'.heap.size ∧ (∀ c, c < W.heap.size → c < w'.heap.size) ∧ (∀ c, c < W.heap.size → c < w'.heap.size + 1) ∧ (∀ c, c < W.heap.size → c < w'.heap.size + 1 + 1) ∧ MadeS w0 g k d s b m w'
theorem time_gives {w0 : World} {g k : Nat} {d s b m n : Int} {W : World} (hd : 1 ≤ d ∧ d ≤ 1000) (hs : 1 ≤ s ∧ s ≤ 1000) (hn1 : 1 ≤ n) (hn : n ≤ 20) (hg : w0.heap.size ≤ g) (hS0 : 12 ≤ w0.heap.size) (hk : g < k) (h : MadeS w0 g k d s b m W) :
    Calls Tryz.prog 78 #[.pointer (some ⟨g, 0, none⟩), .agg #[.int .i64 d, .int .i64 s, .int .i64 b, .int .i64 m], .int .i64 n] W fun e w' => TimeGives w0 g k n.toNat d s b m W e w' :=
  (time_walk w0.heap.size g d s b m n hd hs hn1 hn W h.st.dice).mono fun e w' ⟨x1, x2, x3, x4, he, hw, hdy, hst, T, hB⟩ => ⟨x1, x2, x3, x4, he, ⟨hw.1, hw.2, hdy.1, hdy.2, hst.1, hst.2.2.1, hst.2.2.2⟩, T.size, fun c h => by have := T.size; omega, fun c h => by have := T.size; omega, fun c h => by have := T.size; omega, (h.st.on hk hg hS0 T hB).open⟩
theorem Box4.setOther {w : World} {g c : Nat} {a b x0 x1 x : Value} (h : Box4 w g a b x0 x1) (hne : g ≠ c) (j : Nat) : Box4 (w.setCell ⟨c, j, none⟩ x) g a b x0 x1 := by
  have ho : ∀ y, (w.setCell ⟨c, j, none⟩ x).cell? ⟨g, y, none⟩ = w.cell? ⟨g, y, none⟩ := fun y => World.cell?_setCell_other _ _ _ _ (fun e => hne (by injection e with e1; exact e1.symm))
  exact ⟨(ho _).trans h.c0, (ho _).trans h.c1, (ho _).trans h.c2, (ho _).trans h.c3⟩
theorem box_other {w : World} {g c : Nat} {a b x0 x1 : Value} (h : Box4 w g a b x0 x1) (hne : g ≠ c) (y0 y1 y2 y3 : Value) :
    Box4 ((((w.setCell ⟨c, 0, none⟩ y0).setCell ⟨c, 1, none⟩ y1).setCell ⟨c, 2, none⟩ y2).setCell ⟨c, 3, none⟩ y3) g a b x0 x1 :=
  (((h.setOther hne 0).setOther hne 1).setOther hne 2).setOther hne 3
theorem box_same {w : World} {c : Nat} (h : ∀ j, j < 4 → ∃ v, w.cell? ⟨c, j, none⟩ = some v) (y0 y1 y2 y3 : Value) :
    Box4 ((((w.setCell ⟨c, 0, none⟩ y0).setCell ⟨c, 1, none⟩ y1).setCell ⟨c, 2, none⟩ y2).setCell ⟨c, 3, none⟩ y3) c y0 y1 y2 y3 := by
  obtain ⟨q0, q1, q2, q3⟩ := set4_cells w c y0 y1 y2 y3 h _ rfl
  exact ⟨q0, q1, q2, q3⟩
theorem box_new {w : World} {c : Nat} (hc : c = w.heap.size) (y0 y1 y2 y3 : Value) (t : TypeId) : Box4 (w.alloc (.cells #[y0, y1, y2, y3] t)) c y0 y1 y2 y3 := by
  subst hc; exact Box4.new _ _ _ _ _ _
theorem size_set (w : World) (p : Addr) (u : Value) : (w.setCell p u).heap.size = w.heap.size := by simp [World.setCell]
theorem boxes_at {K : Nat} {W : World} (h : Boxes K W) {c : Nat} (h1 : K ≤ c) (h2 : c < W.heap.size) : ∀ j, j < 4 → ∃ v, W.cell? ⟨c, j, none⟩ = some v := (h c h1 h2).1
theorem free_set {w : World} {g : Nat} (h : Free w g) (p : Addr) (u : Value) : Free (w.setCell p u) g := ⟨by rw [size_set]; exact h.1, fun j => by rw [World.frozen?_setCell]; exact h.2 j⟩
/-- Dice, a grid, two times. -/
structure Two (w0 : World) (g k c6 c7 : Nat) (d s b m x1 x2 x3 x4 y1 y2 y3 y4 : Int) (W : World) : Prop where
  dice : DiceOk w0.heap.size W g
  grid : Box4 W k (.int .i64 d) (.int .i64 s) (.int .i64 b) (.int .i64 m)
  gfree : Free W k
  b6 : Box4 W c6 (.int .i64 x1) (.int .i64 x2) (.int .i64 x3) (.int .i64 x4)
  f6 : Free W c6
  b7 : Box4 W c7 (.int .i64 y1) (.int .i64 y2) (.int .i64 y3) (.int .i64 y4)
  f7 : Free W c7
  below : Below w0.heap.size w0 W
  std : Std W
theorem Two.on {w0 : World} {g k c6 c7 : Nat} {d s b m x1 x2 x3 x4 y1 y2 y3 y4 : Int} {W W' : World} (h : Two w0 g k c6 c7 d s b m x1 x2 x3 x4 y1 y2 y3 y4 W) (hg : w0.heap.size ≤ g) (hS0 : 12 ≤ w0.heap.size) (hk : g < k) (h6 : k < c6) (h7 : k < c7) (T : Thrown w0.heap.size W g W') : Two w0 g k c6 c7 d s b m x1 x2 x3 x4 y1 y2 y3 y4 W' :=
  ⟨T.dice, T.box (by omega) h.grid, h.gfree.thrown T (by omega), T.box (by omega) h.b6, h.f6.thrown T (by omega), T.box (by omega) h.b7, h.f7.thrown T (by omega), T.ext h.below hg, T.std h.std (by omega)⟩
theorem Two.later {w0 : World} {g k c6 c7 : Nat} {d s b m x1 x2 x3 x4 y1 y2 y3 y4 : Int} {W W' : World} (h : Two w0 g k c6 c7 d s b m x1 x2 x3 x4 y1 y2 y3 y4 W) (hb : Below W.heap.size W W') : Two w0 g k c6 c7 d s b m x1 x2 x3 x4 y1 y2 y3 y4 W' :=
  ⟨h.dice.later hb, h.grid.later hb, h.gfree.later hb, h.b6.later hb, h.f6.later hb, h.b7.later hb, h.f7.later hb, ext_trans h.below hb, h.std.after hb⟩
theorem dice_set4 {B g c : Nat} {w : World} (h : DiceOk B w g) (hB : B ≤ c) (hne : c ≠ g) (y0 y1 y2 y3 : Value) : DiceOk B ((((w.setCell ⟨c, 0, none⟩ y0).setCell ⟨c, 1, none⟩ y1).setCell ⟨c, 2, none⟩ y2).setCell ⟨c, 3, none⟩ y3) g :=
  (((h.set (p := ⟨c, 0, none⟩) hB hne _).set (p := ⟨c, 1, none⟩) hB hne _).set (p := ⟨c, 2, none⟩) hB hne _).set (p := ⟨c, 3, none⟩) hB hne _
theorem std_set4 {c : Nat} {w : World} (h : Std w) (hc : 12 ≤ c) (y0 y1 y2 y3 : Value) : Std ((((w.setCell ⟨c, 0, none⟩ y0).setCell ⟨c, 1, none⟩ y1).setCell ⟨c, 2, none⟩ y2).setCell ⟨c, 3, none⟩ y3) :=
  h.below (B := 12) (((((Below.refl _ _).setCell (p := ⟨c, 0, none⟩) hc _).setCell (p := ⟨c, 1, none⟩) hc _).setCell (p := ⟨c, 2, none⟩) hc _).setCell (p := ⟨c, 3, none⟩) hc _) (Nat.le_refl _)
theorem free_set4 {w : World} {g : Nat} (h : Free w g) (c : Nat) (y0 y1 y2 y3 : Value) : Free ((((w.setCell ⟨c, 0, none⟩ y0).setCell ⟨c, 1, none⟩ y1).setCell ⟨c, 2, none⟩ y2).setCell ⟨c, 3, none⟩ y3) g :=
  free_set (free_set (free_set (free_set h _ _) _ _) _ _) _ _
theorem Two.set6 {w0 : World} {g k c6 c7 : Nat} {d s b m x1 x2 x3 x4 y1 y2 y3 y4 : Int} {W : World} (h : Two w0 g k c6 c7 d s b m x1 x2 x3 x4 y1 y2 y3 y4 W) (hg : w0.heap.size ≤ g) (hS0 : 12 ≤ w0.heap.size) (hk : g < k) (h6 : k < c6) (h67 : c6 ≠ c7) (z1 z2 z3 z4 : Int) :
    Two w0 g k c6 c7 d s b m z1 z2 z3 z4 y1 y2 y3 y4 ((((W.setCell ⟨c6, 0, none⟩ (.int .i64 z1)).setCell ⟨c6, 1, none⟩ (.int .i64 z2)).setCell ⟨c6, 2, none⟩ (.int .i64 z3)).setCell ⟨c6, 3, none⟩ (.int .i64 z4)) :=
  ⟨dice_set4 h.dice (by omega) (by omega) _ _ _ _, box_other h.grid (by omega) _ _ _ _, free_set4 h.gfree _ _ _ _ _, box_same h.b6.four _ _ _ _, free_set4 h.f6 _ _ _ _ _, box_other h.b7 (fun e => h67 e.symm) _ _ _ _, free_set4 h.f7 _ _ _ _ _, ext_set4 h.below (by omega) _ _ _ _, std_set4 h.std (by omega) _ _ _ _⟩
theorem Two.setg {w0 : World} {g k c6 c7 : Nat} {d s b m x1 x2 x3 x4 y1 y2 y3 y4 : Int} {W : World} (h : Two w0 g k c6 c7 d s b m x1 x2 x3 x4 y1 y2 y3 y4 W) (hg : w0.heap.size ≤ g) (hS0 : 12 ≤ w0.heap.size) (hk : g < k) (h6 : k < c6) (h7 : k < c7) (z1 z2 z3 z4 : Int) :
    Two w0 g k c6 c7 z1 z2 z3 z4 x1 x2 x3 x4 y1 y2 y3 y4 ((((W.setCell ⟨k, 0, none⟩ (.int .i64 z1)).setCell ⟨k, 1, none⟩ (.int .i64 z2)).setCell ⟨k, 2, none⟩ (.int .i64 z3)).setCell ⟨k, 3, none⟩ (.int .i64 z4)) :=
  ⟨dice_set4 h.dice (by omega) (by omega) _ _ _ _, box_same h.grid.four _ _ _ _, free_set4 h.gfree _ _ _ _ _, box_other h.b6 (by omega) _ _ _ _, free_set4 h.f6 _ _ _ _ _, box_other h.b7 (by omega) _ _ _ _, free_set4 h.f7 _ _ _ _ _, ext_set4 h.below (by omega) _ _ _ _, std_set4 h.std (by omega) _ _ _ _⟩
/-- What the statement 'a, b := d.Time(g, w), d.Time(g, w)' leaves. -/
def TwoTimes (w0 : World) (g k n : Nat) (d s b m : Int) (s6 s7 : Value) (W : World) : Prop :=
  ∃ (c6 c7 : Nat) (x1 x2 x3 x4 y1 y2 y3 y4 : Int), s6 = .pointer (some ⟨c6, 0, none⟩) ∧ s7 = .pointer (some ⟨c7, 0, none⟩) ∧ (k < c6 ∧ k < c7 ∧ c6 ≠ c7) ∧ TimeB n d s x1 x2 x3 x4 ∧ TimeB n d s y1 y2 y3 y4 ∧ Two w0 g k c6 c7 d s b m x1 x2 x3 x4 y1 y2 y3 y4 W
theorem twoTimes_of {w0 : World} {g k n c6 c7 : Nat} {d s b m : Int} {W : World} (hM : MadeS w0 g k d s b m W) (h6 : k < c6) (h7 : k < c7) (h67 : c6 ≠ c7)
    (b6 : ∃ x1 x2 x3 x4, Box4 W c6 (.int .i64 x1) (.int .i64 x2) (.int .i64 x3) (.int .i64 x4) ∧ TimeB n d s x1 x2 x3 x4) (b7 : ∃ y1 y2 y3 y4, Box4 W c7 (.int .i64 y1) (.int .i64 y2) (.int .i64 y3) (.int .i64 y4) ∧ TimeB n d s y1 y2 y3 y4) :
    TwoTimes w0 g k n d s b m (.pointer (some ⟨c6, 0, none⟩)) (.pointer (some ⟨c7, 0, none⟩)) W := by
  obtain ⟨x1, x2, x3, x4, b6, hx⟩ := b6
  obtain ⟨y1, y2, y3, y4, b7, hy⟩ := b7
  exact ⟨c6, c7, x1, x2, x3, x4, y1, y2, y3, y4, rfl, rfl, ⟨h6, h7, h67⟩, hx, hy, hM.st.dice, hM.st.grid, hM.st.free, b6, ⟨b6.lt, (hM.st.boxes c6 h6 b6.lt).2⟩, b7, ⟨b7.lt, (hM.st.boxes c7 h7 b7.lt).2⟩, hM.st.below, hM.st.std⟩
theorem keepTwo {P : Program} {f : FuncId} {args : Array Value} {v : Value} {w0 : World} {g k c6 c7 : Nat} {d s b m x1 x2 x3 x4 y1 y2 y3 y4 : Int} {W : World} (h : Two w0 g k c6 c7 d s b m x1 x2 x3 x4 y1 y2 y3 y4 W) (hc : Calls P f args W fun e w' => e = .returned v ∧ Below W.heap.size W w') :
    Calls P f args W fun e w' => e = .returned v ∧ Two w0 g k c6 c7 d s b m x1 x2 x3 x4 y1 y2 y3 y4 w' :=
  hc.mono fun _ _ ⟨he, hb⟩ => ⟨he, h.later hb⟩
end Go.Proofs.YtimcdikeajbabaaGreatDoor
