/- Walks of package timetablemade, on: odd times and odd grids: what they give is of no interest but for its shape. -/
import Derived.Test.YtgoppjhjmonidaaGreatDoorKDice
namespace Go.Proofs.YtgoppjhjmonidaaGreatDoor
open Go.RowKit

/-- Four numbers, whatever they are. -/
def Fours (B : Nat) (w : World) (g : Nat) (e : Ending) (w' : World) : Prop :=
  ∃ a b c d : Int, e = .returned (.agg #[.int .i64 a, .int .i64 b, .int .i64 c, .int .i64 d]) ∧ Thrown B w g w'
structure Odd (B : Nat) (w : World) (g k : Nat) (a b c d : Int) (W : World) : Prop where
  thrown : Thrown B w g W
  arg : Box4 W k (.int .i64 a) (.int .i64 b) (.int .i64 c) (.int .i64 d)
  argFree : Free W k
  res : Box4 W (k + 1) (.int .i64 0) (.int .i64 0) (.int .i64 0) (.int .i64 0)
  resFree : Free W (k + 1)
theorem Odd.on {B : Nat} {w : World} {g k : Nat} {a b c d : Int} {W W' : World} (h : Odd B w g k a b c d W) (hk : g < k) (T : Thrown B W g W') : Odd B w g k a b c d W' :=
  ⟨h.thrown.trans T, T.box (by omega) h.arg, h.argFree.thrown T (by omega), T.box (by omega) h.res, h.resFree.thrown T (by omega)⟩
theorem Odd.later {B : Nat} {w : World} {g k : Nat} {a b c d : Int} {W W' : World} (h : Odd B w g k a b c d W) (T : Below W.heap.size W W') : Odd B w g k a b c d W' :=
  ⟨h.thrown.later T, h.arg.later T, h.argFree.later T, h.res.later T, h.resFree.later T⟩
theorem odd_start {B : Nat} {w : World} {g : Nat} (h : DiceOk B w g) (a b c d : Int) (t u : TypeId) :
    Odd B w g w.heap.size a b c d ((w.alloc (.cells #[.int .i64 a, .int .i64 b, .int .i64 c, .int .i64 d] t)).alloc (.cells #[.int .i64 0, .int .i64 0, .int .i64 0, .int .i64 0] u)) := by
  refine ⟨((Thrown.refl h).alloc _).alloc _, (Box4.new w t _ _ _ _).later (ext_alloc (Below.refl _ _) _), (Free.new w t _).later (ext_alloc (Below.refl _ _) _), ?_, ?_⟩
  · have := Box4.new (w.alloc (.cells #[.int .i64 a, .int .i64 b, .int .i64 c, .int .i64 d] t)) u (.int .i64 0) (.int .i64 0) (.int .i64 0) (.int .i64 0)
    rwa [World.size_alloc] at this
  · have := Free.new (w.alloc (.cells #[.int .i64 a, .int .i64 b, .int .i64 c, .int .i64 d] t)) u #[.int .i64 0, .int .i64 0, .int .i64 0, .int .i64 0]
    rwa [World.size_alloc] at this

set_option maxHeartbeats 4000000 in
theorem oddTime_walk (B g : Nat) (a b c d : Int) (w : World) (h : DiceOk B w g) :
    Calls Tryz.prog 68 #[.pointer (some ⟨g, 0, none⟩), .agg #[.int .i64 a, .int .i64 b, .int .i64 c, .int .i64 d]] w fun e w' => Fours B w g e w' := by
  have hlt := h.lt
  have hO := odd_start h a b c d 41 41
  go_enter Tryz.func68, Tryz.ntmps68
  go_wp2_with fail
  refine (next_walk B g 4 (by omega) _ hO.thrown.dice).mono ?_
  rintro e w1 ⟨v, rfl, p1, q1, -, T1, -⟩
  have q1 := q1 (by omega)
  replace hO := hO.on hlt T1
  clear T1
  have hw1 := hO.resFree.1
  have hne : w1.heap.size ≠ g := by omega
  have hn2 : ¬ w1.heap.size = w.heap.size := by omega
  have hn3 : ¬ w1.heap.size = w.heap.size + 1 := by omega
  have hv : v = 0 ∨ v = 1 ∨ v = 2 ∨ v = 3 := by omega
  clear p1 q1
  rcases hv with rfl | rfl | rfl | rfl
  · go_wp2_with fail
    refine (next_walk B g 4 (by omega) _ (hO.later (ext_alloc (Below.refl _ _) _)).thrown.dice).mono ?_
    rintro e w2 ⟨v, rfl, p2, q2, -, T2, -⟩
    have q2 := q2 (by omega)
    replace hO := (hO.later (ext_alloc (Below.refl _ _) _)).on hlt T2
    have e0 : w2.cell? ⟨w1.heap.size, 0, none⟩ = some (.int .i64 (0)) := T2.cell hne (by simp)
    have e1 : w2.cell? ⟨w1.heap.size, 1, none⟩ = some (.int .i64 (-1)) := T2.cell hne (by simp)
    have e2 : w2.cell? ⟨w1.heap.size, 2, none⟩ = some (.int .i64 (1048576)) := T2.cell hne (by simp)
    have e3 : w2.cell? ⟨w1.heap.size, 3, none⟩ = some (.int .i64 (1048575)) := T2.cell hne (by simp)
    clear T2
    obtain ⟨⟨a0, a1, a2, a3⟩, ⟨-, af⟩, ⟨r0, r1, r2, r3⟩, ⟨-, rf⟩⟩ : Box4 w2 w.heap.size (.int .i64 a) (.int .i64 b) (.int .i64 c) (.int .i64 d) ∧ Free w2 w.heap.size ∧ Box4 w2 (w.heap.size + 1) (.int .i64 0) (.int .i64 0) (.int .i64 0) (.int .i64 0) ∧ Free w2 (w.heap.size + 1) := ⟨hO.arg, hO.argFree, hO.res, hO.resFree⟩
    have hv : v = 0 ∨ v = 1 ∨ v = 2 ∨ v = 3 := by omega
    clear p2 q2
    rcases hv with rfl | rfl | rfl | rfl
    all_goals
      go_wp2
      refine end_set4one rfl (Or.inr rfl) _ _ _ _ _ rfl rfl (four_set hO.res.four _ _) ⟨_, _, _, _, rfl, (hO.thrown.set (p := ⟨w.heap.size, 0, none⟩) (Nat.le_refl _) _).set4 (by omega) _ _ _ _⟩
  · go_wp2_with fail
    refine (next_walk B g 3 (by omega) _ (hO.later (ext_alloc (Below.refl _ _) _)).thrown.dice).mono ?_
    rintro e w2 ⟨v, rfl, p2, q2, -, T2, -⟩
    have q2 := q2 (by omega)
    replace hO := (hO.later (ext_alloc (Below.refl _ _) _)).on hlt T2
    have e0 : w2.cell? ⟨w1.heap.size, 0, none⟩ = some (.int .i64 (-1)) := T2.cell hne (by simp)
    have e1 : w2.cell? ⟨w1.heap.size, 1, none⟩ = some (.int .i64 (6)) := T2.cell hne (by simp)
    have e2 : w2.cell? ⟨w1.heap.size, 2, none⟩ = some (.int .i64 (7)) := T2.cell hne (by simp)
    clear T2
    obtain ⟨⟨a0, a1, a2, a3⟩, ⟨-, af⟩, ⟨r0, r1, r2, r3⟩, ⟨-, rf⟩⟩ : Box4 w2 w.heap.size (.int .i64 a) (.int .i64 b) (.int .i64 c) (.int .i64 d) ∧ Free w2 w.heap.size ∧ Box4 w2 (w.heap.size + 1) (.int .i64 0) (.int .i64 0) (.int .i64 0) (.int .i64 0) ∧ Free w2 (w.heap.size + 1) := ⟨hO.arg, hO.argFree, hO.res, hO.resFree⟩
    have hv : v = 0 ∨ v = 1 ∨ v = 2 := by omega
    clear p2 q2
    rcases hv with rfl | rfl | rfl
    all_goals
      go_wp2
      refine end_set4one rfl (Or.inr rfl) _ _ _ _ _ rfl rfl (four_set hO.res.four _ _) ⟨_, _, _, _, rfl, (hO.thrown.set (p := ⟨w.heap.size, 1, none⟩) (Nat.le_refl _) _).set4 (by omega) _ _ _ _⟩
  · go_wp2_with fail
    refine (next_walk B g 4 (by omega) _ (hO.later (ext_alloc (Below.refl _ _) _)).thrown.dice).mono ?_
    rintro e w2 ⟨v, rfl, p2, q2, -, T2, -⟩
    have q2 := q2 (by omega)
    replace hO := (hO.later (ext_alloc (Below.refl _ _) _)).on hlt T2
    have e0 : w2.cell? ⟨w1.heap.size, 0, none⟩ = some (.int .i64 (-1)) := T2.cell hne (by simp)
    have e1 : w2.cell? ⟨w1.heap.size, 1, none⟩ = some (.int .i64 (23)) := T2.cell hne (by simp)
    have e2 : w2.cell? ⟨w1.heap.size, 2, none⟩ = some (.int .i64 (24)) := T2.cell hne (by simp)
    have e3 : w2.cell? ⟨w1.heap.size, 3, none⟩ = some (.int .i64 (4611686018427387904)) := T2.cell hne (by simp)
    clear T2
    obtain ⟨⟨a0, a1, a2, a3⟩, ⟨-, af⟩, ⟨r0, r1, r2, r3⟩, ⟨-, rf⟩⟩ : Box4 w2 w.heap.size (.int .i64 a) (.int .i64 b) (.int .i64 c) (.int .i64 d) ∧ Free w2 w.heap.size ∧ Box4 w2 (w.heap.size + 1) (.int .i64 0) (.int .i64 0) (.int .i64 0) (.int .i64 0) ∧ Free w2 (w.heap.size + 1) := ⟨hO.arg, hO.argFree, hO.res, hO.resFree⟩
    have hv : v = 0 ∨ v = 1 ∨ v = 2 ∨ v = 3 := by omega
    clear p2 q2
    rcases hv with rfl | rfl | rfl | rfl
    all_goals
      go_wp2
      refine end_set4one rfl (Or.inr rfl) _ _ _ _ _ rfl rfl (four_set hO.res.four _ _) ⟨_, _, _, _, rfl, (hO.thrown.set (p := ⟨w.heap.size, 2, none⟩) (Nat.le_refl _) _).set4 (by omega) _ _ _ _⟩
  · go_wp2_with fail
    refine (next_walk B g 5 (by omega) _ (hO.later (ext_alloc (Below.refl _ _) _)).thrown.dice).mono ?_
    rintro e w2 ⟨v, rfl, p2, q2, -, T2, -⟩
    have q2 := q2 (by omega)
    replace hO := (hO.later (ext_alloc (Below.refl _ _) _)).on hlt T2
    have e0 : w2.cell? ⟨w1.heap.size, 0, none⟩ = some (.int .i64 (0)) := T2.cell hne (by simp)
    have e1 : w2.cell? ⟨w1.heap.size, 1, none⟩ = some (.int .i64 (24)) := T2.cell hne (by simp)
    have e2 : w2.cell? ⟨w1.heap.size, 2, none⟩ = some (.int .i64 (25)) := T2.cell hne (by simp)
    have e3 : w2.cell? ⟨w1.heap.size, 3, none⟩ = some (.int .i64 (-1)) := T2.cell hne (by simp)
    have e4 : w2.cell? ⟨w1.heap.size, 4, none⟩ = some (.int .i64 (4611686018427387904)) := T2.cell hne (by simp)
    clear T2
    obtain ⟨⟨a0, a1, a2, a3⟩, ⟨-, af⟩, ⟨r0, r1, r2, r3⟩, ⟨-, rf⟩⟩ : Box4 w2 w.heap.size (.int .i64 a) (.int .i64 b) (.int .i64 c) (.int .i64 d) ∧ Free w2 w.heap.size ∧ Box4 w2 (w.heap.size + 1) (.int .i64 0) (.int .i64 0) (.int .i64 0) (.int .i64 0) ∧ Free w2 (w.heap.size + 1) := ⟨hO.arg, hO.argFree, hO.res, hO.resFree⟩
    have hv : v = 0 ∨ v = 1 ∨ v = 2 ∨ v = 3 ∨ v = 4 := by omega
    clear p2 q2
    rcases hv with rfl | rfl | rfl | rfl | rfl
    all_goals
      go_wp2
      refine end_set4one rfl (Or.inr rfl) _ _ _ _ _ rfl rfl (four_set hO.res.four _ _) ⟨_, _, _, _, rfl, (hO.thrown.set (p := ⟨w.heap.size, 3, none⟩) (Nat.le_refl _) _).set4 (by omega) _ _ _ _⟩
end Go.Proofs.YtgoppjhjmonidaaGreatDoor
