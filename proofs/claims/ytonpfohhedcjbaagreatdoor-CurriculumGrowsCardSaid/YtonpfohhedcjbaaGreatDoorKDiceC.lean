/- Walks of package timetablemade, on: odd times and odd grids: what they give is of no interest but for its shape. -/
import Derived.Test.YtonpfohhedcjbaaGreatDoorKDice
namespace Go.Proofs.YtonpfohhedcjbaaGreatDoor
open Go.RowKit

/-- Four numbers, whatever they are. -/
def Fours (B : Nat) (w : World) (g : Nat) (e : Ending) (w' : World) : Prop :=
  ∃ a b c d : Int, e = .returned (.agg #[.int .i64 a, .int .i64 b, .int .i64 c, .int .i64 d]) ∧ Thrown B w g w'
structure Odd (B : Nat) (w : World) (g k : Nat) (a b c d : Int) (W : World) : Prop where
  thrown : Thrown B w g W
  arg : Box4 W k (.int .i64 a) (.int .i64 b) (.int .i64 c) (.int .i64 d)
  argFree : Free W k
  res : Box4 W (k + 1) (.int .i64 0) (.int .i64 0) (.int .i64 0) (.int .i64 0)
  resFree : Free W (k + 1)
theorem Odd.on {B : Nat} {w : World} {g k : Nat} {a b c d : Int} {W W' : World} (h : Odd B w g k a b c d W) (hk : g < k) (T : Thrown B W g W') : Odd B w g k a b c d W' :=
  ⟨h.thrown.trans T, T.box (by omega) h.arg, h.argFree.thrown T (by omega), T.box (by omega) h.res, h.resFree.thrown T (by omega)⟩
theorem Odd.later {B : Nat} {w : World} {g k : Nat} {a b c d : Int} {W W' : World} (h : Odd B w g k a b c d W) (T : Below W.heap.size W W') : Odd B w g k a b c d W' :=
  ⟨h.thrown.later T, h.arg.later T, h.argFree.later T, h.res.later T, h.resFree.later T⟩
theorem odd_start {B : Nat} {w : World} {g : Nat} (h : DiceOk B w g) (a b c d : Int) (t u : TypeId) :
    Odd B w g w.heap.size a b c d ((w.alloc (.cells #[.int .i64 a, .int .i64 b, .int .i64 c, .int .i64 d] t)).alloc (.cells #[.int .i64 0, .int .i64 0, .int .i64 0, .int .i64 0] u)) := by
  refine ⟨((Thrown.refl h).alloc _).alloc _, (Box4.new w t _ _ _ _).later (ext_alloc (Below.refl _ _) _), (Free.new w t _).later (ext_alloc (Below.refl _ _) _), ?_, ?_⟩
  · have := Box4.new (w.alloc (.cells #[.int .i64 a, .int .i64 b, .int .i64 c, .int .i64 d] t)) u (.int .i64 0) (.int .i64 0) (.int .i64 0) (.int .i64 0)
    rwa [World.size_alloc] at this
  · have := Free.new (w.alloc (.cells #[.int .i64 a, .int .i64 b, .int .i64 c, .int .i64 d] t)) u #[.int .i64 0, .int .i64 0, .int .i64 0, .int .i64 0]
    rwa [World.size_alloc] at this

end Go.Proofs.YtonpfohhedcjbaaGreatDoor
