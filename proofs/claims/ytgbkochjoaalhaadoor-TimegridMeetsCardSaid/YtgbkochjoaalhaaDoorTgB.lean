/- Walks of packages timegrid and timetableref06, on: weeks, fits, between, before, clock. No condition. -/
import Derived.Test.YtgbkochjoaalhaaDoorTgA
namespace Go.Proofs.YtgbkochjoaalhaaDoor
open Go.RowKit

def weekB (d s b m n : Int) : Bool := decide (gridV d s b m = 0) && decide (1 ≤ n ∧ n ≤ 20)
theorem weekB_no {d s b m n : Int} (h : ¬ (1 ≤ n ∧ n ≤ 20)) : weekB d s b m n = false := by simp only [weekB, decide_eq_false h, Bool.and_false]
theorem weekB_no' {d s b m n : Int} (h : ¬ gridV d s b m = 0) : weekB d s b m n = false := by simp only [weekB, decide_eq_false h, Bool.false_and]
theorem weekB_dec {d s b m n : Int} {p : Prop} [Decidable p] (h : gridV d s b m = 0) (hp : p ↔ (1 ≤ n ∧ n ≤ 20)) : weekB d s b m n = decide p := by
  simp only [weekB, decide_eq_true h, Bool.true_and]; exact decide_eq_decide.2 hp.symm
theorem gridV_eq (d s b m : Int) : gridV d s b m = 0 ∨ gridV d s b m = 3 := by unfold gridV; split <;> simp
set_option maxHeartbeats 1000000 in
theorem tgWeek_walk (d s b m n : Int) (w : World) :
    Calls Tryd.prog 18 #[.agg #[.int .i64 d, .int .i64 s, .int .i64 b, .int .i64 m], .int .i64 n] w fun e w' => e = .returned (.bool (weekB d s b m n)) ∧ Below w.heap.size w w' := by
  go_enter Tryd.func18, Tryd.ntmps18
  go_wp2_with (go_at_call 24; refine (tgValid_walk _ _ _ _ _).mono ?_; rintro e w1 ⟨rfl, hb1⟩)
  all_goals go_ret
  all_goals
    refine ⟨ret_bool ?_, (by repeat (first | exact Below.refl _ _ | refine ext_alloc ?_ _ | refine ext_drewN ?_ _ | refine ext_drew ?_ | refine ext_trans ?_ (by assumption)))⟩
    first | exact (weekB_no (by omega)).symm | exact (weekB_no' (by assumption)).symm | exact (weekB_dec (by assumption) (by omega)).symm
/-- What Fits returns. -/
def fitsV (d s b m n a1 a2 a3 a4 : Int) : Int :=
  if weekB d s b m n = false then 1 else if soundB a1 a2 a3 a4 = false ∨ validB a1 n = false ∨ d ≤ a2 ∨ s < a3 + a4 then 14 else 0
end Go.Proofs.YtgbkochjoaalhaaDoor
