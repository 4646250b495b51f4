/-
  PROVED: timetablelaw05.WeeksetUnites returns true for every three numbers. Conditions: the listed package-level variables hold what the program's text lays (tied by the card).
-/
import Derived.Test.YtdnmmkbknicdcaaDoorRow
import Derived.Test.YtdnmmkbknicdcaaDoorLaw5
namespace Go.Proofs.YtdnmmkbknicdcaaDoor.lawWeeksetUnites
open Go.ChangeShapes Go.WideShapes Go.ChangeAt Go.RowKit
set_option maxRecDepth 100000

theorem reads0 (os : Os) {H : Type} (enc : TypeId × Value → H) : ∃ places, DataW.whole enc Tryd.prog ((World.laidAll Tryd.prog os Rows.weeksetUnitesRow.laid).forCall (fun _ _ => 0) ⟨#[], #[.int .i64 0, .int .i64 0, .int .i64 0], []⟩).memory Tryd.f4.params.toList Rows.weeksetUnitesSpec.vars false [.int .i64 0, .int .i64 0, .int .i64 0] 8 =
    some ([.lit (.int .i64 0), .lit (.int .i64 0), .lit (.int .i64 0)], [], places) :=
  ⟨[], by kernel_rfl⟩
theorem met0 (os : Os) : laidMet Tryd.prog Rows.weeksetUnitesRow.laid ((World.laidAll Tryd.prog os Rows.weeksetUnitesRow.laid).forCall (fun _ _ => 0) ⟨#[], #[.int .i64 0, .int .i64 0, .int .i64 0], []⟩).memory :=
  laidMet_laidAll _ (by kernel_rfl) (by kernel_rfl)
theorem shaped0 (os : Os) : ((World.laidAll Tryd.prog os Rows.weeksetUnitesRow.laid).forCall (fun _ _ => 0) ⟨#[], #[.int .i64 0, .int .i64 0, .int .i64 0], []⟩).Shaped Tryd.checked.prog :=
  World.shaped_of_ZipB (by kernel_rfl) (by kernel_rfl)
theorem ok0 (os : Os) : Input.okWideB Tryd.checked.prog ((World.laidAll Tryd.prog os Rows.weeksetUnitesRow.laid).forCall (fun _ _ => 0) ⟨#[], #[.int .i64 0, .int .i64 0, .int .i64 0], []⟩) 4 ⟨#[], #[.int .i64 0, .int .i64 0, .int .i64 0], []⟩ = true := by kernel_rfl

theorem lifted (os : Os) (started : os.Started) (H : Type) (enc : TypeId × Value → H) (F : Stop.Interp) :
    ReturnsInHanded {} Tryd.checked os 4 .any ((OpenSpec.ofChange Rows.weeksetUnitesSpec).preRow enc Tryd.prog Tryd.f4 [] false Rows.weeksetUnitesRow.laid) (((OpenSpec.ofChange Rows.weeksetUnitesSpec).at F).post enc Tryd.prog Tryd.f4 false true false false) := by
  obtain ⟨places, hx⟩ := reads0 os enc
  refine law_lifted (c := Rows.weeksetUnitesSpec) started rfl rfl rfl (by kernel_rfl) Tryd.func4 (by kernel_rfl) ?_ ?_ ?_ ?_
  · have hall : (Tryd.f4.params.toList.all fun t => Tryd.prog.readableRec t && decide (t < Tryd.prog.types.size)) = true := by kernel_rfl
    intro t ht
    have := List.all_eq_true.1 hall t ht
    simpa using this
  · intro ds hd
    rw [Tryd.params4] at hd
    match ds, hd with
    | [d1, d2, d3], _ => exact ⟨rfl, rfl, rfl⟩
  · exact ⟨World.laidAll Tryd.prog os Rows.weeksetUnitesRow.laid, fun _ _ => 0, ⟨#[], #[.int .i64 0, .int .i64 0, .int .i64 0], []⟩, World.laidAll_os _ _ _, shaped0 os, (Input.okWide_of_okWideB (base := 0) (ok0 os)).1, (Input.okWide_of_okWideB (ok0 os)).2,
      OpenSpec.preRow_of_cond 8 hx (by kernel_rfl) (fun k hk => by cases hk) (by kernel_rfl) (met0 os), by
        simp only [Assume.holds]
        exact ⟨by simp, by simp, (fun h => by cases h), by simp, by simp⟩⟩
  · intro W base args ds ps hval hA hlt _ hL hsh
    have hS : Std W := std_of hL hsh (by kernel_rfl) (by kernel_rfl) (by kernel_rfl) (by kernel_rfl)
    have hW : Wds W := wds_of hL (by kernel_rfl) (by kernel_rfl)
    rw [Tryd.params4] at hA hval
    obtain ⟨v0, v1, v2, d0, d1, d2, p0, p1, p2, rfl, rfl, rfl, h0, h1, h2⟩ := trodAll_three hA
    obtain ⟨x0, rfl, -, -, -⟩ := open_int Tryd.underlying3 (hval 0 3 v0 rfl rfl) h0
    obtain ⟨x1, rfl, -, -, -⟩ := open_int Tryd.underlying3 (hval 1 3 v1 rfl rfl) h1
    obtain ⟨x2, rfl, -, -, -⟩ := open_int Tryd.underlying3 (hval 2 3 v2 rfl rfl) h2
    exact unites_walk x0 x1 x2 W hS hW

theorem said : Rows.WeeksetUnitesSaid :=
  OpenClaim.holds_of_cond 4 Tryd.f4 rfl rfl rfl rfl rfl rfl rfl ⟨rfl, rfl, rfl, rfl, rfl⟩ rfl rfl rfl rfl rfl (by kernel_rfl) Tryd.func4 (by kernel_rfl)
    (of_decide_eq_true (by kernel_rfl)) (by unfold Func.isWrapper; first | (rw [if_pos (by decide +kernel)]; kernel_rfl) | (rw [if_neg (by decide +kernel)]; exact ⟨rfl, rfl⟩))
    (fun os started H enc _ F => by rw [OpenClaim.pre_eq_preRow]; exact lifted os started H enc F)

/-- No parameter wants a stand-in; the program's own looks are as the card says. -/
theorem plain (f : FuncId) (fn : Func) (hf : Tryd.pinned.checked.prog.funcNamed "timetable/timetablelaw05.WeeksetUnites" = some f) (hfn : Tryd.pinned.checked.prog.funcs[f]? = some fn) :
    Rows.weeksetUnitesCard.stood.looks = Tryd.pinned.checked.prog.looks [] ∧ ∀ (j : Nat) t, fn.params[j]? = some t → Tryd.pinned.checked.prog.wantsStandIn t = false := by
  obtain rfl : f = 4 := Option.some.inj ((show Tryd.prog.funcNamed "timetable/timetablelaw05.WeeksetUnites" = some 4 by kernel_rfl).symm.trans hf) |>.symm
  obtain rfl : fn = Tryd.f4 := (Option.some.inj (Tryd.func4.symm.trans hfn)).symm
  refine ⟨by kernel_rfl, fun j t ht => ?_⟩
  have hall : (Tryd.f4.params.toList.all fun u => !Tryd.prog.wantsStandIn u) = true := by kernel_rfl
  exact (show Tryd.prog.wantsStandIn t = false by simpa using List.all_eq_true.1 hall t (by simpa using Array.mem_of_getElem? ht))

theorem card : Rows.WeeksetUnitesCardSaid :=
  Claim7.holds_tied_plain_at .later [] _ _ _ _ said (fun _ h => by cases h) (by kernel_rfl) (fun _ h => by cases h) weeksetUnites_row_tie rfl ⟨rfl, rfl⟩ (by kernel_rfl) rfl plain (by kernel_rfl)
#print axioms card
end Go.Proofs.YtdnmmkbknicdcaaDoor.lawWeeksetUnites
