/- PROVED: timetablelaw09.StafffileValid returns true for every list of lecturers, grid and time: the layer's Valid, Write and Free answer as the second program's do. Conditions: the listed package-level variables hold what the program's text lays (tied by the card). -/
import Derived.Test.YtgoppjhjmonidaaGreatDoorKVars
import Derived.Test.YtgoppjhjmonidaaGreatDoorKLectK
import Derived.Test.YtgoppjhjmonidaaGreatDoorKLawV9
namespace Go.Proofs.YtgoppjhjmonidaaGreatDoor.lawStafffileValid
open Go.ChangeShapes Go.WideShapes Go.ChangeAt Go.RowKit
set_option maxRecDepth 100000

theorem list4 {xs : List Int} (h : xs.length = 4) : ∃ a b c d, xs = [a, b, c, d] := by
  match xs, h with
  | [a, b, c, d], _ => exact ⟨a, b, c, d, rfl⟩
theorem reads0 (os : Os) {H : Type} (enc : TypeId × Value → H) : ∃ places, DataW.whole enc Tryz.prog ((World.laidAll Tryz.prog os Rows.stafffileValidRow.laid).forCall (fun _ _ => 0) ⟨#[], #[.slice none 0 0, .agg #[.int .i64 0, .int .i64 0, .int .i64 0, .int .i64 0], .agg #[.int .i64 0, .int .i64 0, .int .i64 0, .int .i64 0]], []⟩).memory Tryz.f4.params.toList Rows.stafffileValidSpec.vars false [.slice none 0 0, .agg #[.int .i64 0, .int .i64 0, .int .i64 0, .int .i64 0], .agg #[.int .i64 0, .int .i64 0, .int .i64 0, .int .i64 0]] 8 =
    some ([.nil, .agg [.lit (.int .i64 0), .lit (.int .i64 0), .lit (.int .i64 0), .lit (.int .i64 0)], .agg [.lit (.int .i64 0), .lit (.int .i64 0), .lit (.int .i64 0), .lit (.int .i64 0)]], [], places) :=
  ⟨[], by kernel_rfl⟩
theorem met0 (os : Os) : laidMet Tryz.prog Rows.stafffileValidRow.laid ((World.laidAll Tryz.prog os Rows.stafffileValidRow.laid).forCall (fun _ _ => 0) ⟨#[], #[.slice none 0 0, .agg #[.int .i64 0, .int .i64 0, .int .i64 0, .int .i64 0], .agg #[.int .i64 0, .int .i64 0, .int .i64 0, .int .i64 0]], []⟩).memory :=
  laidMet_laidAll _ (by kernel_rfl) (by kernel_rfl)
theorem shaped0 (os : Os) : ((World.laidAll Tryz.prog os Rows.stafffileValidRow.laid).forCall (fun _ _ => 0) ⟨#[], #[.slice none 0 0, .agg #[.int .i64 0, .int .i64 0, .int .i64 0, .int .i64 0], .agg #[.int .i64 0, .int .i64 0, .int .i64 0, .int .i64 0]], []⟩).Shaped Tryz.checked.prog :=
  World.shaped_of_ZipB (by kernel_rfl) (by kernel_rfl)
theorem ok0 (os : Os) : Input.okWideB Tryz.checked.prog ((World.laidAll Tryz.prog os Rows.stafffileValidRow.laid).forCall (fun _ _ => 0) ⟨#[], #[.slice none 0 0, .agg #[.int .i64 0, .int .i64 0, .int .i64 0, .int .i64 0], .agg #[.int .i64 0, .int .i64 0, .int .i64 0, .int .i64 0]], []⟩) 4 ⟨#[], #[.slice none 0 0, .agg #[.int .i64 0, .int .i64 0, .int .i64 0, .int .i64 0], .agg #[.int .i64 0, .int .i64 0, .int .i64 0, .int .i64 0]], []⟩ = true := by kernel_rfl

theorem lifted (os : Os) (started : os.Started) (H : Type) (enc : TypeId × Value → H) (F : Stop.Interp) :
    ReturnsInHanded {} Tryz.checked os 4 .any ((OpenSpec.ofChange Rows.stafffileValidSpec).preRow enc Tryz.prog Tryz.f4 [] false Rows.stafffileValidRow.laid) (((OpenSpec.ofChange Rows.stafffileValidSpec).at F).post enc Tryz.prog Tryz.f4 false true false false) := by
  obtain ⟨places, hx⟩ := reads0 os enc
  refine law_lifted (c := Rows.stafffileValidSpec) started rfl rfl rfl (by kernel_rfl) Tryz.func4 (by kernel_rfl) ?_ ?_ ?_ ?_
  · have hall : (Tryz.f4.params.toList.all fun t => Tryz.prog.readableRec t && decide (t < Tryz.prog.types.size)) = true := by kernel_rfl
    intro t ht
    have := List.all_eq_true.1 hall t ht
    simpa using this
  · intro ds hd
    rw [Tryz.params4] at hd
    match ds, hd with
    | [d1, d2, d3], _ => exact ⟨rfl, rfl, rfl⟩
  · exact ⟨World.laidAll Tryz.prog os Rows.stafffileValidRow.laid, fun _ _ => 0, ⟨#[], #[.slice none 0 0, .agg #[.int .i64 0, .int .i64 0, .int .i64 0, .int .i64 0], .agg #[.int .i64 0, .int .i64 0, .int .i64 0, .int .i64 0]], []⟩, World.laidAll_os _ _ _, shaped0 os, (Input.okWide_of_okWideB (base := 0) (ok0 os)).1, (Input.okWide_of_okWideB (ok0 os)).2,
      OpenSpec.preRow_of_cond 8 hx (by kernel_rfl) (fun k hk => by cases hk) (by kernel_rfl) (met0 os), by
        simp only [Assume.holds]
        exact ⟨by simp, by simp, (fun h => by cases h), by simp, by simp⟩⟩
  · intro W base args ds ps hval hA hlt _ hL hsh
    have hS : Std W := std_of hL hsh (by kernel_rfl) (by kernel_rfl) (by kernel_rfl) (by kernel_rfl)
    have hW : Wds W := wds_of hL (by kernel_rfl) (by kernel_rfl)
    have hD : Dys W := dys_of hL (by kernel_rfl) (by kernel_rfl)
    rw [Tryz.params4] at hA hval
    obtain ⟨v0, v1, v2, d0, d1, d2, p0, p1, p2, rfl, rfl, rfl, h0, h1, h2⟩ := trodAll_three hA
    obtain ⟨A0, ls0, c0, rfl, hc0, hA0, -, hm0, hz0⟩ := (opens_lects noGood).slice Tryz.underlying37 (hval 0 37 v0 rfl rfl) h0 trivial
    obtain ⟨xs1, hx1, rfl⟩ := agg_ints (n := 4) (Or.inr ⟨_, hval 1 39 v1 rfl rfl⟩) (Or.inl ⟨_, Tryz.underlying39⟩) (by kernel_rfl) (by kernel_rfl)
    obtain ⟨a1, b1, c1, e1, rfl⟩ := list4 hx1
    obtain ⟨xs2, hx2, rfl⟩ := agg_ints (n := 4) (Or.inr ⟨_, hval 2 41 v2 rfl rfl⟩) (Or.inl ⟨_, Tryz.underlying41⟩) (by kernel_rfl) (by kernel_rfl)
    obtain ⟨a2, b2, c2, e2, rfl⟩ := list4 hx2
    exact valid9_walk A0 ls0 c0 a1 b1 c1 e1 a2 b2 c2 e2 W hS hW hD hc0 (by unfold maxLen at hm0; omega) (fun l hl => by have := (hz0 l hl).2.2.1; unfold maxLen at this; omega) (lects_of_at hA0)

theorem said : Rows.StafffileValidSaid :=
  OpenClaim.holds_of_cond 4 Tryz.f4 rfl rfl rfl rfl rfl rfl rfl ⟨rfl, rfl, rfl, rfl, rfl⟩ rfl rfl rfl rfl rfl (by kernel_rfl) Tryz.func4 (by kernel_rfl)
    (of_decide_eq_true (by kernel_rfl)) (by unfold Func.isWrapper; first | (rw [if_pos (by decide +kernel)]; kernel_rfl) | (rw [if_neg (by decide +kernel)]; exact ⟨rfl, rfl⟩))
    (fun os started H enc _ F => by rw [OpenClaim.pre_eq_preRow]; exact lifted os started H enc F)

/-- No parameter wants a stand-in; the program's own looks are as the card says. -/
theorem plain (f : FuncId) (fn : Func) (hf : Tryz.pinned.checked.prog.funcNamed "timetable/timetablelaw09.StafffileValid" = some f) (hfn : Tryz.pinned.checked.prog.funcs[f]? = some fn) :
    Rows.stafffileValidCard.stood.looks = Tryz.pinned.checked.prog.looks [] ∧ ∀ (j : Nat) t, fn.params[j]? = some t → Tryz.pinned.checked.prog.wantsStandIn t = false := by
  obtain rfl : f = 4 := Option.some.inj ((show Tryz.prog.funcNamed "timetable/timetablelaw09.StafffileValid" = some 4 by kernel_rfl).symm.trans hf) |>.symm
  obtain rfl : fn = Tryz.f4 := (Option.some.inj (Tryz.func4.symm.trans hfn)).symm
  refine ⟨by kernel_rfl, fun j t ht => ?_⟩
  have hall : (Tryz.f4.params.toList.all fun u => !Tryz.prog.wantsStandIn u) = true := by kernel_rfl
  exact (show Tryz.prog.wantsStandIn t = false by simpa using List.all_eq_true.1 hall t (by simpa using Array.mem_of_getElem? ht))

theorem card : Rows.StafffileValidCardSaid :=
  Claim7.holds_tied_plain_at .later [] _ _ _ _ said (fun _ h => by cases h) (by kernel_rfl) (fun _ h => by cases h) stafffileValid_row_tie rfl ⟨rfl, rfl⟩ (by kernel_rfl) rfl plain (by kernel_rfl)
#print axioms card
end Go.Proofs.YtgoppjhjmonidaaGreatDoor.lawStafffileValid
