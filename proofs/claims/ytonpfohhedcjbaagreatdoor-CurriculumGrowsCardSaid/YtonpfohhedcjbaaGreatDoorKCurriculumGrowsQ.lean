/- Closed facts of the statement CurriculumGrows. No condition. The witness and the looks of the statement CurriculumGrows. No condition. The statement CurriculumGrows goes by no other road. No condition. Main, and the row's form, of the statement CurriculumGrows. No condition. The statement CurriculumGrows, joined to its walk. Conditions: as in the card's text. PROVED: timetablelaw11.CurriculumGrows returns true for every list of numbers and every string: a pair of a curriculum is one of a curriculum with further courses, and no class of a pair has a parallel one. Conditions: the listed package-level variables hold what the program's text lays (tied by the card). -/
import Derived.Test.YtonpfohhedcjbaaGreatDoorKVars
import Derived.ChangeMaps5
import Derived.Test.YtonpfohhedcjbaaGreatDoorKLawCG
namespace Go.Proofs.YtonpfohhedcjbaaGreatDoor.lawCurriculumGrows
open Go.ChangeShapes Go.WideShapes Go.ChangeAt Go.RowKit
set_option maxRecDepth 100000

theorem k10 : (Rows.curriculumGrowsRow.inPlace == Tryz.pinned.checked.prog.inPlace 3) = true := by kernel_rfl
theorem k11 : (Rows.curriculumGrowsRow.unfollowed == Tryz.pinned.checked.prog.unfollowed 3) = true := by kernel_rfl
theorem k12 : (Rows.curriculumGrowsRow.recurses == Tryz.pinned.checked.prog.recurses 3) = true := by kernel_rfl
theorem k13 : (Rows.curriculumGrowsRow.named == Tryz.pinned.checked.prog.varsNamed 3) = true := by kernel_rfl
theorem closed : joinedFacts Tryz.pinned.checked.prog 3 Tryz.f3 (OpenSpec.ofChange Rows.curriculumGrowsSpec).bare Rows.curriculumGrowsRow = true := by
  unfold joinedFacts
  rw [k10, k11, k12, k13]
  kernel_rfl
end Go.Proofs.YtonpfohhedcjbaaGreatDoor.lawCurriculumGrows

namespace Go.Proofs.YtonpfohhedcjbaaGreatDoor.lawCurriculumGrows
open Go.ChangeShapes Go.WideShapes Go.ChangeAt Go.RowKit
set_option maxRecDepth 100000

theorem reads0 (os : Os) {H : Type} (enc : TypeId × Value → H) : ∃ places, DataW.whole enc Tryz.prog ((World.laidAll Tryz.prog os Rows.curriculumGrowsRow.laid).forCall (fun _ _ => 0) ⟨#[], #[.slice none 0 0, .string ⟨#[]⟩], []⟩).memory Tryz.f3.params.toList Rows.curriculumGrowsSpec.vars false [.slice none 0 0, .string ⟨#[]⟩] 8 =
    some ([.nil, .lit (.string [])], [], places) :=
  ⟨[], by kernel_rfl⟩
theorem met0 (os : Os) : laidMet Tryz.prog Rows.curriculumGrowsRow.laid ((World.laidAll Tryz.prog os Rows.curriculumGrowsRow.laid).forCall (fun _ _ => 0) ⟨#[], #[.slice none 0 0, .string ⟨#[]⟩], []⟩).memory :=
  laidMet_laidAll _ (by kernel_rfl) (by kernel_rfl)
theorem shaped0 (os : Os) : ((World.laidAll Tryz.prog os Rows.curriculumGrowsRow.laid).forCall (fun _ _ => 0) ⟨#[], #[.slice none 0 0, .string ⟨#[]⟩], []⟩).Shaped Tryz.checked.prog :=
  World.shaped_of_ZipB (by kernel_rfl) (by kernel_rfl)
theorem ok0 (os : Os) : Input.okWideB Tryz.checked.prog ((World.laidAll Tryz.prog os Rows.curriculumGrowsRow.laid).forCall (fun _ _ => 0) ⟨#[], #[.slice none 0 0, .string ⟨#[]⟩], []⟩) 3 ⟨#[], #[.slice none 0 0, .string ⟨#[]⟩], []⟩ = true := by kernel_rfl
/-- No parameter wants a stand-in; the program's own looks are as the card says. -/
theorem plain (f : FuncId) (fn : Func) (hf : Tryz.pinned.checked.prog.funcNamed "timetable/timetablelaw11.CurriculumGrows" = some f) (hfn : Tryz.pinned.checked.prog.funcs[f]? = some fn) :
    Rows.curriculumGrowsCard.stood.looks = Tryz.pinned.checked.prog.looks [] ∧ ∀ (j : Nat) t, fn.params[j]? = some t → Tryz.pinned.checked.prog.wantsStandIn t = false := by
  obtain rfl : f = 3 := Option.some.inj ((show Tryz.prog.funcNamed "timetable/timetablelaw11.CurriculumGrows" = some 3 by kernel_rfl).symm.trans hf) |>.symm
  obtain rfl : fn = Tryz.f3 := (Option.some.inj (Tryz.func3.symm.trans hfn)).symm
  refine ⟨by kernel_rfl, fun j t ht => ?_⟩
  have hall : (Tryz.f3.params.toList.all fun u => !Tryz.prog.wantsStandIn u) = true := by kernel_rfl
  exact (show Tryz.prog.wantsStandIn t = false by simpa using List.all_eq_true.1 hall t (by simpa using Array.mem_of_getElem? ht))

end Go.Proofs.YtonpfohhedcjbaaGreatDoor.lawCurriculumGrows

namespace Go.Proofs.YtonpfohhedcjbaaGreatDoor.lawCurriculumGrows
open Go.ChangeShapes Go.WideShapes Go.ChangeAt Go.RowKit
set_option maxRecDepth 100000

theorem cg : false = Rows.curriculumGrowsRow.goesBy Tryz.pinned.checked.prog := by kernel_rfl
end Go.Proofs.YtonpfohhedcjbaaGreatDoor.lawCurriculumGrows

namespace Go.Proofs.YtonpfohhedcjbaaGreatDoor.lawCurriculumGrows
open Go.ChangeShapes Go.WideShapes Go.ChangeAt Go.RowKit
set_option maxRecDepth 100000

theorem cw : Rows.curriculumGrowsRow.wfByText (OpenSpec.ofChange Rows.curriculumGrowsSpec) = true := by kernel_rfl
theorem cm : Tryz.pinned.checked.prog.mainIs = some (Rows.curriculumGrowsCard.stood.harness.1, Rows.curriculumGrowsCard.stood.harness.2.toList) := by kernel_rfl
end Go.Proofs.YtonpfohhedcjbaaGreatDoor.lawCurriculumGrows

namespace Go.Proofs.YtonpfohhedcjbaaGreatDoor.lawCurriculumGrows
open Go.ChangeShapes Go.WideShapes Go.ChangeAt Go.RowKit
set_option maxRecDepth 100000


theorem lifted (os : Os) (started : os.Started) (H : Type) (enc : TypeId × Value → H) (F : Stop.Interp) :
    ReturnsInHanded {} Tryz.checked os 3 .any ((OpenSpec.ofChange Rows.curriculumGrowsSpec).preRow enc Tryz.prog Tryz.f3 [] false Rows.curriculumGrowsRow.laid) (((OpenSpec.ofChange Rows.curriculumGrowsSpec).at F).post enc Tryz.prog Tryz.f3 false true false false) := by
  obtain ⟨places, hx⟩ := reads0 os enc
  refine law_lifted (c := Rows.curriculumGrowsSpec) started rfl rfl rfl (by kernel_rfl) Tryz.func3 (by kernel_rfl) ?_ ?_ ?_ ?_
  · have hall : (Tryz.f3.params.toList.all fun t => Tryz.prog.readableRec t && decide (t < Tryz.prog.types.size)) = true := by kernel_rfl
    intro t ht
    have := List.all_eq_true.1 hall t ht
    simpa using this
  · intro ds hd
    rw [Tryz.params3] at hd
    match ds, hd with
    | [d1, d2], _ => exact ⟨rfl, rfl, rfl⟩
  · exact ⟨World.laidAll Tryz.prog os Rows.curriculumGrowsRow.laid, fun _ _ => 0, ⟨#[], #[.slice none 0 0, .string ⟨#[]⟩], []⟩, World.laidAll_os _ _ _, shaped0 os, (Input.okWide_of_okWideB (base := 0) (ok0 os)).1, (Input.okWide_of_okWideB (ok0 os)).2,
      OpenSpec.preRow_of_cond 8 hx (by kernel_rfl) (fun k hk => by cases hk) (by kernel_rfl) (met0 os), by
        simp only [Assume.holds]
        exact ⟨by simp, by simp, (fun h => by cases h), by simp, by simp⟩⟩
  · intro W base args ds ps hval hA hlt _ hL hsh
    have hS : Std W := std_of hL hsh (by kernel_rfl) (by kernel_rfl) (by kernel_rfl) (by kernel_rfl)
    have hFp := ftr_of hL (by kernel_rfl) (by kernel_rfl)
    rw [Tryz.params3] at hA hval
    obtain ⟨v0, v1, d0, d1, p0, p1, rfl, rfl, rfl, h0, h1⟩ := trodAll_two hA
    obtain ⟨A0, n0, c0, rfl, hcells⟩ := open_ints_any (hval 0 22 v0 rfl rfl) h0
    obtain ⟨x1, rfl, rfl, -, hz1⟩ := Go.ChangeMaps.open_string Tryz.underlying9 (hval 1 9 v1 rfl rfl) h1
    exact cgrow11_walk A0 n0 c0 x1 W hS hFp hcells

theorem said : Rows.CurriculumGrowsSaid :=
  OpenClaim.holds_of_cond 3 Tryz.f3 rfl rfl rfl rfl rfl rfl rfl ⟨rfl, rfl, rfl, rfl, rfl⟩ rfl rfl rfl rfl rfl (by kernel_rfl) Tryz.func3 closed
    (of_decide_eq_true (by kernel_rfl)) (by unfold Func.isWrapper; first | (rw [if_pos (by decide +kernel)]; kernel_rfl) | (rw [if_neg (by decide +kernel)]; exact ⟨rfl, rfl⟩))
    (fun os started H enc _ F => by rw [OpenClaim.pre_eq_preRow]; exact lifted os started H enc F)

end Go.Proofs.YtonpfohhedcjbaaGreatDoor.lawCurriculumGrows

namespace Go.Proofs.YtonpfohhedcjbaaGreatDoor.lawCurriculumGrows
open Go.ChangeShapes Go.WideShapes Go.ChangeAt Go.RowKit
set_option maxRecDepth 100000

theorem card : Rows.CurriculumGrowsCardSaid :=
  Claim7.holds_tied_plain_at .later [] _ _ _ _ said (fun _ h => by cases h) cw (fun _ h => by cases h) curriculumGrows_row_tie rfl ⟨rfl, rfl⟩ cm rfl plain cg
#print axioms card
end Go.Proofs.YtonpfohhedcjbaaGreatDoor.lawCurriculumGrows
