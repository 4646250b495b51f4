/- Closed facts of the statement CurriculumMade. No condition. The witness and the looks of the statement CurriculumMade. No condition. The statement CurriculumMade goes by no other road. No condition. Main, and the row's form, of the statement CurriculumMade. No condition. The statement CurriculumMade, joined to its walk. Conditions: as in the card's text. PROVED: timetablelaw11.CurriculumMade returns true for every list of numbers: Valid, Write, Read and Pairs return what the reference returns for curricula made of them, odd ones, and their records with a change. Conditions: the listed package-level variables hold what the program's text lays (tied by the card). -/
import Derived.Test.YtonpfohhedcjbaaGreatDoorKVars
import Derived.Test.YtonpfohhedcjbaaGreatDoorKLawCMd
namespace Go.Proofs.YtonpfohhedcjbaaGreatDoor.lawCurriculumMade
open Go.ChangeShapes Go.WideShapes Go.ChangeAt Go.RowKit
set_option maxRecDepth 100000

theorem k10 : (Rows.curriculumMadeRow.inPlace == Tryz.pinned.checked.prog.inPlace 4) = true := by kernel_rfl
theorem k11 : (Rows.curriculumMadeRow.unfollowed == Tryz.pinned.checked.prog.unfollowed 4) = true := by kernel_rfl
theorem k12 : (Rows.curriculumMadeRow.recurses == Tryz.pinned.checked.prog.recurses 4) = true := by kernel_rfl
theorem k13 : (Rows.curriculumMadeRow.named == Tryz.pinned.checked.prog.varsNamed 4) = true := by kernel_rfl
theorem closed : joinedFacts Tryz.pinned.checked.prog 4 Tryz.f4 (OpenSpec.ofChange Rows.curriculumMadeSpec).bare Rows.curriculumMadeRow = true := by
  unfold joinedFacts
  rw [k10, k11, k12, k13]
  kernel_rfl
end Go.Proofs.YtonpfohhedcjbaaGreatDoor.lawCurriculumMade

namespace Go.Proofs.YtonpfohhedcjbaaGreatDoor.lawCurriculumMade
open Go.ChangeShapes Go.WideShapes Go.ChangeAt Go.RowKit
set_option maxRecDepth 100000

theorem reads0 (os : Os) {H : Type} (enc : TypeId × Value → H) : ∃ places, DataW.whole enc Tryz.prog ((World.laidAll Tryz.prog os Rows.curriculumMadeRow.laid).forCall (fun _ _ => 0) ⟨#[], #[.slice none 0 0], []⟩).memory Tryz.f4.params.toList Rows.curriculumMadeSpec.vars false [.slice none 0 0] 8 =
    some ([.nil], [], places) :=
  ⟨[], by kernel_rfl⟩
theorem met0 (os : Os) : laidMet Tryz.prog Rows.curriculumMadeRow.laid ((World.laidAll Tryz.prog os Rows.curriculumMadeRow.laid).forCall (fun _ _ => 0) ⟨#[], #[.slice none 0 0], []⟩).memory :=
  laidMet_laidAll _ (by kernel_rfl) (by kernel_rfl)
theorem shaped0 (os : Os) : ((World.laidAll Tryz.prog os Rows.curriculumMadeRow.laid).forCall (fun _ _ => 0) ⟨#[], #[.slice none 0 0], []⟩).Shaped Tryz.checked.prog :=
  World.shaped_of_ZipB (by kernel_rfl) (by kernel_rfl)
theorem ok0 (os : Os) : Input.okWideB Tryz.checked.prog ((World.laidAll Tryz.prog os Rows.curriculumMadeRow.laid).forCall (fun _ _ => 0) ⟨#[], #[.slice none 0 0], []⟩) 4 ⟨#[], #[.slice none 0 0], []⟩ = true := by kernel_rfl
/-- No parameter wants a stand-in; the program's own looks are as the card says. -/
theorem plain (f : FuncId) (fn : Func) (hf : Tryz.pinned.checked.prog.funcNamed "timetable/timetablelaw11.CurriculumMade" = some f) (hfn : Tryz.pinned.checked.prog.funcs[f]? = some fn) :
    Rows.curriculumMadeCard.stood.looks = Tryz.pinned.checked.prog.looks [] ∧ ∀ (j : Nat) t, fn.params[j]? = some t → Tryz.pinned.checked.prog.wantsStandIn t = false := by
  obtain rfl : f = 4 := Option.some.inj ((show Tryz.prog.funcNamed "timetable/timetablelaw11.CurriculumMade" = some 4 by kernel_rfl).symm.trans hf) |>.symm
  obtain rfl : fn = Tryz.f4 := (Option.some.inj (Tryz.func4.symm.trans hfn)).symm
  refine ⟨by kernel_rfl, fun j t ht => ?_⟩
  have hall : (Tryz.f4.params.toList.all fun u => !Tryz.prog.wantsStandIn u) = true := by kernel_rfl
  exact (show Tryz.prog.wantsStandIn t = false by simpa using List.all_eq_true.1 hall t (by simpa using Array.mem_of_getElem? ht))

end Go.Proofs.YtonpfohhedcjbaaGreatDoor.lawCurriculumMade

namespace Go.Proofs.YtonpfohhedcjbaaGreatDoor.lawCurriculumMade
open Go.ChangeShapes Go.WideShapes Go.ChangeAt Go.RowKit
set_option maxRecDepth 100000

theorem cg : false = Rows.curriculumMadeRow.goesBy Tryz.pinned.checked.prog := by kernel_rfl
end Go.Proofs.YtonpfohhedcjbaaGreatDoor.lawCurriculumMade

namespace Go.Proofs.YtonpfohhedcjbaaGreatDoor.lawCurriculumMade
open Go.ChangeShapes Go.WideShapes Go.ChangeAt Go.RowKit
set_option maxRecDepth 100000

theorem cw : Rows.curriculumMadeRow.wfByText (OpenSpec.ofChange Rows.curriculumMadeSpec) = true := by kernel_rfl
theorem cm : Tryz.pinned.checked.prog.mainIs = some (Rows.curriculumMadeCard.stood.harness.1, Rows.curriculumMadeCard.stood.harness.2.toList) := by kernel_rfl
end Go.Proofs.YtonpfohhedcjbaaGreatDoor.lawCurriculumMade

namespace Go.Proofs.YtonpfohhedcjbaaGreatDoor.lawCurriculumMade
open Go.ChangeShapes Go.WideShapes Go.ChangeAt Go.RowKit
set_option maxRecDepth 100000


theorem lifted (os : Os) (started : os.Started) (H : Type) (enc : TypeId × Value → H) (F : Stop.Interp) :
    ReturnsInHanded {} Tryz.checked os 4 .any ((OpenSpec.ofChange Rows.curriculumMadeSpec).preRow enc Tryz.prog Tryz.f4 [] false Rows.curriculumMadeRow.laid) (((OpenSpec.ofChange Rows.curriculumMadeSpec).at F).post enc Tryz.prog Tryz.f4 false true false false) := by
  obtain ⟨places, hx⟩ := reads0 os enc
  refine law_lifted (c := Rows.curriculumMadeSpec) started rfl rfl rfl (by kernel_rfl) Tryz.func4 (by kernel_rfl) ?_ ?_ ?_ ?_
  · have hall : (Tryz.f4.params.toList.all fun t => Tryz.prog.readableRec t && decide (t < Tryz.prog.types.size)) = true := by kernel_rfl
    intro t ht
    have := List.all_eq_true.1 hall t ht
    simpa using this
  · intro ds hd
    rw [Tryz.params4] at hd
    match ds, hd with
    | [d1], _ => exact ⟨rfl, rfl, rfl⟩
  · exact ⟨World.laidAll Tryz.prog os Rows.curriculumMadeRow.laid, fun _ _ => 0, ⟨#[], #[.slice none 0 0], []⟩, World.laidAll_os _ _ _, shaped0 os, (Input.okWide_of_okWideB (base := 0) (ok0 os)).1, (Input.okWide_of_okWideB (ok0 os)).2,
      OpenSpec.preRow_of_cond 8 hx (by kernel_rfl) (fun k hk => by cases hk) (by kernel_rfl) (met0 os), by
        simp only [Assume.holds]
        exact ⟨by simp, by simp, (fun h => by cases h), by simp, by simp⟩⟩
  · intro W base args ds ps hval hA hlt _ hL hsh
    have hS : Std W := std_of hL hsh (by kernel_rfl) (by kernel_rfl) (by kernel_rfl) (by kernel_rfl)
    have hFp := ftr_of hL (by kernel_rfl) (by kernel_rfl)
    rw [Tryz.params4] at hA hval
    obtain ⟨v0, d0, rfl, rfl, h0⟩ := trodAll_one hA
    obtain ⟨A0, n0, c0, rfl, hcells⟩ := open_ints_any (hval 0 22 v0 rfl rfl) h0
    exact cmade11_walk A0 n0 c0 W hS hFp hcells

theorem said : Rows.CurriculumMadeSaid :=
  OpenClaim.holds_of_cond 4 Tryz.f4 rfl rfl rfl rfl rfl rfl rfl ⟨rfl, rfl, rfl, rfl, rfl⟩ rfl rfl rfl rfl rfl (by kernel_rfl) Tryz.func4 closed
    (of_decide_eq_true (by kernel_rfl)) (by unfold Func.isWrapper; first | (rw [if_pos (by decide +kernel)]; kernel_rfl) | (rw [if_neg (by decide +kernel)]; exact ⟨rfl, rfl⟩))
    (fun os started H enc _ F => by rw [OpenClaim.pre_eq_preRow]; exact lifted os started H enc F)

end Go.Proofs.YtonpfohhedcjbaaGreatDoor.lawCurriculumMade

namespace Go.Proofs.YtonpfohhedcjbaaGreatDoor.lawCurriculumMade
open Go.ChangeShapes Go.WideShapes Go.ChangeAt Go.RowKit
set_option maxRecDepth 100000

theorem card : Rows.CurriculumMadeCardSaid :=
  Claim7.holds_tied_plain_at .later [] _ _ _ _ said (fun _ h => by cases h) cw (fun _ h => by cases h) curriculumMade_row_tie rfl ⟨rfl, rfl⟩ cm rfl plain cg
#print axioms card
end Go.Proofs.YtonpfohhedcjbaaGreatDoor.lawCurriculumMade
