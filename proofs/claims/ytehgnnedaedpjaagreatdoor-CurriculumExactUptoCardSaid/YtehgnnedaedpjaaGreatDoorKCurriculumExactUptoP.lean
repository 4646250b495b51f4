/- The statement CurriculumExact, joined to its walk. Conditions: as in the card's text. -/
import Derived.Test.YtehgnnedaedpjaaGreatDoorKCurriculumExactUptoF
import Derived.Test.YtehgnnedaedpjaaGreatDoorKCurriculumExactUptoG
import Derived.Test.YtehgnnedaedpjaaGreatDoorKRecArg
import Derived.Test.YtehgnnedaedpjaaGreatDoorKCurArg
import Derived.Test.YtehgnnedaedpjaaGreatDoorKLawCEx
namespace Go.Proofs.YtehgnnedaedpjaaGreatDoor.lawCurriculumExactUpto
open Go.ChangeShapes Go.WideShapes Go.ChangeAt Go.RowKit
set_option maxRecDepth 100000


theorem lifted (os : Os) (started : os.Started) (H : Type) (enc : TypeId × Value → H) (F : Stop.Interp) :
    ReturnsInHanded {} Tryz.checked os 4 .any ((Rows.OpenSpec.upto Rows.curriculumExactSpec).preRow enc Tryz.prog Tryz.f4 [] false Rows.curriculumExactUptoRow.laid) (((Rows.OpenSpec.upto Rows.curriculumExactSpec).at F).post enc Tryz.prog Tryz.f4 false true false false) := by
  obtain ⟨places, hx⟩ := reads0 os enc
  refine law_lifted (c := Rows.curriculumExactSpec) started rfl rfl rfl (by kernel_rfl) Tryz.func4 (by kernel_rfl) ?_ ?_ ?_ ?_
  · have hall : (Tryz.f4.params.toList.all fun t => Tryz.prog.readableRec t && decide (t < Tryz.prog.types.size)) = true := by kernel_rfl
    intro t ht
    have := List.all_eq_true.1 hall t ht
    simpa using this
  · intro ds hd
    rw [Tryz.params4] at hd
    match ds, hd with
    | [d1, d2, d3], _ => exact ⟨rfl, rfl, rfl⟩
  · exact ⟨World.laidAll Tryz.prog os Rows.curriculumExactUptoRow.laid, fun _ _ => 0, ⟨#[], #[.slice none 0 0, .slice none 0 0, .slice none 0 0], []⟩, World.laidAll_os _ _ _, shaped0 os, (Input.okWide_of_okWideB (base := 0) (ok0 os)).1, (Input.okWide_of_okWideB (ok0 os)).2,
      OpenSpec.preRow_of_cond 8 hx (by kernel_rfl) (fun k hk => by obtain rfl := Option.some.inj hk; rfl) (by kernel_rfl) (met0 os), by
        simp only [Assume.holds]
        exact ⟨by simp, by simp, (fun h => by cases h), by simp, by simp⟩⟩
  · intro W base args ds ps hval hA hlt hcond hL hsh
    have hS : Std W := std_of hL hsh (by kernel_rfl) (by kernel_rfl) (by kernel_rfl) (by kernel_rfl)
    rw [Tryz.params4] at hA hval
    obtain ⟨v0, v1, v2, d0, d1, d2, p0, p1, p2, rfl, rfl, rfl, h0, h1, h2⟩ := trodAll_three hA
    have hk0 := of_decide_eq_true (hcond _ rfl)
    simp only [Rows.uptoBulkAll] at hk0
    obtain ⟨A0, ls0, c0, rfl, hc0, hA0, -, hm0, hz0⟩ := (opens_currs noGood).slice Tryz.underlying32 (hval 0 32 v0 rfl rfl) h0 trivial
    obtain ⟨A1, ls1, c1, rfl, hA1, hm1, hz1⟩ := open_recs (hval 1 46 v1 rfl rfl) h1 (by omega)
    obtain ⟨A2, ls2, c2, rfl, hc2, hA2, -, hm2, hz2⟩ := (opens_clss noGood).slice Tryz.underlying27 (hval 2 27 v2 rfl rfl) h2 trivial
    exact exact11_walk A0 ls0 c0 A1 ls1 c1 A2 ls2 c2 W hS (by unfold maxLen at hm0; omega) hc0 (fun x hx => by have := (hz0 x hx).2.2.1; unfold maxLen at this; omega) hA0.any hA1 hm1 hz1 hA2.any (by unfold maxLen at hm2; omega)

theorem said : Rows.CurriculumExactUptoSaid :=
  OpenClaim.holds_of_cond 4 Tryz.f4 rfl rfl rfl rfl rfl rfl rfl ⟨rfl, rfl, rfl, rfl, rfl⟩ rfl rfl rfl rfl rfl (by kernel_rfl) Tryz.func4 closed
    (of_decide_eq_true (by kernel_rfl)) (by unfold Func.isWrapper; first | (rw [if_pos (by decide +kernel)]; kernel_rfl) | (rw [if_neg (by decide +kernel)]; exact ⟨rfl, rfl⟩))
    (fun os started H enc _ F => by rw [OpenClaim.pre_eq_preRow]; exact lifted os started H enc F)

end Go.Proofs.YtehgnnedaedpjaaGreatDoor.lawCurriculumExactUpto
