/- The statement RulesyntaxWords, joined to its walk. Conditions: as in the card's text. PROVED: RulesyntaxWords: for every list of numbers rulesyntax.Parse returns, of the lines of words that the numbers make, what the reference returns; no condition. -/
import Derived.Test.YtdnnahdafhddlaaGreatDoorYRulesyntaxWordsF
import Derived.Test.YtdnnahdafhddlaaGreatDoorYRulesyntaxWordsG
import Derived.Test.YtdnnahdafhddlaaGreatDoorYLawW14
import Derived.Test.YtdnnahdafhddlaaGreatDoorYRulesyntaxWordsH
import Derived.Test.YtdnnahdafhddlaaGreatDoorYRulesyntaxWordsI
namespace Go.Proofs.YtdnnahdafhddlaaGreatDoor.lawRulesyntaxWords
open Go.ChangeShapes Go.WideShapes Go.ChangeAt Go.RowKit
set_option maxRecDepth 100000


theorem lifted (os : Os) (started : os.Started) (H : Type) (enc : TypeId × Value → H) (F : Stop.Interp) :
    ReturnsInHanded {} Tryz.checked os 4 .any ((OpenSpec.ofChange Rows.rulesyntaxWordsSpec).preRow enc Tryz.prog Tryz.f4 [] false Rows.rulesyntaxWordsRow.laid) (((OpenSpec.ofChange Rows.rulesyntaxWordsSpec).at F).post enc Tryz.prog Tryz.f4 false true false false) := by
  obtain ⟨places, hx⟩ := reads0 os enc
  refine law_lifted (c := Rows.rulesyntaxWordsSpec) started rfl rfl rfl (by kernel_rfl) Tryz.func4 (by kernel_rfl) ?_ ?_ ?_ ?_
  · have hall : (Tryz.f4.params.toList.all fun t => Tryz.prog.readableRec t && decide (t < Tryz.prog.types.size)) = true := by kernel_rfl
    intro t ht
    have := List.all_eq_true.1 hall t ht
    simpa using this
  · intro ds hd
    rw [Tryz.params4] at hd
    match ds, hd with
    | [d1], _ => exact ⟨rfl, rfl, rfl⟩
  · exact ⟨World.laidAll Tryz.prog os Rows.rulesyntaxWordsRow.laid, fun _ _ => 0, ⟨#[], #[.slice none 0 0], []⟩, World.laidAll_os _ _ _, shaped0 os, (Input.okWide_of_okWideB (base := 0) (ok0 os)).1, (Input.okWide_of_okWideB (ok0 os)).2,
      OpenSpec.preRow_of_cond 8 hx (by kernel_rfl) (fun k hk => by cases hk) (by kernel_rfl) (met0 os), by
        simp only [Assume.holds]
        exact ⟨by simp, by simp, (fun h => by cases h), by simp, by simp⟩⟩
  · intro W base args ds ps hval hA hlt _ hL hsh
    have hS : Std W := std_of hL hsh (by kernel_rfl) (by kernel_rfl) (by kernel_rfl) (by kernel_rfl)
    have hW : Wds W := wds_of hL (by kernel_rfl) (by kernel_rfl)
    have hLv : Lvs W := lvs_of hL (by kernel_rfl) (by kernel_rfl)
    have hNm : Nms W := nms_of hL (by kernel_rfl) (by kernel_rfl)
    have hD : Dys W := dys_of hL (by kernel_rfl) (by kernel_rfl)
    rw [Tryz.params4] at hA hval
    obtain ⟨v0, d0, rfl, rfl, h0⟩ := trodAll_one hA
    obtain ⟨A0, n0, c0, rfl, hcells⟩ := open_ints_any (hval 0 27 v0 rfl rfl) h0
    exact (words14_walk A0 n0 c0 W hS hW hD hLv hNm hcells)

theorem said : Rows.RulesyntaxWordsSaid :=
  OpenClaim.holds_of_cond 4 Tryz.f4 rfl rfl rfl rfl rfl rfl rfl ⟨rfl, rfl, rfl, rfl, rfl⟩ rfl rfl rfl rfl rfl (by kernel_rfl) Tryz.func4 closed
    (of_decide_eq_true (by kernel_rfl)) (by unfold Func.isWrapper; first | (rw [if_pos (by decide +kernel)]; kernel_rfl) | (rw [if_neg (by decide +kernel)]; exact ⟨rfl, rfl⟩))
    (fun os started H enc _ F => by rw [OpenClaim.pre_eq_preRow]; exact lifted os started H enc F)

end Go.Proofs.YtdnnahdafhddlaaGreatDoor.lawRulesyntaxWords

namespace Go.Proofs.YtdnnahdafhddlaaGreatDoor.lawRulesyntaxWords
open Go.ChangeShapes Go.WideShapes Go.ChangeAt Go.RowKit
set_option maxRecDepth 100000

theorem card : Rows.RulesyntaxWordsCardSaid :=
  Claim7.holds_tied_plain_at .later [] _ _ _ _ said (fun _ h => by cases h) cw (fun _ h => by cases h) rulesyntaxWords_row_tie rfl ⟨rfl, rfl⟩ cm rfl plain cg
#print axioms card
end Go.Proofs.YtdnnahdafhddlaaGreatDoor.lawRulesyntaxWords
