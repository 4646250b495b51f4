/- The statement RulesyntaxParses, joined to its walk. Conditions: as in the card's text. PROVED: RulesyntaxParses: for every text, grid and number of weeks rulesyntax.Parse returns the rules and problems that the reference returns; no condition. -/
import Derived.Test.YtdnnahdafhddlaaGreatDoorURulesyntaxParsesF
import Derived.Test.YtdnnahdafhddlaaGreatDoorURulesyntaxParsesG
import Derived.Test.YtdnnahdafhddlaaGreatDoorURowL
import Derived.Test.YtdnnahdafhddlaaGreatDoorURulesyntaxParsesH
import Derived.Test.YtdnnahdafhddlaaGreatDoorURulesyntaxParsesI
namespace Go.Proofs.YtdnnahdafhddlaaGreatDoor.lawRulesyntaxParses
open Go.ChangeShapes Go.WideShapes Go.ChangeAt Go.RowKit
set_option maxRecDepth 100000

theorem list4 {xs : List Int} (h : xs.length = 4) : ∃ a b c d, xs = [a, b, c, d] := by
  match xs, h with
  | [a, b, c, d], _ => exact ⟨a, b, c, d, rfl⟩

theorem lifted (os : Os) (started : os.Started) (H : Type) (enc : TypeId × Value → H) (F : Stop.Interp) :
    ReturnsInHanded {} Tryz.checked os 3 .any ((OpenSpec.ofChange Rows.rulesyntaxParsesSpec).preRow enc Tryz.prog Tryz.f3 [] false Rows.rulesyntaxParsesRow.laid) (((OpenSpec.ofChange Rows.rulesyntaxParsesSpec).at F).post enc Tryz.prog Tryz.f3 false true false false) := by
  obtain ⟨places, hx⟩ := reads0 os enc
  refine law_lifted (c := Rows.rulesyntaxParsesSpec) started rfl rfl rfl (by kernel_rfl) Tryz.func3 (by kernel_rfl) ?_ ?_ ?_ ?_
  · have hall : (Tryz.f3.params.toList.all fun t => Tryz.prog.readableRec t && decide (t < Tryz.prog.types.size)) = true := by kernel_rfl
    intro t ht
    have := List.all_eq_true.1 hall t ht
    simpa using this
  · intro ds hd
    rw [Tryz.params3] at hd
    match ds, hd with
    | [d1, d2, d3], _ => exact ⟨rfl, rfl, rfl⟩
  · exact ⟨World.laidAll Tryz.prog os Rows.rulesyntaxParsesRow.laid, fun _ _ => 0, ⟨#[], #[.string ⟨#[]⟩, .agg #[.int .i64 0, .int .i64 0, .int .i64 0, .int .i64 0], .int .i64 0], []⟩, World.laidAll_os _ _ _, shaped0 os, (Input.okWide_of_okWideB (base := 0) (ok0 os)).1, (Input.okWide_of_okWideB (ok0 os)).2,
      OpenSpec.preRow_of_cond 8 hx (by kernel_rfl) (fun k hk => by cases hk) (by kernel_rfl) (met0 os), by
        simp only [Assume.holds]
        exact ⟨by simp, by simp, (fun h => by cases h), by simp, by simp⟩⟩
  · intro W base args ds ps hval hA hlt _ hL hsh
    have hS : Std W := std_of hL hsh (by kernel_rfl) (by kernel_rfl) (by kernel_rfl) (by kernel_rfl)
    have hW : Wds W := wds_of hL (by kernel_rfl) (by kernel_rfl)
    have hLv : Lvs W := lvs_of hL (by kernel_rfl) (by kernel_rfl)
    have hNm : Nms W := nms_of hL (by kernel_rfl) (by kernel_rfl)
    have hD : Dys W := dys_of hL (by kernel_rfl) (by kernel_rfl)
    rw [Tryz.params3] at hA hval
    obtain ⟨v0, v1, v2, d0, d1, d2, p0, p1, p2, rfl, rfl, rfl, h0, h1, h2⟩ := trodAll_three hA
    obtain ⟨x0, rfl, rfl, -, hz0⟩ := Go.ChangeMaps.open_string Tryz.underlying9 (hval 0 9 v0 rfl rfl) h0
    obtain ⟨xs1, hx1, rfl⟩ := agg_ints (n := 4) (Or.inr ⟨_, hval 1 23 v1 rfl rfl⟩) (Or.inl ⟨_, Tryz.underlying23⟩) (by kernel_rfl) (by kernel_rfl)
    obtain ⟨a1, b1, c1, e1, rfl⟩ := list4 hx1
    obtain ⟨x2, rfl, -, -, -⟩ := open_int Tryz.underlying3 (hval 2 3 v2 rfl rfl) h2
    exact (parses14_walk x0 a1 b1 c1 e1 x2 hz0 W hS hW hD hLv hNm)

theorem said : Rows.RulesyntaxParsesSaid :=
  OpenClaim.holds_of_cond 3 Tryz.f3 rfl rfl rfl rfl rfl rfl rfl ⟨rfl, rfl, rfl, rfl, rfl⟩ rfl rfl rfl rfl rfl (by kernel_rfl) Tryz.func3 closed
    (of_decide_eq_true (by kernel_rfl)) (by unfold Func.isWrapper; first | (rw [if_pos (by decide +kernel)]; kernel_rfl) | (rw [if_neg (by decide +kernel)]; exact ⟨rfl, rfl⟩))
    (fun os started H enc _ F => by rw [OpenClaim.pre_eq_preRow]; exact lifted os started H enc F)

end Go.Proofs.YtdnnahdafhddlaaGreatDoor.lawRulesyntaxParses

namespace Go.Proofs.YtdnnahdafhddlaaGreatDoor.lawRulesyntaxParses
open Go.ChangeShapes Go.WideShapes Go.ChangeAt Go.RowKit
set_option maxRecDepth 100000

theorem card : Rows.RulesyntaxParsesCardSaid :=
  Claim7.holds_tied_plain_at .later [] _ _ _ _ said (fun _ h => by cases h) cw (fun _ h => by cases h) rulesyntaxParses_row_tie rfl ⟨rfl, rfl⟩ cm rfl plain cg
#print axioms card
end Go.Proofs.YtdnnahdafhddlaaGreatDoor.lawRulesyntaxParses
