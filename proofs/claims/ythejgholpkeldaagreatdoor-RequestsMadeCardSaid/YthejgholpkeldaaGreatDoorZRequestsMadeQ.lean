/- The statement RequestsMade, joined to its walk. Conditions: as in the card's text. PROVED: timetablelaw12.RequestsMade returns true for every list of numbers: RequestsExact holds of requests and records that are made of them. Conditions: the listed package-level variables hold what the program's text lays (tied by the card). -/
import Derived.Test.YthejgholpkeldaaGreatDoorZRequestsMadeF
import Derived.Test.YthejgholpkeldaaGreatDoorZRequestsMadeG
import Derived.Test.YthejgholpkeldaaGreatDoorZLawQMd
import Derived.Test.YthejgholpkeldaaGreatDoorZRequestsMadeH
import Derived.Test.YthejgholpkeldaaGreatDoorZRequestsMadeI
namespace Go.Proofs.YthejgholpkeldaaGreatDoor.lawRequestsMade
open Go.ChangeShapes Go.WideShapes Go.ChangeAt Go.RowKit
set_option maxRecDepth 100000


theorem lifted (os : Os) (started : os.Started) (H : Type) (enc : TypeId × Value → H) (F : Stop.Interp) :
    ReturnsInHanded {} Tryz.checked os 3 .any ((OpenSpec.ofChange Rows.requestsMadeSpec).preRow enc Tryz.prog Tryz.f3 [] false Rows.requestsMadeRow.laid) (((OpenSpec.ofChange Rows.requestsMadeSpec).at F).post enc Tryz.prog Tryz.f3 false true false false) := by
  obtain ⟨places, hx⟩ := reads0 os enc
  refine law_lifted (c := Rows.requestsMadeSpec) started rfl rfl rfl (by kernel_rfl) Tryz.func3 (by kernel_rfl) ?_ ?_ ?_ ?_
  · have hall : (Tryz.f3.params.toList.all fun t => Tryz.prog.readableRec t && decide (t < Tryz.prog.types.size)) = true := by kernel_rfl
    intro t ht
    have := List.all_eq_true.1 hall t ht
    simpa using this
  · intro ds hd
    rw [Tryz.params3] at hd
    match ds, hd with
    | [d1], _ => exact ⟨rfl, rfl, rfl⟩
  · exact ⟨World.laidAll Tryz.prog os Rows.requestsMadeRow.laid, fun _ _ => 0, ⟨#[], #[.slice none 0 0], []⟩, World.laidAll_os _ _ _, shaped0 os, (Input.okWide_of_okWideB (base := 0) (ok0 os)).1, (Input.okWide_of_okWideB (ok0 os)).2,
      OpenSpec.preRow_of_cond 8 hx (by kernel_rfl) (fun k hk => by cases hk) (by kernel_rfl) (met0 os), by
        simp only [Assume.holds]
        exact ⟨by simp, by simp, (fun h => by cases h), by simp, by simp⟩⟩
  · intro W base args ds ps hval hA hlt _ hL hsh
    have hS : Std W := std_of hL hsh (by kernel_rfl) (by kernel_rfl) (by kernel_rfl) (by kernel_rfl)
    have hFp := ftr_of hL (by kernel_rfl) (by kernel_rfl)
    rw [Tryz.params3] at hA hval
    obtain ⟨v0, d0, rfl, rfl, h0⟩ := trodAll_one hA
    obtain ⟨A0, n0, c0, rfl, hcells⟩ := open_ints_any (hval 0 22 v0 rfl rfl) h0
    exact qmade12_walk A0 n0 c0 W hS hFp hcells

theorem said : Rows.RequestsMadeSaid :=
  OpenClaim.holds_of_cond 3 Tryz.f3 rfl rfl rfl rfl rfl rfl rfl ⟨rfl, rfl, rfl, rfl, rfl⟩ rfl rfl rfl rfl rfl (by kernel_rfl) Tryz.func3 closed
    (of_decide_eq_true (by kernel_rfl)) (by unfold Func.isWrapper; first | (rw [if_pos (by decide +kernel)]; kernel_rfl) | (rw [if_neg (by decide +kernel)]; exact ⟨rfl, rfl⟩))
    (fun os started H enc _ F => by rw [OpenClaim.pre_eq_preRow]; exact lifted os started H enc F)

end Go.Proofs.YthejgholpkeldaaGreatDoor.lawRequestsMade

namespace Go.Proofs.YthejgholpkeldaaGreatDoor.lawRequestsMade
open Go.ChangeShapes Go.WideShapes Go.ChangeAt Go.RowKit
set_option maxRecDepth 100000

theorem card : Rows.RequestsMadeCardSaid :=
  Claim7.holds_tied_plain_at .later [] _ _ _ _ said (fun _ h => by cases h) cw (fun _ h => by cases h) requestsMade_row_tie rfl ⟨rfl, rfl⟩ cm rfl plain cg
#print axioms card
end Go.Proofs.YthejgholpkeldaaGreatDoor.lawRequestsMade
