/- PROVED: timetablelaw08.TravelReads returns true for every list of records: the layer reads ways as the second program does. Conditions: what the call reads is of bulk at most 1048576 (the statement's own bound); the listed package-level variables hold what the program's text lays (tied by the card). -/
import Derived.ChangeMaps5
import Derived.Test.YtjcfkbichmlgmaaGreatDoorKVars
import Derived.Test.YtjcfkbichmlgmaaGreatDoorKRecArg
import Derived.Test.YtjcfkbichmlgmaaGreatDoorKLawReads8
namespace Go.Proofs.YtjcfkbichmlgmaaGreatDoor.lawTravelReadsUpto
open Go.ChangeShapes Go.WideShapes Go.ChangeAt Go.RowKit
set_option maxRecDepth 100000

theorem reads0 (os : Os) {H : Type} (enc : TypeId × Value → H) : ∃ places, DataW.whole enc Tryz.prog ((World.laidAll Tryz.prog os Rows.travelReadsUptoRow.laid).forCall (fun _ _ => 0) ⟨#[], #[.slice none 0 0], []⟩).memory Tryz.f3.params.toList Rows.travelReadsSpec.vars false [.slice none 0 0] 8 =
    some ([.nil], [], places) :=
  ⟨[], by kernel_rfl⟩
theorem met0 (os : Os) : laidMet Tryz.prog Rows.travelReadsUptoRow.laid ((World.laidAll Tryz.prog os Rows.travelReadsUptoRow.laid).forCall (fun _ _ => 0) ⟨#[], #[.slice none 0 0], []⟩).memory :=
  laidMet_laidAll _ (by kernel_rfl) (by kernel_rfl)
theorem shaped0 (os : Os) : ((World.laidAll Tryz.prog os Rows.travelReadsUptoRow.laid).forCall (fun _ _ => 0) ⟨#[], #[.slice none 0 0], []⟩).Shaped Tryz.checked.prog :=
  World.shaped_of_ZipB (by kernel_rfl) (by kernel_rfl)
theorem ok0 (os : Os) : Input.okWideB Tryz.checked.prog ((World.laidAll Tryz.prog os Rows.travelReadsUptoRow.laid).forCall (fun _ _ => 0) ⟨#[], #[.slice none 0 0], []⟩) 3 ⟨#[], #[.slice none 0 0], []⟩ = true := by kernel_rfl

theorem lifted (os : Os) (started : os.Started) (H : Type) (enc : TypeId × Value → H) (F : Stop.Interp) :
    ReturnsInHanded {} Tryz.checked os 3 .any ((Rows.OpenSpec.upto Rows.travelReadsSpec).preRow enc Tryz.prog Tryz.f3 [] false Rows.travelReadsUptoRow.laid) (((Rows.OpenSpec.upto Rows.travelReadsSpec).at F).post enc Tryz.prog Tryz.f3 false true false false) := by
  obtain ⟨places, hx⟩ := reads0 os enc
  refine law_lifted (c := Rows.travelReadsSpec) started rfl rfl rfl (by kernel_rfl) Tryz.func3 (by kernel_rfl) ?_ ?_ ?_ ?_
  · have hall : (Tryz.f3.params.toList.all fun t => Tryz.prog.readableRec t && decide (t < Tryz.prog.types.size)) = true := by kernel_rfl
    intro t ht
    have := List.all_eq_true.1 hall t ht
    simpa using this
  · intro ds hd
    rw [Tryz.params3] at hd
    match ds, hd with
    | [d1], _ => exact ⟨rfl, rfl, rfl⟩
  · exact ⟨World.laidAll Tryz.prog os Rows.travelReadsUptoRow.laid, fun _ _ => 0, ⟨#[], #[.slice none 0 0], []⟩, World.laidAll_os _ _ _, shaped0 os, (Input.okWide_of_okWideB (base := 0) (ok0 os)).1, (Input.okWide_of_okWideB (ok0 os)).2,
      OpenSpec.preRow_of_cond 8 hx (by kernel_rfl) (fun k hk => by obtain rfl := Option.some.inj hk; rfl) (by kernel_rfl) (met0 os), by
        simp only [Assume.holds]
        exact ⟨by simp, by simp, (fun h => by cases h), by simp, by simp⟩⟩
  · intro W base args ds ps hval hA hlt hcond hL hsh
    rw [Tryz.params3] at hA hval
    obtain ⟨v0, d0, rfl, rfl, h0⟩ := trodAll_one hA
    have hk := of_decide_eq_true (hcond _ rfl)
    simp only [Rows.uptoBulkAll] at hk
    obtain ⟨A0, rs, c0, rfl, hR, hN, hs⟩ := open_recs (hval 0 22 v0 rfl rfl) h0 (by omega)
    exact reads8_walk A0 rs c0 W hR hN hs

theorem said : Rows.TravelReadsUptoSaid :=
  OpenClaim.holds_of_cond 3 Tryz.f3 rfl rfl rfl rfl rfl rfl rfl ⟨rfl, rfl, rfl, rfl, rfl⟩ rfl rfl rfl rfl rfl (by kernel_rfl) Tryz.func3 (by kernel_rfl)
    (of_decide_eq_true (by kernel_rfl)) (by unfold Func.isWrapper; first | (rw [if_pos (by decide +kernel)]; kernel_rfl) | (rw [if_neg (by decide +kernel)]; exact ⟨rfl, rfl⟩))
    (fun os started H enc _ F => by rw [OpenClaim.pre_eq_preRow]; exact lifted os started H enc F)

/-- No parameter wants a stand-in; the program's own looks are as the card says. -/
theorem plain (f : FuncId) (fn : Func) (hf : Tryz.pinned.checked.prog.funcNamed "timetable/timetablelaw08.TravelReads" = some f) (hfn : Tryz.pinned.checked.prog.funcs[f]? = some fn) :
    Rows.travelReadsUptoCard.stood.looks = Tryz.pinned.checked.prog.looks [] ∧ ∀ (j : Nat) t, fn.params[j]? = some t → Tryz.pinned.checked.prog.wantsStandIn t = false := by
  obtain rfl : f = 3 := Option.some.inj ((show Tryz.prog.funcNamed "timetable/timetablelaw08.TravelReads" = some 3 by kernel_rfl).symm.trans hf) |>.symm
  obtain rfl : fn = Tryz.f3 := (Option.some.inj (Tryz.func3.symm.trans hfn)).symm
  refine ⟨by kernel_rfl, fun j t ht => ?_⟩
  have hall : (Tryz.f3.params.toList.all fun u => !Tryz.prog.wantsStandIn u) = true := by kernel_rfl
  exact (show Tryz.prog.wantsStandIn t = false by simpa using List.all_eq_true.1 hall t (by simpa using Array.mem_of_getElem? ht))

theorem card : Rows.TravelReadsUptoCardSaid :=
  Claim7.holds_tied_plain_at .later [] _ _ _ _ said (fun _ h => by cases h) (by kernel_rfl) (fun _ h => by cases h) travelReadsUpto_row_tie rfl ⟨rfl, rfl⟩ (by kernel_rfl) rfl plain (by kernel_rfl)
#print axioms card
end Go.Proofs.YtjcfkbichmlgmaaGreatDoor.lawTravelReadsUpto
