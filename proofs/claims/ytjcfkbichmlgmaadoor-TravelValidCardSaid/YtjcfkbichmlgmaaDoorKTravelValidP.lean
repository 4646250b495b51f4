/- PROVED: timetablelaw08.TravelValid returns true for every table of ways and two strings: the layer's Valid, Write, Close and Between answer as the second program's do. Conditions: the listed package-level variables hold what the program's text lays (tied by the card). -/
import Derived.ChangeMaps5
import Derived.Test.YtjcfkbichmlgmaaDoorKVars
import Derived.Test.YtjcfkbichmlgmaaDoorKLawV8
namespace Go.Proofs.YtjcfkbichmlgmaaDoor.lawTravelValid
open Go.ChangeShapes Go.WideShapes Go.ChangeAt Go.RowKit
set_option maxRecDepth 100000

def kTrav : Kind (List ByteArray × List (List Int)) := kPair (kSlice kStr) (kSlice (kSlice kInt))
theorem opens_travel (G : Good) : Opens G Tryd.prog 25 kTrav fun a => (G.len a.1.length ∧ a.1.length ≤ maxLen ∧ ∀ x ∈ a.1, G.str x ∧ x.size ≤ maxLen) ∧ (G.len a.2.length ∧ a.2.length ≤ maxLen ∧ ∀ x ∈ a.2, G.len x.length ∧ x.length ≤ maxLen ∧ ∀ y ∈ x, True) := by
  have h := opensF_cons (G := G) (P := Tryd.prog) (f := ⟨"Buildings", 22, 0, false, "", "", 0⟩) (o := 0) rfl (opens_slice Tryd.underlying22 (by kernel_rfl) (by decide) (opens_str Tryd.underlying9 (by kernel_rfl))) (opensF_one (f := ⟨"Slots", 23, 1, false, "", "", 24⟩) rfl (opens_slice Tryd.underlying23 (by kernel_rfl) (by decide) (opens_slice Tryd.underlying43 (by kernel_rfl) (by decide) (opens_int Tryd.underlying3 (by kernel_rfl)))))
  exact opens_struct Tryd.underlying25 (by kernel_rfl) h
theorem reads0 (os : Os) {H : Type} (enc : TypeId × Value → H) : ∃ places, DataW.whole enc Tryd.prog ((World.laidAll Tryd.prog os Rows.travelValidRow.laid).forCall (fun _ _ => 0) ⟨#[], #[.agg #[.slice none 0 0, .slice none 0 0], .string ⟨#[]⟩, .string ⟨#[]⟩], []⟩).memory Tryd.f3.params.toList Rows.travelValidSpec.vars false [.agg #[.slice none 0 0, .slice none 0 0], .string ⟨#[]⟩, .string ⟨#[]⟩] 8 =
    some ([.agg [.nil, .nil], .lit (.string []), .lit (.string [])], [], places) :=
  ⟨[], by kernel_rfl⟩
theorem met0 (os : Os) : laidMet Tryd.prog Rows.travelValidRow.laid ((World.laidAll Tryd.prog os Rows.travelValidRow.laid).forCall (fun _ _ => 0) ⟨#[], #[.agg #[.slice none 0 0, .slice none 0 0], .string ⟨#[]⟩, .string ⟨#[]⟩], []⟩).memory :=
  laidMet_laidAll _ (by kernel_rfl) (by kernel_rfl)
theorem shaped0 (os : Os) : ((World.laidAll Tryd.prog os Rows.travelValidRow.laid).forCall (fun _ _ => 0) ⟨#[], #[.agg #[.slice none 0 0, .slice none 0 0], .string ⟨#[]⟩, .string ⟨#[]⟩], []⟩).Shaped Tryd.checked.prog :=
  World.shaped_of_ZipB (by kernel_rfl) (by kernel_rfl)
theorem ok0 (os : Os) : Input.okWideB Tryd.checked.prog ((World.laidAll Tryd.prog os Rows.travelValidRow.laid).forCall (fun _ _ => 0) ⟨#[], #[.agg #[.slice none 0 0, .slice none 0 0], .string ⟨#[]⟩, .string ⟨#[]⟩], []⟩) 3 ⟨#[], #[.agg #[.slice none 0 0, .slice none 0 0], .string ⟨#[]⟩, .string ⟨#[]⟩], []⟩ = true := by kernel_rfl

theorem lifted (os : Os) (started : os.Started) (H : Type) (enc : TypeId × Value → H) (F : Stop.Interp) :
    ReturnsInHanded {} Tryd.checked os 3 .any ((OpenSpec.ofChange Rows.travelValidSpec).preRow enc Tryd.prog Tryd.f3 [] false Rows.travelValidRow.laid) (((OpenSpec.ofChange Rows.travelValidSpec).at F).post enc Tryd.prog Tryd.f3 false true false false) := by
  obtain ⟨places, hx⟩ := reads0 os enc
  refine law_lifted (c := Rows.travelValidSpec) started rfl rfl rfl (by kernel_rfl) Tryd.func3 (by kernel_rfl) ?_ ?_ ?_ ?_
  · have hall : (Tryd.f3.params.toList.all fun t => Tryd.prog.readableRec t && decide (t < Tryd.prog.types.size)) = true := by kernel_rfl
    intro t ht
    have := List.all_eq_true.1 hall t ht
    simpa using this
  · intro ds hd
    rw [Tryd.params3] at hd
    match ds, hd with
    | [d1, d2, d3], _ => exact ⟨rfl, rfl, rfl⟩
  · exact ⟨World.laidAll Tryd.prog os Rows.travelValidRow.laid, fun _ _ => 0, ⟨#[], #[.agg #[.slice none 0 0, .slice none 0 0], .string ⟨#[]⟩, .string ⟨#[]⟩], []⟩, World.laidAll_os _ _ _, shaped0 os, (Input.okWide_of_okWideB (base := 0) (ok0 os)).1, (Input.okWide_of_okWideB (ok0 os)).2,
      OpenSpec.preRow_of_cond 8 hx (by kernel_rfl) (fun k hk => by cases hk) (by kernel_rfl) (met0 os), by
        simp only [Assume.holds]
        exact ⟨by simp, by simp, (fun h => by cases h), by simp, by simp⟩⟩
  · intro W base args ds ps hval hA hlt _ hL hsh
    rw [Tryd.params3] at hA hval
    obtain ⟨v0, v1, v2, d0, d1, d2, p0, p1, p2, rfl, rfl, rfl, h0, h1, h2⟩ := trodAll_three hA
    obtain ⟨⟨bs, xs⟩, vs, rfl, hrep, hz⟩ := (opens_travel noGood).agg Tryd.underlying25 (hval 0 25 v0 rfl rfl) h0 trivial
    obtain ⟨us, ts, rfl, ⟨D, d, rfl, hd, hD⟩, A, c, rfl, hc, hA2⟩ := hrep
    obtain ⟨x1, rfl, rfl, -, -⟩ := Go.ChangeMaps.open_string Tryd.underlying9 (hval 1 9 v1 rfl rfl) h1
    obtain ⟨x2, rfl, rfl, -, -⟩ := Go.ChangeMaps.open_string Tryd.underlying9 (hval 2 9 v2 rfl rfl) h2
    obtain ⟨⟨-, hm1, -⟩, -, hm2, hm3⟩ := hz
    dsimp only at hd hD hc hA2 hm1 hm2 hm3
    exact valid8_walk D A bs xs d c x1 x2 W hd (by unfold maxLen at hm1; omega) (by unfold maxLen at hm2; omega) (fun x hx => by have := (hm3 x hx).2.1; unfold maxLen at this; omega) hD hA2

theorem said : Rows.TravelValidSaid :=
  OpenClaim.holds_of_cond 3 Tryd.f3 rfl rfl rfl rfl rfl rfl rfl ⟨rfl, rfl, rfl, rfl, rfl⟩ rfl rfl rfl rfl rfl (by kernel_rfl) Tryd.func3 (by kernel_rfl)
    (of_decide_eq_true (by kernel_rfl)) (by unfold Func.isWrapper; first | (rw [if_pos (by decide +kernel)]; kernel_rfl) | (rw [if_neg (by decide +kernel)]; exact ⟨rfl, rfl⟩))
    (fun os started H enc _ F => by rw [OpenClaim.pre_eq_preRow]; exact lifted os started H enc F)

/-- No parameter wants a stand-in; the program's own looks are as the card says. -/
theorem plain (f : FuncId) (fn : Func) (hf : Tryd.pinned.checked.prog.funcNamed "timetable/timetablelaw08.TravelValid" = some f) (hfn : Tryd.pinned.checked.prog.funcs[f]? = some fn) :
    Rows.travelValidCard.stood.looks = Tryd.pinned.checked.prog.looks [] ∧ ∀ (j : Nat) t, fn.params[j]? = some t → Tryd.pinned.checked.prog.wantsStandIn t = false := by
  obtain rfl : f = 3 := Option.some.inj ((show Tryd.prog.funcNamed "timetable/timetablelaw08.TravelValid" = some 3 by kernel_rfl).symm.trans hf) |>.symm
  obtain rfl : fn = Tryd.f3 := (Option.some.inj (Tryd.func3.symm.trans hfn)).symm
  refine ⟨by kernel_rfl, fun j t ht => ?_⟩
  have hall : (Tryd.f3.params.toList.all fun u => !Tryd.prog.wantsStandIn u) = true := by kernel_rfl
  exact (show Tryd.prog.wantsStandIn t = false by simpa using List.all_eq_true.1 hall t (by simpa using Array.mem_of_getElem? ht))

theorem card : Rows.TravelValidCardSaid :=
  Claim7.holds_tied_plain_at .later [] _ _ _ _ said (fun _ h => by cases h) (by kernel_rfl) (fun _ h => by cases h) travelValid_row_tie rfl ⟨rfl, rfl⟩ (by kernel_rfl) rfl plain (by kernel_rfl)
#print axioms card
end Go.Proofs.YtjcfkbichmlgmaaDoor.lawTravelValid
