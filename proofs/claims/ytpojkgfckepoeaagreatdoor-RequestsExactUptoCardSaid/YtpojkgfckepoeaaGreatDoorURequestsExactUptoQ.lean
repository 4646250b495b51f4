/- The statement RequestsExact, joined to its walk. Conditions: as in the card's text. PROVED: timetablelaw12.RequestsExact returns true for every list of requests, records and student: the layer checks, writes, reads, and lists requests as the second program does. Conditions: what the call reads is of bulk at most 1048576. -/
import Derived.ChangeMaps5
import Derived.Test.YtpojkgfckepoeaaGreatDoorRows
import Derived.WalkKit
import Derived.WalkSpells
import Derived.WalkLawsBesides
import Derived.BigGuardPart
import Derived.Lib.Hide
import Derived.Laws.BitsAllLaws
import Derived.Laws.BitsLemmas
import Derived.Lib.LaidTab
import Derived.Test.YtpojkgfckepoeaaGreatDoorShelf
import Derived.Lib.ConvBytes
import Derived.Deep.QuietTactic
import Derived.BigQuiet
import Derived.Test.YtpojkgfckepoeaaGreatDoorCards
import Derived.Test.YtpojkgfckepoeaaGreatDoorTie
import Derived.ProofKit
import Derived.OpenShut
import Derived.LaidMore
import Derived.Lay
import Derived.SevenTiedAt
import Derived.Stop.Joined
import Derived.Stop.LaidErr
import Derived.Deep.DeepHandedRow
import Derived.Lib.LaidU8
import Derived.LaidSub
import Derived.Laws.ResultCell
import Derived.RegionTactic
import Derived.BigRegion
import Derived.Deep.RegionHeld3
import Derived.Deep.DeepCutAuto
import Derived.Lib.SmallJoins
import Derived.Lib.SplitLaws
import Derived.Lib.CountLaws
import Derived.Lib.IndexMore
import Derived.Lib.Split
import Derived.Lib.Join
import Derived.Lib.ItoaNum
import Derived.Laws.AppendOwn
import Derived.Deep.Slices
import Derived.Deep.Fields
import Derived.ChangeSame
import Derived.Deep.AppendLies
import Derived.Test.YtpojkgfckepoeaaGreatDoorShelfS
import Derived.Test.YtpojkgfckepoeaaGreatDoorShelfT
import Derived.Lib.ItoaLen
import Derived.Lib.AppendIntMem
import Derived.Lib.PathFns
import Derived.Maps.Range
import Derived.Lib.OwnBridge
import Derived.Sort.OwnSorted
import Derived.Sort.Walk0
import Derived.Maps.OwnSet
import Derived.Deep.RegionLaw
import Derived.Deep.RegionLawGrows
import Derived.StringKeys
import Derived.Sort.LotA
import Derived.Shelf.SlSortCmp.NoneTotal
import Derived.Shelf.SlSortCmp.InsertionK
import Derived.Shelf.SlSortCmp.SiftDownK
import Derived.Shelf.SlSortCmp.KitK
import Derived.Shelf.SlSortCmp.ReverseRangeK
import Derived.Maps.RangeWalk
import Derived.Ground.SlsfProg
import Derived.Test.YtpojkgfckepoeaaGreatDoorURequestsExactUptoF
import Derived.Test.YtpojkgfckepoeaaGreatDoorURequestsExactUptoG
import Derived.Test.YtpojkgfckepoeaaGreatDoorUStuds
import Derived.Test.YtpojkgfckepoeaaGreatDoorULawQEx
import Derived.Test.YtpojkgfckepoeaaGreatDoorURequestsExactUptoH
import Derived.Test.YtpojkgfckepoeaaGreatDoorURequestsExactUptoI
namespace Go.Proofs.YtpojkgfckepoeaaGreatDoor.lawRequestsExactUpto
open Go.ChangeShapes Go.WideShapes Go.ChangeAt Go.RowKit
set_option maxRecDepth 100000


theorem lifted (os : Os) (started : os.Started) (H : Type) (enc : TypeId × Value → H) (F : Stop.Interp) :
    ReturnsInHanded {} Tryz.checked os 3 .any ((Rows.OpenSpec.upto Rows.requestsExactSpec).preRow enc Tryz.prog Tryz.f3 [] false Rows.requestsExactUptoRow.laid) (((Rows.OpenSpec.upto Rows.requestsExactSpec).at F).post enc Tryz.prog Tryz.f3 false true false false) := by
  obtain ⟨places, hx⟩ := reads0 os enc
  refine law_lifted (c := Rows.requestsExactSpec) started rfl rfl rfl (by kernel_rfl) Tryz.func3 (by kernel_rfl) ?_ ?_ ?_ ?_
  · have hall : (Tryz.f3.params.toList.all fun t => Tryz.prog.readableRec t && decide (t < Tryz.prog.types.size)) = true := by kernel_rfl
    intro t ht
    have := List.all_eq_true.1 hall t ht
    simpa using this
  · intro ds hd
    rw [Tryz.params3] at hd
    match ds, hd with
    | [d1, d2, d3], _ => exact ⟨rfl, rfl, rfl⟩
  · exact ⟨World.laidAll Tryz.prog os Rows.requestsExactUptoRow.laid, fun _ _ => 0, ⟨#[], #[.slice none 0 0, .slice none 0 0, .string ⟨#[]⟩], []⟩, World.laidAll_os _ _ _, shaped0 os, (Input.okWide_of_okWideB (base := 0) (ok0 os)).1, (Input.okWide_of_okWideB (ok0 os)).2,
      OpenSpec.preRow_of_cond 8 hx (by kernel_rfl) (fun k hk => by obtain rfl := Option.some.inj hk; rfl) (by kernel_rfl) (met0 os), by
        simp only [Assume.holds]
        exact ⟨by simp, by simp, (fun h => by cases h), by simp, by simp⟩⟩
  · intro W base args ds ps hval hA hlt hcond hL hsh
    have hS : Std W := std_of hL hsh (by kernel_rfl) (by kernel_rfl) (by kernel_rfl) (by kernel_rfl)
    rw [Tryz.params3] at hA hval
    obtain ⟨v0, v1, v2, d0, d1, d2, p0, p1, p2, rfl, rfl, rfl, h0, h1, h2⟩ := trodAll_three hA
    have hk0 := of_decide_eq_true (hcond _ rfl)
    simp only [Rows.uptoBulkAll] at hk0
    obtain ⟨A0, ls0, c0, rfl, hc0, hA0, hl0, hm0, hz0⟩ := (opens_reqs bulkGood).slice Tryz.underlying22 (hval 0 22 v0 rfl rfl) h0 (by show Rows.uptoBulk _ ≤ 1048576; omega)
    obtain ⟨A1, ls1, c1, rfl, hA1, hm1, hz1⟩ := open_recs (hval 1 23 v1 rfl rfl) h1 (by omega)
    obtain ⟨x2, rfl, rfl, -, hz2⟩ := Go.ChangeMaps.open_string Tryz.underlying9 (hval 2 9 v2 rfl rfl) h2
    exact exact12_walk A0 ls0 c0 A1 ls1 c1 x2 W hS hc0 (by have : ls0.length ≤ 1048576 := hl0; omega) (fun x hx => by have h1 : x.1.size ≤ 1048576 := (hz0 x hx).1.1; have h2 : x.2.2.2.length ≤ 1048576 := (hz0 x hx).2.2.2.1; omega) hA0.any hA1 hm1 hz1

theorem said : Rows.RequestsExactUptoSaid :=
  OpenClaim.holds_of_cond 3 Tryz.f3 rfl rfl rfl rfl rfl rfl rfl ⟨rfl, rfl, rfl, rfl, rfl⟩ rfl rfl rfl rfl rfl (by kernel_rfl) Tryz.func3 closed
    (of_decide_eq_true (by kernel_rfl)) (by unfold Func.isWrapper; first | (rw [if_pos (by decide +kernel)]; kernel_rfl) | (rw [if_neg (by decide +kernel)]; exact ⟨rfl, rfl⟩))
    (fun os started H enc _ F => by rw [OpenClaim.pre_eq_preRow]; exact lifted os started H enc F)

end Go.Proofs.YtpojkgfckepoeaaGreatDoor.lawRequestsExactUpto

namespace Go.Proofs.YtpojkgfckepoeaaGreatDoor.lawRequestsExactUpto
open Go.ChangeShapes Go.WideShapes Go.ChangeAt Go.RowKit
set_option maxRecDepth 100000

theorem card : Rows.RequestsExactUptoCardSaid :=
  Claim7.holds_tied_plain_at .later [] _ _ _ _ said (fun _ h => by cases h) cw (fun _ h => by cases h) requestsExactUpto_row_tie rfl ⟨rfl, rfl⟩ cm rfl plain cg
#print axioms card
end Go.Proofs.YtpojkgfckepoeaaGreatDoor.lawRequestsExactUpto
