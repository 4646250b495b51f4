/- The statement CoursefileReads, joined to its walk. Conditions: as in the card's text. PROVED: timetablelaw10.CoursefileReads returns true for every list of records, grid and number of weeks: the layer reads classes as the second program does. Conditions: what the call reads is of bulk at most 1048576 (the statement's own bound); the listed package-level variables hold what the program's text lays (tied by the card). -/
import Derived.Test.YtimcdikeajbabaaGreatDoorRows
import Derived.WalkKit
import Derived.WalkSpells
import Derived.WalkLawsBesides
import Derived.BigGuardPart
import Derived.Lib.Hide
import Derived.Laws.BitsAllLaws
import Derived.Laws.BitsLemmas
import Derived.Lib.LaidTab
import Derived.Test.YtimcdikeajbabaaGreatDoorShelf
import Derived.Lib.ConvBytes
import Derived.Deep.QuietTactic
import Derived.BigQuiet
import Derived.Test.YtimcdikeajbabaaGreatDoorCards
import Derived.Test.YtimcdikeajbabaaGreatDoorTie
import Derived.ProofKit
import Derived.OpenShut
import Derived.LaidMore
import Derived.Lay
import Derived.SevenTiedAt
import Derived.Stop.Joined
import Derived.Stop.LaidErr
import Derived.Deep.DeepHandedRow
import Derived.Lib.LaidU8
import Derived.LaidSub
import Derived.Laws.ResultCell
import Derived.RegionTactic
import Derived.BigRegion
import Derived.Deep.RegionHeld3
import Derived.Deep.DeepCutAuto
import Derived.Lib.SmallJoins
import Derived.Lib.SplitLaws
import Derived.Lib.CountLaws
import Derived.Lib.IndexMore
import Derived.Lib.Split
import Derived.Lib.Join
import Derived.Lib.ItoaNum
import Derived.Laws.AppendOwn
import Derived.Deep.AppendLies
import Derived.Deep.Slices
import Derived.Deep.Fields
import Derived.ChangeSame
import Derived.Shelf.SlSortCmp.NoneTotal
import Derived.Ground.SlsfProg
import Derived.Test.YtimcdikeajbabaaGreatDoorShelfS
import Derived.Test.YtimcdikeajbabaaGreatDoorShelfT
import Derived.Lib.ItoaLen
import Derived.Lib.AppendIntMem
import Derived.Lib.PathFns
import Derived.Maps.Range
import Derived.Lib.OwnBridge
import Derived.Sort.OwnSorted
import Derived.Sort.Walk0
import Derived.Lib.SliceRun
import Derived.Lib.Walk
import Derived.Deep.RegionLaw
import Derived.Deep.RegionLawGrows
import Derived.RangeFuncNested
import Derived.RangeFuncBound
import Derived.RangeFuncCalls
import Derived.RangeFuncLeaves
import Derived.RangeFuncBox
import Derived.RangeFuncWrites
import Derived.Shelf.Abstract
import Derived.Shelf.RegionOpen
import Derived.OwnWalkIn
import Derived.TacticsInMore
import Derived.LoopNIn
import Derived.LoopIn
import Derived.Maps.AppendAt
import Derived.WalkMore
import Derived.Test.YtimcdikeajbabaaGreatDoorZRecArg
import Derived.Test.YtimcdikeajbabaaGreatDoorZCoursefileReadsUptoF
import Derived.Test.YtimcdikeajbabaaGreatDoorZCoursefileReadsUptoG
import Derived.Test.YtimcdikeajbabaaGreatDoorZLawKRd
import Derived.Test.YtimcdikeajbabaaGreatDoorZCoursefileReadsUptoH
import Derived.Test.YtimcdikeajbabaaGreatDoorZCoursefileReadsUptoI
namespace Go.Proofs.YtimcdikeajbabaaGreatDoor.lawCoursefileReadsUpto
open Go.ChangeShapes Go.WideShapes Go.ChangeAt Go.RowKit
set_option maxRecDepth 100000

theorem list4 {xs : List Int} (h : xs.length = 4) : ∃ a b c d, xs = [a, b, c, d] := by
  match xs, h with
  | [a, b, c, d], _ => exact ⟨a, b, c, d, rfl⟩

theorem lifted (os : Os) (started : os.Started) (H : Type) (enc : TypeId × Value → H) (F : Stop.Interp) :
    ReturnsInHanded {} Tryz.checked os 3 .any ((Rows.OpenSpec.upto Rows.coursefileReadsSpec).preRow enc Tryz.prog Tryz.f3 [] false Rows.coursefileReadsUptoRow.laid) (((Rows.OpenSpec.upto Rows.coursefileReadsSpec).at F).post enc Tryz.prog Tryz.f3 false true false false) := by
  obtain ⟨places, hx⟩ := reads0 os enc
  refine law_lifted (c := Rows.coursefileReadsSpec) started rfl rfl rfl (by kernel_rfl) Tryz.func3 (by kernel_rfl) ?_ ?_ ?_ ?_
  · have hall : (Tryz.f3.params.toList.all fun t => Tryz.prog.readableRec t && decide (t < Tryz.prog.types.size)) = true := by kernel_rfl
    intro t ht
    have := List.all_eq_true.1 hall t ht
    simpa using this
  · intro ds hd
    rw [Tryz.params3] at hd
    match ds, hd with
    | [d1, d2, d3], _ => exact ⟨rfl, rfl, rfl⟩
  · exact ⟨World.laidAll Tryz.prog os Rows.coursefileReadsUptoRow.laid, fun _ _ => 0, ⟨#[], #[.slice none 0 0, .agg #[.int .i64 0, .int .i64 0, .int .i64 0, .int .i64 0], .int .i64 0], []⟩, World.laidAll_os _ _ _, shaped0 os, (Input.okWide_of_okWideB (base := 0) (ok0 os)).1, (Input.okWide_of_okWideB (ok0 os)).2,
      OpenSpec.preRow_of_cond 8 hx (by kernel_rfl) (fun k hk => by obtain rfl := Option.some.inj hk; rfl) (by kernel_rfl) (met0 os), by
        simp only [Assume.holds]
        exact ⟨by simp, by simp, (fun h => by cases h), by simp, by simp⟩⟩
  · intro W base args ds ps hval hA hlt hcond hL hsh
    have hS : Std W := std_of hL hsh (by kernel_rfl) (by kernel_rfl) (by kernel_rfl) (by kernel_rfl)
    have hW : Wds W := wds_of hL (by kernel_rfl) (by kernel_rfl)
    have hD : Dys W := dys_of hL (by kernel_rfl) (by kernel_rfl)
    rw [Tryz.params3] at hA hval
    obtain ⟨v0, v1, v2, d0, d1, d2, p0, p1, p2, rfl, rfl, rfl, h0, h1, h2⟩ := trodAll_three hA
    have hk0 := of_decide_eq_true (hcond _ rfl)
    simp only [Rows.uptoBulkAll] at hk0
    obtain ⟨A0, ls0, c0, rfl, hA0, hm0, hz0⟩ := open_recs (hval 0 22 v0 rfl rfl) h0 (by omega)
    obtain ⟨xs1, hx1, rfl⟩ := agg_ints (n := 4) (Or.inr ⟨_, hval 1 24 v1 rfl rfl⟩) (Or.inl ⟨_, Tryz.underlying24⟩) (by kernel_rfl) (by kernel_rfl)
    obtain ⟨a1, b1, c1, e1, rfl⟩ := list4 hx1
    obtain ⟨x2, rfl, -, -, -⟩ := open_int Tryz.underlying3 (hval 2 3 v2 rfl rfl) h2
    exact reads10_walk A0 ls0 c0 a1 b1 c1 e1 x2 W hS hW hD hA0 hm0 hz0

theorem said : Rows.CoursefileReadsUptoSaid :=
  OpenClaim.holds_of_cond 3 Tryz.f3 rfl rfl rfl rfl rfl rfl rfl ⟨rfl, rfl, rfl, rfl, rfl⟩ rfl rfl rfl rfl rfl (by kernel_rfl) Tryz.func3 closed
    (of_decide_eq_true (by kernel_rfl)) (by unfold Func.isWrapper; first | (rw [if_pos (by decide +kernel)]; kernel_rfl) | (rw [if_neg (by decide +kernel)]; exact ⟨rfl, rfl⟩))
    (fun os started H enc _ F => by rw [OpenClaim.pre_eq_preRow]; exact lifted os started H enc F)

end Go.Proofs.YtimcdikeajbabaaGreatDoor.lawCoursefileReadsUpto

namespace Go.Proofs.YtimcdikeajbabaaGreatDoor.lawCoursefileReadsUpto
open Go.ChangeShapes Go.WideShapes Go.ChangeAt Go.RowKit
set_option maxRecDepth 100000

theorem card : Rows.CoursefileReadsUptoCardSaid :=
  Claim7.holds_tied_plain_at .later [] _ _ _ _ said (fun _ h => by cases h) cw (fun _ h => by cases h) coursefileReadsUpto_row_tie rfl ⟨rfl, rfl⟩ cm rfl plain cg
#print axioms card
end Go.Proofs.YtimcdikeajbabaaGreatDoor.lawCoursefileReadsUpto
