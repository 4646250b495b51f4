/- The check at the head of law 10. Condition: the program's variables hold what Std says. Plain: the grids that were made, with numbers of weeks. No condition. -/
import Derived.Test.YtimcdikeajbabaaGreatDoorRows
import Derived.WalkKit
import Derived.WalkSpells
import Derived.WalkLawsBesides
import Derived.BigGuardPart
import Derived.Lib.Hide
import Derived.Laws.BitsAllLaws
import Derived.Laws.BitsLemmas
import Derived.Lib.LaidTab
import Derived.Test.YtimcdikeajbabaaGreatDoorShelf
import Derived.Lib.ConvBytes
import Derived.Deep.QuietTactic
import Derived.BigQuiet
import Derived.Test.YtimcdikeajbabaaGreatDoorShelfS
import Derived.Laws.ResultCell
import Derived.RegionTactic
import Derived.BigRegion
import Derived.Deep.RegionHeld3
import Derived.Deep.DeepCutAuto
import Derived.Lib.SmallJoins
import Derived.Lib.SplitLaws
import Derived.Lib.CountLaws
import Derived.Lib.IndexMore
import Derived.Lib.Split
import Derived.Lib.Join
import Derived.Lib.ItoaNum
import Derived.Laws.AppendOwn
import Derived.Test.YtimcdikeajbabaaGreatDoorShelfT
import Derived.Lib.ItoaLen
import Derived.Lib.AppendIntMem
import Derived.Deep.AppendLies
import Derived.Lib.PathFns
import Derived.Maps.Range
import Derived.Lib.OwnBridge
import Derived.Sort.OwnSorted
import Derived.Sort.Walk0
import Derived.Test.YtimcdikeajbabaaGreatDoorCards
import Derived.Test.YtimcdikeajbabaaGreatDoorTie
import Derived.ProofKit
import Derived.OpenShut
import Derived.LaidMore
import Derived.Lay
import Derived.SevenTiedAt
import Derived.Stop.Joined
import Derived.Stop.LaidErr
import Derived.Deep.DeepHandedRow
import Derived.Lib.LaidU8
import Derived.LaidSub
import Derived.Deep.Slices
import Derived.Deep.Fields
import Derived.ChangeSame
import Derived.Shelf.SlSortCmp.NoneTotal
import Derived.Ground.SlsfProg
import Derived.Lib.SliceRun
import Derived.Lib.Walk
import Derived.RangeFuncNested
import Derived.RangeFuncBound
import Derived.RangeFuncCalls
import Derived.RangeFuncLeaves
import Derived.RangeFuncBox
import Derived.RangeFuncWrites
import Derived.Shelf.Abstract
import Derived.Shelf.RegionOpen
import Derived.OwnWalkIn
import Derived.TacticsInMore
import Derived.LoopNIn
import Derived.LoopIn
import Derived.Maps.AppendAt
import Derived.Deep.RegionLaw
import Derived.Deep.RegionLawGrows
import Derived.WalkMore
import Derived.Test.YtimcdikeajbabaaGreatDoorYKLines
import Derived.Test.YtimcdikeajbabaaGreatDoorYKTimes
import Derived.Test.YtimcdikeajbabaaGreatDoorYTgB
import Derived.Test.YtimcdikeajbabaaGreatDoorYSameL
namespace Go.Proofs.YtimcdikeajbabaaGreatDoor
open Go.RowKit
set_option maxRecDepth 100000

def f10 : List ByteArray := [⟨#[99, 49]⟩, ⟨#[77, 65]⟩, ⟨#[76]⟩, ⟨#[50]⟩, ⟨#[111, 100, 100, 47, 101, 118, 101, 110]⟩, ⟨#[51, 48]⟩, ⟨#[]⟩, ⟨#[97, 100, 97]⟩, ⟨#[77, 111, 32, 51, 59, 84, 117, 32, 49]⟩]
def cls10 : Cls := (⟨#[99, 49]⟩, ⟨#[77, 65]⟩, ⟨#[76]⟩, 2, [5, 10], 30, [], [⟨#[97, 100, 97]⟩], [(0, 2), (1, 0)])
theorem read10 : clssRead 5 10 480 45 4 (plainR 1 [f10]) = ([cls10], []) := by kernel_rfl
theorem times10 : (timesK 5 10 480 45 cls10).length = 4 := by kernel_rfl
theorem week10_walk (w : World) :
    Calls Tryz.prog 35 #[] w fun e w' => e = .returned (.agg #[.int .i64 5, .int .i64 10, .int .i64 480, .int .i64 45]) ∧ Below w.heap.size w w' := by
  go_enter Tryz.func35, Tryz.ntmps35
  go_wp2
  refine end_struct1 rfl (Or.inl rfl) w.heap.size (.int .i64 5) (.int .i64 10) (.int .i64 480) (.int .i64 45) rfl rfl (by simp) (by simp) (by simp) (by simp) ⟨rfl, (by repeat (first | exact Below.refl _ _ | refine ext_alloc ?_ _ | refine ext_drewN ?_ _ | refine ext_drew ?_ | refine ext_trans ?_ (by assumption)))⟩
set_option maxHeartbeats 4000000 in
theorem awake10_walk (w : World) (hS : Std w) :
    Calls Tryz.prog 8 #[] w fun e w' => e = .returned (.bool true) ∧ Below w.heap.size w w' := by
  obtain ⟨W, hW⟩ : ∃ W, (w.alloc (.cells #[.string ⟨#[99, 49]⟩, .string ⟨#[77, 65]⟩, .string ⟨#[76]⟩, .string ⟨#[50]⟩, .string ⟨#[111, 100, 100, 47, 101, 118, 101, 110]⟩, .string ⟨#[51, 48]⟩, .string ⟨#[]⟩, .string ⟨#[97, 100, 97]⟩, .string ⟨#[77, 111, 32, 51, 59, 84, 117, 32, 49]⟩] 9)).alloc (.cells #[.slice (some ⟨w.heap.size, 0, none⟩) 9 9] 44) = W := ⟨_, rfl⟩
  have hb0 : Below w.heap.size w W := by rw [← hW]; exact (by repeat (first | exact Below.refl _ _ | refine ext_alloc ?_ _ | refine ext_drewN ?_ _ | refine ext_drew ?_ | refine ext_trans ?_ (by assumption)))
  have hX : ListsIn W.heap.size W (some ⟨w.heap.size + 1, 0, none⟩) [f10] := by
    rw [← hW]
    intro _
    refine ⟨w.heap.size + 1, 0, rfl, by simp, fun j x hx => ?_⟩
    match j, hx with
    | 0, hx =>
      simp at hx
      subst hx
      have c0 : ∀ A : World, (A.alloc (.cells #[.slice (some ⟨w.heap.size, 0, none⟩) 9 9] 44)).cell? ⟨A.heap.size, 0, none⟩ = some (.slice (some ⟨w.heap.size, 0, none⟩) 9 9) := fun A => by simp
      have c1 := c0 (w.alloc (.cells #[.string ⟨#[99, 49]⟩, .string ⟨#[77, 65]⟩, .string ⟨#[76]⟩, .string ⟨#[50]⟩, .string ⟨#[111, 100, 100, 47, 101, 118, 101, 110]⟩, .string ⟨#[51, 48]⟩, .string ⟨#[]⟩, .string ⟨#[97, 100, 97]⟩, .string ⟨#[77, 111, 32, 51, 59, 84, 117, 32, 49]⟩] 9))
      rw [World.size_alloc] at c1
      refine ⟨some ⟨w.heap.size, 0, none⟩, 9, c1, fun _ => ⟨w.heap.size, 0, rfl, by simp; omega, fun k z hz => ?_⟩⟩
      unfold f10 at hz
      match k, hz with
      | 0, hz => simp at hz; subst hz; simp
      | 1, hz => simp at hz; subst hz; simp
      | 2, hz => simp at hz; subst hz; simp
      | 3, hz => simp at hz; subst hz; simp
      | 4, hz => simp at hz; subst hz; simp
      | 5, hz => simp at hz; subst hz; simp
      | 6, hz => simp at hz; subst hz; simp
      | 7, hz => simp at hz; subst hz; simp
      | 8, hz => simp at hz; subst hz; simp
      | k + 9, hz => simp at hz
    | j + 1, hx => simp at hx
  have hpl := plain_walk (some ⟨w.heap.size + 1, 0, none⟩) [f10] 1 W hX (by decide) (by decide)
  have hS0 := hS.after hb0
  replace hW := hide hW
  clear hX
  go_enter Tryz.func8, Tryz.ntmps8
  go_wp2_with fail
  rw [hW.out]
  refine hpl.mono ?_
  clear hpl
  rintro e w1 ⟨v, rfl, hR, hb1⟩
  obtain ⟨A1, c1, rfl⟩ : ∃ A1 c1, v = .slice A1 1 c1 := by obtain ⟨us, -, h, -⟩ := hR; exact owns_form h
  have hb := ext_trans hb0 hb1
  have hR1 := recs_at hR
  have hS1 := hS0.after hb1
  clear hb0 hb1 hS0 hR hW
  go_wp2_with fail
  refine (week10_walk w1).mono ?_
  rintro e w2 ⟨rfl, hb2⟩
  have hcall := kfread_walk 5 10 480 45 4 A1 (plainR 1 [f10]) c1 w2 (hS1.after hb2) ((hR1.below hb2).more hb2.size) (by decide) (by decide)
  replace hb := ext_trans hb hb2
  clear hR1 hS1 hb2
  go_wp2_with fail
  refine hcall.mono ?_
  clear hcall
  rintro e w3 ⟨v6, v8, rfl, hL, hP, hb3⟩
  rw [read10] at hL hP
  obtain ⟨A6, c6, rfl, -, hat⟩ := hL.any
  obtain ⟨A8, c8p, rfl⟩ : ∃ A8 c8p, v8 = .slice A8 0 c8p := owns_form hP
  obtain ⟨gb, go, A4, c4, Aa, c6', A7, c7, Ac, c8, rfl, -, hgl, hq9, ⟨l4, l6, l7, l8⟩, a4, a6, a7, a8⟩ := hat.any.clsF (j := 0) (x := cls10) rfl
  rw [Nat.zero_mul, Nat.add_zero] at hq9
  unfold nineOf cls10 at hq9
  obtain ⟨q0, q1, q2, q3, q4, q5, q6, q7, q8⟩ := hq9
  dsimp only [List.length] at q0 q1 q2 q3 q4 q5 q6 q7 q8
  obtain ⟨sb, so, rfl, -, hsb, s0, s1⟩ := a8.start (j := 0) (x := (0, 2)) rfl
  rw [Nat.zero_mul, Nat.add_zero] at s0 s1
  dsimp only at s0 s1
  replace hb := ext_trans hb hb3
  have hCn : Cn10 gb go (.string ⟨#[99, 49]⟩) gb (go + 1) (.string ⟨#[77, 65]⟩) gb (go + 2) (.string ⟨#[76]⟩) gb (go + 3) (.int .i64 2) gb (go + 4) (.slice A4 2 c4) gb (go + 5) (.int .i64 30) gb (go + 6) (.slice Aa 0 c6') gb (go + 7) (.slice A7 1 c7) gb (go + 8) (.slice (some ⟨sb, so, none⟩) 2 c8) sb (so + 1) (.int .i64 2) w3 := ⟨q0, q1, q2, q3, q4, q5, q6, q7, q8, s1⟩
  have hweek := hide (fun (V : World) (hV : Below w3.heap.size w3 V) => (week10_walk V).mono fun _ _ ⟨he, hb⟩ => (⟨he, ext_trans hV hb, hCn.later (ext_trans hV hb)⟩ : _ = Ending.returned (.agg #[.int .i64 5, .int .i64 10, .int .i64 480, .int .i64 45]) ∧ Below w3.heap.size w3 _ ∧ Cn10 gb go (.string ⟨#[99, 49]⟩) gb (go + 1) (.string ⟨#[77, 65]⟩) gb (go + 2) (.string ⟨#[76]⟩) gb (go + 3) (.int .i64 2) gb (go + 4) (.slice A4 2 c4) gb (go + 5) (.int .i64 30) gb (go + 6) (.slice Aa 0 c6') gb (go + 7) (.slice A7 1 c7) gb (go + 8) (.slice (some ⟨sb, so, none⟩) 2 c8) sb (so + 1) (.int .i64 2) _))
  have htimes0 : ∀ V : World, Below w3.heap.size w3 V → Calls Tryz.prog 17 #[.agg #[.string ⟨#[99, 49]⟩, .string ⟨#[77, 65]⟩, .string ⟨#[76]⟩, .int .i64 2, .slice A4 2 c4, .int .i64 30, .slice Aa 0 c6', .slice A7 1 c7, .slice (some ⟨sb, so, none⟩) 2 c8], .agg #[.int .i64 5, .int .i64 10, .int .i64 480, .int .i64 45]] V fun e w' => ∃ A9 c9, e = .returned (.slice A9 4 c9) ∧ Below w3.heap.size w3 w' ∧ Cn10 gb go (.string ⟨#[99, 49]⟩) gb (go + 1) (.string ⟨#[77, 65]⟩) gb (go + 2) (.string ⟨#[76]⟩) gb (go + 3) (.int .i64 2) gb (go + 4) (.slice A4 2 c4) gb (go + 5) (.int .i64 30) gb (go + 6) (.slice Aa 0 c6') gb (go + 7) (.slice A7 1 c7) gb (go + 8) (.slice (some ⟨sb, so, none⟩) 2 c8) sb (so + 1) (.int .i64 2) w' := fun V hV => by
    refine (ctimes_walk ⟨#[99, 49]⟩ ⟨#[77, 65]⟩ ⟨#[76]⟩ 2 A4 2 c4 30 Aa 0 c6' A7 1 c7 (some ⟨sb, so, none⟩) 2 c8 [5, 10] [] [⟨#[97, 100, 97]⟩] [(0, 2), (1, 0)] 5 10 480 45 V rfl rfl (by decide) (by decide) (a4.any.later hV) (a8.any.later hV)).mono ?_
    rintro e w' ⟨v, rfl, ho, hb⟩
    obtain ⟨A9, c9, rfl⟩ := ho.form
    exact ⟨A9, c9, by rw [show (timesK 5 10 480 45 (⟨#[99, 49]⟩, ⟨#[77, 65]⟩, ⟨#[76]⟩, 2, [5, 10], 30, [], [⟨#[97, 100, 97]⟩], [(0, 2), (1, 0)])).length = 4 from times10], ext_trans hV hb, hCn.later (ext_trans hV hb)⟩
  have htimes := hide htimes0
  clear htimes0
  have hCd := hCn.drew
  have hrefl := Below.refl w3.heap.size w3
  obtain ⟨z0, z1, z2, z3, z4, z5, z6, z7, z8, z9⟩ := id hCn
  clear hL hP hb3 hat a4 a6 a7 a8 q0 q1 q2 q3 q4 q5 q6 q7 q8 s0 s1 l4 l6 l7 l8
  dsimp only [List.length] at *
  go_upto_region 2 with fail
  go_region_held3 (fun W' => W'.cell? ⟨gb, go, none⟩ = some (.string ⟨#[99, 49]⟩) ∧ W'.cell? ⟨gb, go + 1, none⟩ = some (.string ⟨#[77, 65]⟩) ∧ W'.cell? ⟨gb, go + 2, none⟩ = some (.string ⟨#[76]⟩) ∧ W'.cell? ⟨gb, go + 3, none⟩ = some (.int .i64 2) ∧ W'.cell? ⟨gb, go + 4, none⟩ = some (.slice A4 2 c4) ∧ W'.cell? ⟨gb, go + 5, none⟩ = some (.int .i64 30) ∧ W'.cell? ⟨gb, go + 6, none⟩ = some (.slice Aa 0 c6') ∧ W'.cell? ⟨gb, go + 7, none⟩ = some (.slice A7 1 c7) ∧ W'.cell? ⟨gb, go + 8, none⟩ = some (.slice (some ⟨sb, so, none⟩) 2 c8) ∧ W'.cell? ⟨sb, so + 1, none⟩ = some (.int .i64 2)) (first | ((repeat (first | (with_reducible assumption) | (with_reducible refine Cn10.alloc ?_ _) | (with_reducible refine Cn10.drew ?_) | (with_reducible refine Cn10.set ?_ ?_ ?_ ?_ ?_ ?_ ?_ ?_ ?_ ?_ ?_ _) | omega)); done)) (first | (go_at_call 35; refine (hweek.out _ (by repeat (first | (with_reducible assumption) | (with_reducible refine ext_alloc ?_ _) | (with_reducible refine ext_drew ?_)))).mono ?_; rintro e w4 ⟨rfl, hb4, hx4⟩) | (go_at_call 17; refine (htimes.out _ (by repeat (first | (with_reducible assumption) | (with_reducible refine ext_alloc ?_ _) | (with_reducible refine ext_drew ?_)))).mono ?_; rintro e w5 ⟨A9, c9, rfl, hb5, hx5⟩))
  all_goals
    go_wp2
    go_ret
    exact ⟨rfl, by first | exact ext_trans hb (ext_drew (by assumption)) | exact ext_trans hb (by assumption)⟩
end Go.Proofs.YtimcdikeajbabaaGreatDoor

namespace Go.Proofs.YtimcdikeajbabaaGreatDoor
open Go.RowKit
set_option maxRecDepth 100000

theorem week_made {d s b m n : Int} (d1 : 1 ≤ d) (d2 : d ≤ 5) (s1 : 2 ≤ s) (s2 : s ≤ 8) (b1 : 480 ≤ b) (b2 : b ≤ 585) (m1 : 30 ≤ m) (m2 : m ≤ 60) (n1 : 1 ≤ n) (n2 : n ≤ 20) : weekB d s b m n = true := by
  have h1 : s * m ≤ 8 * m := Int.mul_le_mul_of_nonneg_right s2 (by omega)
  have hg : gridV d s b m = 0 := gridV_no (by omega)
  simp only [weekB, hg, decide_true, Bool.true_and, decide_eq_true_eq]
  omega
end Go.Proofs.YtimcdikeajbabaaGreatDoor
