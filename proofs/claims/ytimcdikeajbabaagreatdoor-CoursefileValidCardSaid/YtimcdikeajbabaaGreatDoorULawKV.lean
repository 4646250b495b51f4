/- The check at the head of law 10. Condition: the program's variables hold what Std says. Twenty-two cells that are known in a world. No condition. The statement CoursefileValid: its walk. Conditions: the classes' cells; what the program's variables hold. -/
import Derived.Test.YtimcdikeajbabaaGreatDoorRows
import Derived.WalkKit
import Derived.WalkSpells
import Derived.WalkLawsBesides
import Derived.BigGuardPart
import Derived.Lib.Hide
import Derived.Laws.BitsAllLaws
import Derived.Laws.BitsLemmas
import Derived.Lib.LaidTab
import Derived.Test.YtimcdikeajbabaaGreatDoorShelf
import Derived.Lib.ConvBytes
import Derived.Deep.QuietTactic
import Derived.BigQuiet
import Derived.Test.YtimcdikeajbabaaGreatDoorShelfS
import Derived.Laws.ResultCell
import Derived.RegionTactic
import Derived.BigRegion
import Derived.Deep.RegionHeld3
import Derived.Deep.DeepCutAuto
import Derived.Lib.SmallJoins
import Derived.Lib.SplitLaws
import Derived.Lib.CountLaws
import Derived.Lib.IndexMore
import Derived.Lib.Split
import Derived.Lib.Join
import Derived.Lib.ItoaNum
import Derived.Laws.AppendOwn
import Derived.Test.YtimcdikeajbabaaGreatDoorShelfT
import Derived.Lib.ItoaLen
import Derived.Lib.AppendIntMem
import Derived.Deep.AppendLies
import Derived.Lib.PathFns
import Derived.Maps.Range
import Derived.Lib.OwnBridge
import Derived.Sort.OwnSorted
import Derived.Sort.Walk0
import Derived.Test.YtimcdikeajbabaaGreatDoorCards
import Derived.Test.YtimcdikeajbabaaGreatDoorTie
import Derived.ProofKit
import Derived.OpenShut
import Derived.LaidMore
import Derived.Lay
import Derived.SevenTiedAt
import Derived.Stop.Joined
import Derived.Stop.LaidErr
import Derived.Deep.DeepHandedRow
import Derived.Lib.LaidU8
import Derived.LaidSub
import Derived.Deep.Slices
import Derived.Deep.Fields
import Derived.ChangeSame
import Derived.Shelf.SlSortCmp.NoneTotal
import Derived.Ground.SlsfProg
import Derived.Lib.SliceRun
import Derived.Lib.Walk
import Derived.RangeFuncNested
import Derived.RangeFuncBound
import Derived.RangeFuncCalls
import Derived.RangeFuncLeaves
import Derived.RangeFuncBox
import Derived.RangeFuncWrites
import Derived.Shelf.Abstract
import Derived.Shelf.RegionOpen
import Derived.OwnWalkIn
import Derived.TacticsInMore
import Derived.LoopNIn
import Derived.LoopIn
import Derived.Maps.AppendAt
import Derived.Deep.RegionLaw
import Derived.Deep.RegionLawGrows
import Derived.WalkMore
import Derived.Test.YtimcdikeajbabaaGreatDoorUClsR
import Derived.Test.YtimcdikeajbabaaGreatDoorUKLines
import Derived.Test.YtimcdikeajbabaaGreatDoorUSameL
import Derived.Test.YtimcdikeajbabaaGreatDoorUSame9
import Derived.Test.YtimcdikeajbabaaGreatDoorUKValR
import Derived.Test.YtimcdikeajbabaaGreatDoorUKEnd
namespace Go.Proofs.YtimcdikeajbabaaGreatDoor
open Go.RowKit
set_option maxRecDepth 100000

def f10 : List ByteArray := [⟨#[99, 49]⟩, ⟨#[77, 65]⟩, ⟨#[76]⟩, ⟨#[50]⟩, ⟨#[111, 100, 100, 47, 101, 118, 101, 110]⟩, ⟨#[51, 48]⟩, ⟨#[]⟩, ⟨#[97, 100, 97]⟩, ⟨#[77, 111, 32, 51, 59, 84, 117, 32, 49]⟩]
def cls10 : Cls := (⟨#[99, 49]⟩, ⟨#[77, 65]⟩, ⟨#[76]⟩, 2, [5, 10], 30, [], [⟨#[97, 100, 97]⟩], [(0, 2), (1, 0)])
theorem read10 : clssRead 5 10 480 45 4 (plainR 1 [f10]) = ([cls10], []) := by kernel_rfl
theorem times10 : (timesK 5 10 480 45 cls10).length = 4 := by kernel_rfl
theorem week10_walk (w : World) :
    Calls Tryz.prog 35 #[] w fun e w' => e = .returned (.agg #[.int .i64 5, .int .i64 10, .int .i64 480, .int .i64 45]) ∧ Below w.heap.size w w' := by
  go_enter Tryz.func35, Tryz.ntmps35
  go_wp2
  refine end_struct1 rfl (Or.inl rfl) w.heap.size (.int .i64 5) (.int .i64 10) (.int .i64 480) (.int .i64 45) rfl rfl (by simp) (by simp) (by simp) (by simp) ⟨rfl, (by repeat (first | exact Below.refl _ _ | refine ext_alloc ?_ _ | refine ext_drewN ?_ _ | refine ext_drew ?_ | refine ext_trans ?_ (by assumption)))⟩
set_option maxHeartbeats 4000000 in
theorem awake10_walk (w : World) (hS : Std w) :
    Calls Tryz.prog 8 #[] w fun e w' => e = .returned (.bool true) ∧ Below w.heap.size w w' := by
  obtain ⟨W, hW⟩ : ∃ W, (w.alloc (.cells #[.string ⟨#[99, 49]⟩, .string ⟨#[77, 65]⟩, .string ⟨#[76]⟩, .string ⟨#[50]⟩, .string ⟨#[111, 100, 100, 47, 101, 118, 101, 110]⟩, .string ⟨#[51, 48]⟩, .string ⟨#[]⟩, .string ⟨#[97, 100, 97]⟩, .string ⟨#[77, 111, 32, 51, 59, 84, 117, 32, 49]⟩] 9)).alloc (.cells #[.slice (some ⟨w.heap.size, 0, none⟩) 9 9] 44) = W := ⟨_, rfl⟩
  have hb0 : Below w.heap.size w W := by rw [← hW]; exact (by repeat (first | exact Below.refl _ _ | refine ext_alloc ?_ _ | refine ext_drewN ?_ _ | refine ext_drew ?_ | refine ext_trans ?_ (by assumption)))
  have hX : ListsIn W.heap.size W (some ⟨w.heap.size + 1, 0, none⟩) [f10] := by
    rw [← hW]
    intro _
    refine ⟨w.heap.size + 1, 0, rfl, by simp, fun j x hx => ?_⟩
    match j, hx with
    | 0, hx =>
      simp at hx
      subst hx
      have c0 : ∀ A : World, (A.alloc (.cells #[.slice (some ⟨w.heap.size, 0, none⟩) 9 9] 44)).cell? ⟨A.heap.size, 0, none⟩ = some (.slice (some ⟨w.heap.size, 0, none⟩) 9 9) := fun A => by simp
      have c1 := c0 (w.alloc (.cells #[.string ⟨#[99, 49]⟩, .string ⟨#[77, 65]⟩, .string ⟨#[76]⟩, .string ⟨#[50]⟩, .string ⟨#[111, 100, 100, 47, 101, 118, 101, 110]⟩, .string ⟨#[51, 48]⟩, .string ⟨#[]⟩, .string ⟨#[97, 100, 97]⟩, .string ⟨#[77, 111, 32, 51, 59, 84, 117, 32, 49]⟩] 9))
      rw [World.size_alloc] at c1
      refine ⟨some ⟨w.heap.size, 0, none⟩, 9, c1, fun _ => ⟨w.heap.size, 0, rfl, by simp; omega, fun k z hz => ?_⟩⟩
      unfold f10 at hz
      match k, hz with
      | 0, hz => simp at hz; subst hz; simp
      | 1, hz => simp at hz; subst hz; simp
      | 2, hz => simp at hz; subst hz; simp
      | 3, hz => simp at hz; subst hz; simp
      | 4, hz => simp at hz; subst hz; simp
      | 5, hz => simp at hz; subst hz; simp
      | 6, hz => simp at hz; subst hz; simp
      | 7, hz => simp at hz; subst hz; simp
      | 8, hz => simp at hz; subst hz; simp
      | k + 9, hz => simp at hz
    | j + 1, hx => simp at hx
  have hpl := plain_walk (some ⟨w.heap.size + 1, 0, none⟩) [f10] 1 W hX (by decide) (by decide)
  have hS0 := hS.after hb0
  replace hW := hide hW
  clear hX
  go_enter Tryz.func8, Tryz.ntmps8
  go_wp2_with fail
  rw [hW.out]
  refine hpl.mono ?_
  clear hpl
  rintro e w1 ⟨v, rfl, hR, hb1⟩
  obtain ⟨A1, c1, rfl⟩ : ∃ A1 c1, v = .slice A1 1 c1 := by obtain ⟨us, -, h, -⟩ := hR; exact owns_form h
  have hb := ext_trans hb0 hb1
  have hR1 := recs_at hR
  have hS1 := hS0.after hb1
  clear hb0 hb1 hS0 hR hW
  go_wp2_with fail
  refine (week10_walk w1).mono ?_
  rintro e w2 ⟨rfl, hb2⟩
  have hcall := kfread_walk 5 10 480 45 4 A1 (plainR 1 [f10]) c1 w2 (hS1.after hb2) ((hR1.below hb2).more hb2.size) (by decide) (by decide)
  replace hb := ext_trans hb hb2
  clear hR1 hS1 hb2
  go_wp2_with fail
  refine hcall.mono ?_
  clear hcall
  rintro e w3 ⟨v6, v8, rfl, hL, hP, hb3⟩
  rw [read10] at hL hP
  obtain ⟨A6, c6, rfl, -, hat⟩ := hL.any
  obtain ⟨A8, c8p, rfl⟩ : ∃ A8 c8p, v8 = .slice A8 0 c8p := owns_form hP
  obtain ⟨gb, go, A4, c4, Aa, c6', A7, c7, Ac, c8, rfl, -, hgl, hq9, ⟨l4, l6, l7, l8⟩, a4, a6, a7, a8⟩ := hat.any.clsF (j := 0) (x := cls10) rfl
  rw [Nat.zero_mul, Nat.add_zero] at hq9
  unfold nineOf cls10 at hq9
  obtain ⟨q0, q1, q2, q3, q4, q5, q6, q7, q8⟩ := hq9
  dsimp only [List.length] at q0 q1 q2 q3 q4 q5 q6 q7 q8
  obtain ⟨sb, so, rfl, -, hsb, s0, s1⟩ := a8.start (j := 0) (x := (0, 2)) rfl
  rw [Nat.zero_mul, Nat.add_zero] at s0 s1
  dsimp only at s0 s1
  replace hb := ext_trans hb hb3
  have hCn : Cn10 gb go (.string ⟨#[99, 49]⟩) gb (go + 1) (.string ⟨#[77, 65]⟩) gb (go + 2) (.string ⟨#[76]⟩) gb (go + 3) (.int .i64 2) gb (go + 4) (.slice A4 2 c4) gb (go + 5) (.int .i64 30) gb (go + 6) (.slice Aa 0 c6') gb (go + 7) (.slice A7 1 c7) gb (go + 8) (.slice (some ⟨sb, so, none⟩) 2 c8) sb (so + 1) (.int .i64 2) w3 := ⟨q0, q1, q2, q3, q4, q5, q6, q7, q8, s1⟩
  have hweek := hide (fun (V : World) (hV : Below w3.heap.size w3 V) => (week10_walk V).mono fun _ _ ⟨he, hb⟩ => (⟨he, ext_trans hV hb, hCn.later (ext_trans hV hb)⟩ : _ = Ending.returned (.agg #[.int .i64 5, .int .i64 10, .int .i64 480, .int .i64 45]) ∧ Below w3.heap.size w3 _ ∧ Cn10 gb go (.string ⟨#[99, 49]⟩) gb (go + 1) (.string ⟨#[77, 65]⟩) gb (go + 2) (.string ⟨#[76]⟩) gb (go + 3) (.int .i64 2) gb (go + 4) (.slice A4 2 c4) gb (go + 5) (.int .i64 30) gb (go + 6) (.slice Aa 0 c6') gb (go + 7) (.slice A7 1 c7) gb (go + 8) (.slice (some ⟨sb, so, none⟩) 2 c8) sb (so + 1) (.int .i64 2) _))
  have htimes0 : ∀ V : World, Below w3.heap.size w3 V → Calls Tryz.prog 17 #[.agg #[.string ⟨#[99, 49]⟩, .string ⟨#[77, 65]⟩, .string ⟨#[76]⟩, .int .i64 2, .slice A4 2 c4, .int .i64 30, .slice Aa 0 c6', .slice A7 1 c7, .slice (some ⟨sb, so, none⟩) 2 c8], .agg #[.int .i64 5, .int .i64 10, .int .i64 480, .int .i64 45]] V fun e w' => ∃ A9 c9, e = .returned (.slice A9 4 c9) ∧ Below w3.heap.size w3 w' ∧ Cn10 gb go (.string ⟨#[99, 49]⟩) gb (go + 1) (.string ⟨#[77, 65]⟩) gb (go + 2) (.string ⟨#[76]⟩) gb (go + 3) (.int .i64 2) gb (go + 4) (.slice A4 2 c4) gb (go + 5) (.int .i64 30) gb (go + 6) (.slice Aa 0 c6') gb (go + 7) (.slice A7 1 c7) gb (go + 8) (.slice (some ⟨sb, so, none⟩) 2 c8) sb (so + 1) (.int .i64 2) w' := fun V hV => by
    refine (ctimes_walk ⟨#[99, 49]⟩ ⟨#[77, 65]⟩ ⟨#[76]⟩ 2 A4 2 c4 30 Aa 0 c6' A7 1 c7 (some ⟨sb, so, none⟩) 2 c8 [5, 10] [] [⟨#[97, 100, 97]⟩] [(0, 2), (1, 0)] 5 10 480 45 V rfl rfl (by decide) (by decide) (a4.any.later hV) (a8.any.later hV)).mono ?_
    rintro e w' ⟨v, rfl, ho, hb⟩
    obtain ⟨A9, c9, rfl⟩ := ho.form
    exact ⟨A9, c9, by rw [show (timesK 5 10 480 45 (⟨#[99, 49]⟩, ⟨#[77, 65]⟩, ⟨#[76]⟩, 2, [5, 10], 30, [], [⟨#[97, 100, 97]⟩], [(0, 2), (1, 0)])).length = 4 from times10], ext_trans hV hb, hCn.later (ext_trans hV hb)⟩
  have htimes := hide htimes0
  clear htimes0
  have hCd := hCn.drew
  have hrefl := Below.refl w3.heap.size w3
  obtain ⟨z0, z1, z2, z3, z4, z5, z6, z7, z8, z9⟩ := id hCn
  clear hL hP hb3 hat a4 a6 a7 a8 q0 q1 q2 q3 q4 q5 q6 q7 q8 s0 s1 l4 l6 l7 l8
  dsimp only [List.length] at *
  go_upto_region 2 with fail
  go_region_held3 (fun W' => W'.cell? ⟨gb, go, none⟩ = some (.string ⟨#[99, 49]⟩) ∧ W'.cell? ⟨gb, go + 1, none⟩ = some (.string ⟨#[77, 65]⟩) ∧ W'.cell? ⟨gb, go + 2, none⟩ = some (.string ⟨#[76]⟩) ∧ W'.cell? ⟨gb, go + 3, none⟩ = some (.int .i64 2) ∧ W'.cell? ⟨gb, go + 4, none⟩ = some (.slice A4 2 c4) ∧ W'.cell? ⟨gb, go + 5, none⟩ = some (.int .i64 30) ∧ W'.cell? ⟨gb, go + 6, none⟩ = some (.slice Aa 0 c6') ∧ W'.cell? ⟨gb, go + 7, none⟩ = some (.slice A7 1 c7) ∧ W'.cell? ⟨gb, go + 8, none⟩ = some (.slice (some ⟨sb, so, none⟩) 2 c8) ∧ W'.cell? ⟨sb, so + 1, none⟩ = some (.int .i64 2)) (first | ((repeat (first | (with_reducible assumption) | (with_reducible refine Cn10.alloc ?_ _) | (with_reducible refine Cn10.drew ?_) | (with_reducible refine Cn10.set ?_ ?_ ?_ ?_ ?_ ?_ ?_ ?_ ?_ ?_ ?_ _) | omega)); done)) (first | (go_at_call 35; refine (hweek.out _ (by repeat (first | (with_reducible assumption) | (with_reducible refine ext_alloc ?_ _) | (with_reducible refine ext_drew ?_)))).mono ?_; rintro e w4 ⟨rfl, hb4, hx4⟩) | (go_at_call 17; refine (htimes.out _ (by repeat (first | (with_reducible assumption) | (with_reducible refine ext_alloc ?_ _) | (with_reducible refine ext_drew ?_)))).mono ?_; rintro e w5 ⟨A9, c9, rfl, hb5, hx5⟩))
  all_goals
    go_wp2
    go_ret
    exact ⟨rfl, by first | exact ext_trans hb (ext_drew (by assumption)) | exact ext_trans hb (by assumption)⟩
end Go.Proofs.YtimcdikeajbabaaGreatDoor

namespace Go.Proofs.YtimcdikeajbabaaGreatDoor
open Go.RowKit
set_option maxRecDepth 100000

abbrev Cn22 (b1 o1 : Nat) (v1 : Value) (b2 o2 : Nat) (v2 : Value) (b3 o3 : Nat) (v3 : Value) (b4 o4 : Nat) (v4 : Value) (b5 o5 : Nat) (v5 : Value) (b6 o6 : Nat) (v6 : Value) (b7 o7 : Nat) (v7 : Value) (b8 o8 : Nat) (v8 : Value) (b9 o9 : Nat) (v9 : Value) (b10 o10 : Nat) (v10 : Value) (b11 o11 : Nat) (v11 : Value) (b12 o12 : Nat) (v12 : Value) (b13 o13 : Nat) (v13 : Value) (b14 o14 : Nat) (v14 : Value) (b15 o15 : Nat) (v15 : Value) (b16 o16 : Nat) (v16 : Value) (b17 o17 : Nat) (v17 : Value) (b18 o18 : Nat) (v18 : Value) (b19 o19 : Nat) (v19 : Value) (b20 o20 : Nat) (v20 : Value) (b21 o21 : Nat) (v21 : Value) (b22 o22 : Nat) (v22 : Value) (W : World) : Prop := W.cell? ⟨b1, o1, none⟩ = some v1 ∧ W.cell? ⟨b2, o2, none⟩ = some v2 ∧ W.cell? ⟨b3, o3, none⟩ = some v3 ∧ W.cell? ⟨b4, o4, none⟩ = some v4 ∧ W.cell? ⟨b5, o5, none⟩ = some v5 ∧ W.cell? ⟨b6, o6, none⟩ = some v6 ∧ W.cell? ⟨b7, o7, none⟩ = some v7 ∧ W.cell? ⟨b8, o8, none⟩ = some v8 ∧ W.cell? ⟨b9, o9, none⟩ = some v9 ∧ W.cell? ⟨b10, o10, none⟩ = some v10 ∧ W.cell? ⟨b11, o11, none⟩ = some v11 ∧ W.cell? ⟨b12, o12, none⟩ = some v12 ∧ W.cell? ⟨b13, o13, none⟩ = some v13 ∧ W.cell? ⟨b14, o14, none⟩ = some v14 ∧ W.cell? ⟨b15, o15, none⟩ = some v15 ∧ W.cell? ⟨b16, o16, none⟩ = some v16 ∧ W.cell? ⟨b17, o17, none⟩ = some v17 ∧ W.cell? ⟨b18, o18, none⟩ = some v18 ∧ W.cell? ⟨b19, o19, none⟩ = some v19 ∧ W.cell? ⟨b20, o20, none⟩ = some v20 ∧ W.cell? ⟨b21, o21, none⟩ = some v21 ∧ W.cell? ⟨b22, o22, none⟩ = some v22
section
variable {b1 o1 b2 o2 b3 o3 b4 o4 b5 o5 b6 o6 b7 o7 b8 o8 b9 o9 b10 o10 b11 o11 b12 o12 b13 o13 b14 o14 b15 o15 b16 o16 b17 o17 b18 o18 b19 o19 b20 o20 b21 o21 b22 o22 : Nat} {v1 v2 v3 v4 v5 v6 v7 v8 v9 v10 v11 v12 v13 v14 v15 v16 v17 v18 v19 v20 v21 v22 : Value} {W W' : World}
theorem Cn22.later (h : Cn22 b1 o1 v1 b2 o2 v2 b3 o3 v3 b4 o4 v4 b5 o5 v5 b6 o6 v6 b7 o7 v7 b8 o8 v8 b9 o9 v9 b10 o10 v10 b11 o11 v11 b12 o12 v12 b13 o13 v13 b14 o14 v14 b15 o15 v15 b16 o16 v16 b17 o17 v17 b18 o18 v18 b19 o19 v19 b20 o20 v20 b21 o21 v21 b22 o22 v22 W) (hb : Below W.heap.size W W') : Cn22 b1 o1 v1 b2 o2 v2 b3 o3 v3 b4 o4 v4 b5 o5 v5 b6 o6 v6 b7 o7 v7 b8 o8 v8 b9 o9 v9 b10 o10 v10 b11 o11 v11 b12 o12 v12 b13 o13 v13 b14 o14 v14 b15 o15 v15 b16 o16 v16 b17 o17 v17 b18 o18 v18 b19 o19 v19 b20 o20 v20 b21 o21 v21 b22 o22 v22 W' := ⟨cell_later hb h.1, cell_later hb h.2.1, cell_later hb h.2.2.1, cell_later hb h.2.2.2.1, cell_later hb h.2.2.2.2.1, cell_later hb h.2.2.2.2.2.1, cell_later hb h.2.2.2.2.2.2.1, cell_later hb h.2.2.2.2.2.2.2.1, cell_later hb h.2.2.2.2.2.2.2.2.1, cell_later hb h.2.2.2.2.2.2.2.2.2.1, cell_later hb h.2.2.2.2.2.2.2.2.2.2.1, cell_later hb h.2.2.2.2.2.2.2.2.2.2.2.1, cell_later hb h.2.2.2.2.2.2.2.2.2.2.2.2.1, cell_later hb h.2.2.2.2.2.2.2.2.2.2.2.2.2.1, cell_later hb h.2.2.2.2.2.2.2.2.2.2.2.2.2.2.1, cell_later hb h.2.2.2.2.2.2.2.2.2.2.2.2.2.2.2.1, cell_later hb h.2.2.2.2.2.2.2.2.2.2.2.2.2.2.2.2.1, cell_later hb h.2.2.2.2.2.2.2.2.2.2.2.2.2.2.2.2.2.1, cell_later hb h.2.2.2.2.2.2.2.2.2.2.2.2.2.2.2.2.2.2.1, cell_later hb h.2.2.2.2.2.2.2.2.2.2.2.2.2.2.2.2.2.2.2.1, cell_later hb h.2.2.2.2.2.2.2.2.2.2.2.2.2.2.2.2.2.2.2.2.1, cell_later hb h.2.2.2.2.2.2.2.2.2.2.2.2.2.2.2.2.2.2.2.2.2⟩
theorem Cn22.alloc (h : Cn22 b1 o1 v1 b2 o2 v2 b3 o3 v3 b4 o4 v4 b5 o5 v5 b6 o6 v6 b7 o7 v7 b8 o8 v8 b9 o9 v9 b10 o10 v10 b11 o11 v11 b12 o12 v12 b13 o13 v13 b14 o14 v14 b15 o15 v15 b16 o16 v16 b17 o17 v17 b18 o18 v18 b19 o19 v19 b20 o20 v20 b21 o21 v21 b22 o22 v22 W) (o : Obj) : Cn22 b1 o1 v1 b2 o2 v2 b3 o3 v3 b4 o4 v4 b5 o5 v5 b6 o6 v6 b7 o7 v7 b8 o8 v8 b9 o9 v9 b10 o10 v10 b11 o11 v11 b12 o12 v12 b13 o13 v13 b14 o14 v14 b15 o15 v15 b16 o16 v16 b17 o17 v17 b18 o18 v18 b19 o19 v19 b20 o20 v20 b21 o21 v21 b22 o22 v22 (W.alloc o) := ⟨cell_alloc_of h.1 o, cell_alloc_of h.2.1 o, cell_alloc_of h.2.2.1 o, cell_alloc_of h.2.2.2.1 o, cell_alloc_of h.2.2.2.2.1 o, cell_alloc_of h.2.2.2.2.2.1 o, cell_alloc_of h.2.2.2.2.2.2.1 o, cell_alloc_of h.2.2.2.2.2.2.2.1 o, cell_alloc_of h.2.2.2.2.2.2.2.2.1 o, cell_alloc_of h.2.2.2.2.2.2.2.2.2.1 o, cell_alloc_of h.2.2.2.2.2.2.2.2.2.2.1 o, cell_alloc_of h.2.2.2.2.2.2.2.2.2.2.2.1 o, cell_alloc_of h.2.2.2.2.2.2.2.2.2.2.2.2.1 o, cell_alloc_of h.2.2.2.2.2.2.2.2.2.2.2.2.2.1 o, cell_alloc_of h.2.2.2.2.2.2.2.2.2.2.2.2.2.2.1 o, cell_alloc_of h.2.2.2.2.2.2.2.2.2.2.2.2.2.2.2.1 o, cell_alloc_of h.2.2.2.2.2.2.2.2.2.2.2.2.2.2.2.2.1 o, cell_alloc_of h.2.2.2.2.2.2.2.2.2.2.2.2.2.2.2.2.2.1 o, cell_alloc_of h.2.2.2.2.2.2.2.2.2.2.2.2.2.2.2.2.2.2.1 o, cell_alloc_of h.2.2.2.2.2.2.2.2.2.2.2.2.2.2.2.2.2.2.2.1 o, cell_alloc_of h.2.2.2.2.2.2.2.2.2.2.2.2.2.2.2.2.2.2.2.2.1 o, cell_alloc_of h.2.2.2.2.2.2.2.2.2.2.2.2.2.2.2.2.2.2.2.2.2 o⟩
theorem Cn22.drew (h : Cn22 b1 o1 v1 b2 o2 v2 b3 o3 v3 b4 o4 v4 b5 o5 v5 b6 o6 v6 b7 o7 v7 b8 o8 v8 b9 o9 v9 b10 o10 v10 b11 o11 v11 b12 o12 v12 b13 o13 v13 b14 o14 v14 b15 o15 v15 b16 o16 v16 b17 o17 v17 b18 o18 v18 b19 o19 v19 b20 o20 v20 b21 o21 v21 b22 o22 v22 W) : Cn22 b1 o1 v1 b2 o2 v2 b3 o3 v3 b4 o4 v4 b5 o5 v5 b6 o6 v6 b7 o7 v7 b8 o8 v8 b9 o9 v9 b10 o10 v10 b11 o11 v11 b12 o12 v12 b13 o13 v13 b14 o14 v14 b15 o15 v15 b16 o16 v16 b17 o17 v17 b18 o18 v18 b19 o19 v19 b20 o20 v20 b21 o21 v21 b22 o22 v22 W.drew := h
theorem Cn22.set {c i : Nat} (h : Cn22 b1 o1 v1 b2 o2 v2 b3 o3 v3 b4 o4 v4 b5 o5 v5 b6 o6 v6 b7 o7 v7 b8 o8 v8 b9 o9 v9 b10 o10 v10 b11 o11 v11 b12 o12 v12 b13 o13 v13 b14 o14 v14 b15 o15 v15 b16 o16 v16 b17 o17 v17 b18 o18 v18 b19 o19 v19 b20 o20 v20 b21 o21 v21 b22 o22 v22 W) (h1 : b1 ≠ c) (h2 : b2 ≠ c) (h3 : b3 ≠ c) (h4 : b4 ≠ c) (h5 : b5 ≠ c) (h6 : b6 ≠ c) (h7 : b7 ≠ c) (h8 : b8 ≠ c) (h9 : b9 ≠ c) (h10 : b10 ≠ c) (h11 : b11 ≠ c) (h12 : b12 ≠ c) (h13 : b13 ≠ c) (h14 : b14 ≠ c) (h15 : b15 ≠ c) (h16 : b16 ≠ c) (h17 : b17 ≠ c) (h18 : b18 ≠ c) (h19 : b19 ≠ c) (h20 : b20 ≠ c) (h21 : b21 ≠ c) (h22 : b22 ≠ c) (u : Value) : Cn22 b1 o1 v1 b2 o2 v2 b3 o3 v3 b4 o4 v4 b5 o5 v5 b6 o6 v6 b7 o7 v7 b8 o8 v8 b9 o9 v9 b10 o10 v10 b11 o11 v11 b12 o12 v12 b13 o13 v13 b14 o14 v14 b15 o15 v15 b16 o16 v16 b17 o17 v17 b18 o18 v18 b19 o19 v19 b20 o20 v20 b21 o21 v21 b22 o22 v22 (W.setCell ⟨c, i, none⟩ u) := ⟨cell_set_other h.1 h1 u, cell_set_other h.2.1 h2 u, cell_set_other h.2.2.1 h3 u, cell_set_other h.2.2.2.1 h4 u, cell_set_other h.2.2.2.2.1 h5 u, cell_set_other h.2.2.2.2.2.1 h6 u, cell_set_other h.2.2.2.2.2.2.1 h7 u, cell_set_other h.2.2.2.2.2.2.2.1 h8 u, cell_set_other h.2.2.2.2.2.2.2.2.1 h9 u, cell_set_other h.2.2.2.2.2.2.2.2.2.1 h10 u, cell_set_other h.2.2.2.2.2.2.2.2.2.2.1 h11 u, cell_set_other h.2.2.2.2.2.2.2.2.2.2.2.1 h12 u, cell_set_other h.2.2.2.2.2.2.2.2.2.2.2.2.1 h13 u, cell_set_other h.2.2.2.2.2.2.2.2.2.2.2.2.2.1 h14 u, cell_set_other h.2.2.2.2.2.2.2.2.2.2.2.2.2.2.1 h15 u, cell_set_other h.2.2.2.2.2.2.2.2.2.2.2.2.2.2.2.1 h16 u, cell_set_other h.2.2.2.2.2.2.2.2.2.2.2.2.2.2.2.2.1 h17 u, cell_set_other h.2.2.2.2.2.2.2.2.2.2.2.2.2.2.2.2.2.1 h18 u, cell_set_other h.2.2.2.2.2.2.2.2.2.2.2.2.2.2.2.2.2.2.1 h19 u, cell_set_other h.2.2.2.2.2.2.2.2.2.2.2.2.2.2.2.2.2.2.2.1 h20 u, cell_set_other h.2.2.2.2.2.2.2.2.2.2.2.2.2.2.2.2.2.2.2.2.1 h21 u, cell_set_other h.2.2.2.2.2.2.2.2.2.2.2.2.2.2.2.2.2.2.2.2.2 h22 u⟩
end
end Go.Proofs.YtimcdikeajbabaaGreatDoor

namespace Go.Proofs.YtimcdikeajbabaaGreatDoor
open Go.RowKit
set_option maxRecDepth 100000

theorem timesK_len (d sl b m : Int) (x : Cls) : (timesK d sl b m x).length ≤ 4096 := by
  unfold timesK
  split
  · simp
  · split
    · simp
    · omega
/-- Times as a slice lies. -/
def KTimesGives (T : List T4) (L : Nat) (V : World) (e : Ending) (w' : World) : Prop :=
  ∃ A c, e = .returned (.slice A L c) ∧ At kTime AnyB w' A T ∧ Below V.heap.size V w'
theorem ktimes_gives {T : List T4} {L : Nat} (hL : T.length = L) {V : World} {e : Ending} {w' : World} (h : ∃ v, e = .returned v ∧ Own kTime 49 [] 0 V.heap.size w' v T ∧ Below V.heap.size V w') : KTimesGives T L V e w' := by
  obtain ⟨v, rfl, ho, hb⟩ := h
  obtain ⟨A, c, rfl, -, ha⟩ := ho.any
  rw [hL]
  exact ⟨A, c, rfl, ha.any, hb⟩
set_option maxHeartbeats 16000000 in
theorem valid10_walk (A : Option Addr) (l : List Cls) (cap : Nat) (d sl b m n : Int) (w : World) (hS : Std w) (hW : Wds w) (hD : Dys w) (hlc : l.length ≤ cap) (hc : l.length ≤ 9223372036854775807) (hm : ClsShort l) (hL : At kCls AnyB w A l) :
    Calls Tryz.prog 6 #[.slice A l.length cap, .agg #[.int .i64 d, .int .i64 sl, .int .i64 b, .int .i64 m], .int .i64 n] w fun e w' => e = .returned (.bool true) ∧ Below w.heap.size w w' := by
  have hb0 : Below w.heap.size w (w.alloc (.cells #[.int .i64 d, .int .i64 sl, .int .i64 b, .int .i64 m] 24)) := (by repeat (first | exact Below.refl _ _ | refine ext_alloc ?_ _ | refine ext_drewN ?_ _ | refine ext_drew ?_ | refine ext_trans ?_ (by assumption)))
  have bG := Box4.new w 24 (.int .i64 d) (.int .i64 sl) (.int .i64 b) (.int .i64 m)
  obtain ⟨W, hWW⟩ : ∃ W, w.alloc (.cells #[.int .i64 d, .int .i64 sl, .int .i64 b, .int .i64 m] 24) = W := ⟨_, rfl⟩
  obtain ⟨gb, hgb⟩ : ∃ gb, w.heap.size = gb := ⟨_, rfl⟩
  have hL0 := hL.later hb0
  have hS0 := hS.after hb0
  have hW0 := hW.after hb0 hS
  have hD0 := hD.after hb0 hS
  rw [hWW] at hb0 bG hL0 hS0 hW0 hD0
  rw [hgb] at bG
  have hgl := bG.lt
  obtain ⟨g0, g1, g2, g3⟩ := bG
  clear hL hS hW hD
  obtain ⟨N, hN⟩ : ∃ N, l.length = N := ⟨_, rfl⟩
  have hw1 := fun (V : World) (hV : Below W.heap.size W V) => kwrite_walk A l cap d sl b m n V (hS0.after hV) hlc hc hm (hL0.later hV)
  have hw2 := fun (V : World) (hV : Below W.heap.size W V) => r10write_walk A l cap d sl b m n V (hS0.after hV) (hW0.after hV hS0) (hD0.after hV hS0) hc hm (hL0.later hV)
  have hv1 := fun (V : World) (hV : Below W.heap.size W V) => kval_walk A l cap d sl b m n V hlc hc hm (hL0.later hV)
  have hv2 := fun (V : World) (hV : Below W.heap.size W V) => r10val_walk A l cap d sl b m n V hc hm (hL0.later hV)
  have haw := fun (V : World) (hV : Below W.heap.size W V) => awake10_walk V (hS0.after hV)
  have hrl := rowsK_len d sl b m n l
  unfold KWriteIs at hw1 hw2
  obtain ⟨R, hR⟩ : ∃ R, rowsK d sl b m n l = R := ⟨_, rfl⟩
  obtain ⟨E, hE⟩ : ∃ E, validK d sl b m n l = E := ⟨_, rfl⟩
  rw [hN] at hw1 hw2 hv1 hv2 ⊢
  rw [hR] at hrl
  simp only [hR, hE] at hw1 hw2 hv1 hv2
  replace hw1 := hide hw1
  replace hw2 := hide hw2
  replace hv1 := hide hv1
  replace hv2 := hide hv2
  replace haw := hide haw
  have hcN : N ≤ 9223372036854775807 := by rw [← hN]; exact hc
  replace hN := hide hN
  replace hgb := hide hgb
  replace hWW := hide hWW
  replace hrl := hide hrl
  replace hm := hide hm
  clear hR hE
  go_enter Tryz.func6, Tryz.ntmps6
  go_wp2_with fail
  rw [hWW.out, hgb.out]
  refine (hw1.out W (Below.refl _ _)).mono ?_
  rintro e w1 ⟨va, rfl, hoa, hb1⟩
  replace g0 := cell_later hb1 g0
  replace g1 := cell_later hb1 g1
  replace g2 := cell_later hb1 g2
  replace g3 := cell_later hb1 g3
  have hgl1 : gb < w1.heap.size := World.block_lt_of_cell? _ _ g0
  clear hw1
  go_wp2_with fail
  refine (hw2.out w1 hb1).mono ?_
  rintro e wq ⟨vb, rfl, hob, hb2⟩
  replace g0 := cell_later hb2 g0
  replace g1 := cell_later hb2 g1
  replace g2 := cell_later hb2 g2
  replace g3 := cell_later hb2 g3
  replace hoa := hoa.later hb2
  have hbq : Below W.heap.size W wq := ext_trans hb1 hb2
  have hLq := hL0.later hbq
  clear hw2 hb1 hb2 hgl1 hgl
  obtain ⟨Aa, ca, rfl, -, hAa⟩ := hoa.any
  obtain ⟨Ab, cb, rfl, -, hAb⟩ := hob.any
  have hRl : R.length ≤ 9223372036854775807 := hoa.le
  replace hoa := hide hAa
  replace hob := hide hAb
  obtain ⟨RL, hRL⟩ : ∃ RL, R.length = RL := ⟨_, rfl⟩
  rw [hRL] at hRl ⊢
  replace hRL := hide hRL
  clear hAa hAb
  go_wp2_with fail
  go_loopw [11] (fun i wr => ∃ j : Nat, j ≤ N ∧ i = .int .i64 j ∧ Below wq.heap.size wq wr) (fun i _ => N - (intOf i).toNat)
  case atStart => exact ⟨0, Nat.zero_le _, rfl, Below.refl _ _⟩
  case round =>
    obtain ⟨j, hj, rfl, hb⟩ := hrel
    have p0 := cell_later hb g0
    have p1 := cell_later hb g1
    have p2 := cell_later hb g2
    have p3 := cell_later hb g3
    have hgl := World.block_lt_of_cell? _ _ p0
    by_cases hlt : j < N
    · obtain ⟨x, hx⟩ : ∃ x, l[j]? = some x := ⟨_, List.getElem?_eq_getElem (by rw [hN.out]; exact hlt)⟩
      obtain ⟨y, hy⟩ : ∃ y, l[0]? = some y := ⟨_, List.getElem?_eq_getElem (by rw [hN.out]; omega)⟩
      have hLr := hLq.later hb
      obtain ⟨kb, off, A4, c4, A6, c6, A7, c7, A8, c8, rfl, -, hkb, hq, -, a4, -, -, a8⟩ := hLr.clsF hx
      obtain ⟨kb', off', A4', c4', A6', c6', A7', c7', A8', c8', e0, -, -, hq', -, -, -, -, -⟩ := hLr.clsF hy
      injection e0 with e0
      injection e0 with e1 e2
      subst e1 e2
      rw [Nat.zero_mul, Nat.add_zero] at hq'
      obtain ⟨m4, m6, m7, m8⟩ := hm.out x (List.mem_of_getElem? hx)
      obtain ⟨z, co, pa, nl, ps, mm, fs, st, ss⟩ := x
      obtain ⟨z', co', pa', nl', ps', mm', fs', st', ss'⟩ := y
      unfold nineOf at hq hq'
      dsimp only at hq hq' a4 a8 m4 m6 m7 m8
      obtain ⟨n4, e4⟩ : ∃ n4, ps.length = n4 := ⟨_, rfl⟩
      obtain ⟨n6, e6⟩ : ∃ n6, fs.length = n6 := ⟨_, rfl⟩
      obtain ⟨n7, e7⟩ : ∃ n7, st.length = n7 := ⟨_, rfl⟩
      obtain ⟨n8, e8⟩ : ∃ n8, ss.length = n8 := ⟨_, rfl⟩
      obtain ⟨n4', e4'⟩ : ∃ n4, ps'.length = n4 := ⟨_, rfl⟩
      obtain ⟨n6', e6'⟩ : ∃ n6, fs'.length = n6 := ⟨_, rfl⟩
      obtain ⟨n7', e7'⟩ : ∃ n7, st'.length = n7 := ⟨_, rfl⟩
      obtain ⟨n8', e8'⟩ : ∃ n8, ss'.length = n8 := ⟨_, rfl⟩
      rw [e4] at hq m4
      rw [e6] at hq
      rw [e7] at hq
      rw [e8] at hq m8
      rw [e4', e6', e7', e8'] at hq'
      obtain ⟨q0, q1, q2, q3, q4, q5, q6, q7, q8⟩ := hq
      obtain ⟨r0, r1, r2, r3, r4, r5, r6, r7, r8⟩ := hq'
      dsimp only at q0 q1 q2 q3 q4 q5 q6 q7 q8 r0 r1 r2 r3 r4 r5 r6 r7 r8
      have hj0 : (0 : Int) ≤ (j : Int) := by omega
      have hj1 : (j : Int) < (N : Int) := by omega
      have hN0 : (0 : Int) < (N : Int) := by omega
      have hN0' : 0 < N := by omega
      have hN00 : ¬ N = 0 := by omega
      have hj2 : IntKind.i64.wrap ((j : Int) + 1) = (j : Int) + 1 := IntWalk.i64_in _ (by omega)
      clear hx hy e6 e7 e4' e6' e7' e8' hLr m6 m7
      by_cases h20 : 20 < n4
      · have h20i : (20 : Int) < (n4 : Int) := by omega
        clear r0 r1 r2 r3 r4 r5 r6 r7 r8 p0 p1 p2 p3 a4 a8
        go_wp2
        go_roundw
        case rel => exact ⟨j + 1, by omega, by go_num, hb⟩
        case measure => simp [intOf]; omega
      · have h20i : ¬ (20 : Int) < (n4 : Int) := by omega
        by_cases h60 : 60 < n8
        · have h60i : (60 : Int) < (n8 : Int) := by omega
          clear r0 r1 r2 r3 r4 r5 r6 r7 r8 p0 p1 p2 p3 a4 a8
          go_wp2
          go_roundw
          case rel => exact ⟨j + 1, by omega, by go_num, hb⟩
          case measure => simp [intOf]; omega
        · have h60i : ¬ (60 : Int) < (n8 : Int) := by omega
          obtain ⟨T, hT⟩ : ∃ T, timesK d sl b m (z, co, pa, nl, ps, mm, fs, st, ss) = T := ⟨_, rfl⟩
          obtain ⟨L, hTL⟩ : ∃ L, T.length = L := ⟨_, rfl⟩
          obtain ⟨pb, hpb⟩ : ∃ pb, decide (co = co' ∧ pa = pa') = pb := ⟨_, rfl⟩
          have hpp : (pb != pb) = false := by simp
          have hC : Cn22 kb (off + j * 9) (.string z) kb (off + j * 9 + 1) (.string co) kb (off + j * 9 + 2) (.string pa) kb (off + j * 9 + 3) (.int .i64 nl) kb (off + j * 9 + 4) (.slice A4 n4 c4) kb (off + j * 9 + 5) (.int .i64 mm) kb (off + j * 9 + 6) (.slice A6 n6 c6) kb (off + j * 9 + 7) (.slice A7 n7 c7) kb (off + j * 9 + 8) (.slice A8 n8 c8) kb off (.string z') kb (off + 1) (.string co') kb (off + 2) (.string pa') kb (off + 3) (.int .i64 nl') kb (off + 4) (.slice A4' n4' c4') kb (off + 5) (.int .i64 mm') kb (off + 6) (.slice A6' n6' c6') kb (off + 7) (.slice A7' n7' c7') kb (off + 8) (.slice A8' n8' c8') gb 0 (.int .i64 d) gb 1 (.int .i64 sl) gb 2 (.int .i64 b) gb 3 (.int .i64 m) wr := ⟨q0, q1, q2, q3, q4, q5, q6, q7, q8, r0, r1, r2, r3, r4, r5, r6, r7, r8, p0, p1, p2, p3⟩
          have hT1 := hide (fun (V : World) (hV : Below wr.heap.size wr V) => (ctimes_walk z co pa nl A4 n4 c4 mm A6 n6 c6 A7 n7 c7 A8 n8 c8 ps fs st ss d sl b m V e4 e8 m4 m8 (a4.later hV) (a8.later hV)).mono fun e w' h => by
            rw [hT] at h
            obtain ⟨A, c, he, ha, hb⟩ := ktimes_gives hTL h
            exact (⟨A, c, he, ha, ext_trans hV hb, hC.later (ext_trans hV hb)⟩ : ∃ A c, e = Ending.returned (.slice A L c) ∧ At kTime AnyB w' A T ∧ Below wr.heap.size wr w' ∧ Cn22 kb (off + j * 9) (.string z) kb (off + j * 9 + 1) (.string co) kb (off + j * 9 + 2) (.string pa) kb (off + j * 9 + 3) (.int .i64 nl) kb (off + j * 9 + 4) (.slice A4 n4 c4) kb (off + j * 9 + 5) (.int .i64 mm) kb (off + j * 9 + 6) (.slice A6 n6 c6) kb (off + j * 9 + 7) (.slice A7 n7 c7) kb (off + j * 9 + 8) (.slice A8 n8 c8) kb off (.string z') kb (off + 1) (.string co') kb (off + 2) (.string pa') kb (off + 3) (.int .i64 nl') kb (off + 4) (.slice A4' n4' c4') kb (off + 5) (.int .i64 mm') kb (off + 6) (.slice A6' n6' c6') kb (off + 7) (.slice A7' n7' c7') kb (off + 8) (.slice A8' n8' c8') gb 0 (.int .i64 d) gb 1 (.int .i64 sl) gb 2 (.int .i64 b) gb 3 (.int .i64 m) w'))
          have hT2 := hide (fun (V : World) (hV : Below wr.heap.size wr V) => (r10times_walk z co pa nl A4 n4 c4 mm A6 n6 c6 A7 n7 c7 A8 n8 c8 ps fs st ss d sl b m V e4 e8 m4 m8 (a4.later hV) (a8.later hV)).mono fun e w' h => by
            rw [hT] at h
            obtain ⟨A, c, he, ha, hb⟩ := ktimes_gives hTL h
            exact (⟨A, c, he, ha, hb, ext_trans hV hb, hC.later (ext_trans hV hb)⟩ : ∃ A c, e = Ending.returned (.slice A L c) ∧ At kTime AnyB w' A T ∧ Below V.heap.size V w' ∧ Below wr.heap.size wr w' ∧ Cn22 kb (off + j * 9) (.string z) kb (off + j * 9 + 1) (.string co) kb (off + j * 9 + 2) (.string pa) kb (off + j * 9 + 3) (.int .i64 nl) kb (off + j * 9 + 4) (.slice A4 n4 c4) kb (off + j * 9 + 5) (.int .i64 mm) kb (off + j * 9 + 6) (.slice A6 n6 c6) kb (off + j * 9 + 7) (.slice A7 n7 c7) kb (off + j * 9 + 8) (.slice A8 n8 c8) kb off (.string z') kb (off + 1) (.string co') kb (off + 2) (.string pa') kb (off + 3) (.int .i64 nl') kb (off + 4) (.slice A4' n4' c4') kb (off + 5) (.int .i64 mm') kb (off + 6) (.slice A6' n6' c6') kb (off + 7) (.slice A7' n7' c7') kb (off + 8) (.slice A8' n8' c8') gb 0 (.int .i64 d) gb 1 (.int .i64 sl) gb 2 (.int .i64 b) gb 3 (.int .i64 m) w'))
          have hP1 := hide (fun (V : World) (hV : Below wr.heap.size wr V) => (show Calls Tryz.prog 27 #[.agg #[.string z, .string co, .string pa, .int .i64 nl, .slice A4 n4 c4, .int .i64 mm, .slice A6 n6 c6, .slice A7 n7 c7, .slice A8 n8 c8], .agg #[.string z', .string co', .string pa', .int .i64 nl', .slice A4' n4' c4', .int .i64 mm', .slice A6' n6' c6', .slice A7' n7' c7', .slice A8' n8' c8']] V fun e w' => e = .returned (.bool pb) ∧ Below V.heap.size V w' from hpb ▸ cpar_walk ⟨z, co, pa, nl, A4, n4, c4, mm, A6, n6, c6, A7, n7, c7, A8, n8, c8⟩ ⟨z', co', pa', nl', A4', n4', c4', mm', A6', n6', c6', A7', n7', c7', A8', n8', c8'⟩ V).mono fun _ _ ⟨he, hb⟩ => (⟨he, ext_trans hV hb, hC.later (ext_trans hV hb)⟩ : _ = Ending.returned (.bool pb) ∧ Below wr.heap.size wr _ ∧ Cn22 kb (off + j * 9) (.string z) kb (off + j * 9 + 1) (.string co) kb (off + j * 9 + 2) (.string pa) kb (off + j * 9 + 3) (.int .i64 nl) kb (off + j * 9 + 4) (.slice A4 n4 c4) kb (off + j * 9 + 5) (.int .i64 mm) kb (off + j * 9 + 6) (.slice A6 n6 c6) kb (off + j * 9 + 7) (.slice A7 n7 c7) kb (off + j * 9 + 8) (.slice A8 n8 c8) kb off (.string z') kb (off + 1) (.string co') kb (off + 2) (.string pa') kb (off + 3) (.int .i64 nl') kb (off + 4) (.slice A4' n4' c4') kb (off + 5) (.int .i64 mm') kb (off + 6) (.slice A6' n6' c6') kb (off + 7) (.slice A7' n7' c7') kb (off + 8) (.slice A8' n8' c8') gb 0 (.int .i64 d) gb 1 (.int .i64 sl) gb 2 (.int .i64 b) gb 3 (.int .i64 m) _))
          have hP2 := hide (fun (V : World) (hV : Below wr.heap.size wr V) => (show Calls Tryz.prog 28 #[.agg #[.string z, .string co, .string pa, .int .i64 nl, .slice A4 n4 c4, .int .i64 mm, .slice A6 n6 c6, .slice A7 n7 c7, .slice A8 n8 c8], .agg #[.string z', .string co', .string pa', .int .i64 nl', .slice A4' n4' c4', .int .i64 mm', .slice A6' n6' c6', .slice A7' n7' c7', .slice A8' n8' c8']] V fun e w' => e = .returned (.bool pb) ∧ Below V.heap.size V w' from hpb ▸ r10par_walk ⟨z, co, pa, nl, A4, n4, c4, mm, A6, n6, c6, A7, n7, c7, A8, n8, c8⟩ ⟨z', co', pa', nl', A4', n4', c4', mm', A6', n6', c6', A7', n7', c7', A8', n8', c8'⟩ V).mono fun _ _ ⟨he, hb⟩ => (⟨he, ext_trans hV hb, hC.later (ext_trans hV hb)⟩ : _ = Ending.returned (.bool pb) ∧ Below wr.heap.size wr _ ∧ Cn22 kb (off + j * 9) (.string z) kb (off + j * 9 + 1) (.string co) kb (off + j * 9 + 2) (.string pa) kb (off + j * 9 + 3) (.int .i64 nl) kb (off + j * 9 + 4) (.slice A4 n4 c4) kb (off + j * 9 + 5) (.int .i64 mm) kb (off + j * 9 + 6) (.slice A6 n6 c6) kb (off + j * 9 + 7) (.slice A7 n7 c7) kb (off + j * 9 + 8) (.slice A8 n8 c8) kb off (.string z') kb (off + 1) (.string co') kb (off + 2) (.string pa') kb (off + 3) (.int .i64 nl') kb (off + 4) (.slice A4' n4' c4') kb (off + 5) (.int .i64 mm') kb (off + 6) (.slice A6' n6' c6') kb (off + 7) (.slice A7' n7' c7') kb (off + 8) (.slice A8' n8' c8') gb 0 (.int .i64 d) gb 1 (.int .i64 sl) gb 2 (.int .i64 b) gb 3 (.int .i64 m) _))
          have hLm : L ≤ 9223372036854775807 := by rw [← hTL, ← hT]; exact Nat.le_trans (timesK_len _ _ _ _ _) (by decide)
          have hSm := hide (fun (V : World) (A1 A2 : Option Addr) (c1 c2 : Nat) (h1 : At kTime AnyB V A1 T) (h2 : At kTime AnyB V A2 T) (hV : Below wr.heap.size wr V) => (r7Same_walk A1 A2 L c1 c2 (fun j => T.getD j (0, 0, 0, 0)) V hLm (by have := cells_of_at h1.lo; rwa [hTL] at this) (by have := cells_of_at h2.lo; rwa [hTL] at this)).mono fun _ _ ⟨he, hb⟩ => (⟨he, ext_trans hV hb, hC.later (ext_trans hV hb)⟩ : _ = Ending.returned (.bool true) ∧ Below wr.heap.size wr _ ∧ Cn22 kb (off + j * 9) (.string z) kb (off + j * 9 + 1) (.string co) kb (off + j * 9 + 2) (.string pa) kb (off + j * 9 + 3) (.int .i64 nl) kb (off + j * 9 + 4) (.slice A4 n4 c4) kb (off + j * 9 + 5) (.int .i64 mm) kb (off + j * 9 + 6) (.slice A6 n6 c6) kb (off + j * 9 + 7) (.slice A7 n7 c7) kb (off + j * 9 + 8) (.slice A8 n8 c8) kb off (.string z') kb (off + 1) (.string co') kb (off + 2) (.string pa') kb (off + 3) (.int .i64 nl') kb (off + 4) (.slice A4' n4' c4') kb (off + 5) (.int .i64 mm') kb (off + 6) (.slice A6' n6' c6') kb (off + 7) (.slice A7' n7' c7') kb (off + 8) (.slice A8' n8' c8') gb 0 (.int .i64 d) gb 1 (.int .i64 sl) gb 2 (.int .i64 b) gb 3 (.int .i64 m) _))
          have hCd := hC.drew
          have hrefl := Below.refl wr.heap.size wr
          replace hT := hide hT
          replace hTL := hide hTL
          replace hpb := hide hpb
          clear e4 e8 a4 a8 m4 m8 h20 h60 hlt hj hLm
          go_upto_region 7 with fail
          go_region_held3 (fun W' => W'.cell? ⟨kb, off + j * 9, none⟩ = some (.string z) ∧ W'.cell? ⟨kb, off + j * 9 + 1, none⟩ = some (.string co) ∧ W'.cell? ⟨kb, off + j * 9 + 2, none⟩ = some (.string pa) ∧ W'.cell? ⟨kb, off + j * 9 + 3, none⟩ = some (.int .i64 nl) ∧ W'.cell? ⟨kb, off + j * 9 + 4, none⟩ = some (.slice A4 n4 c4) ∧ W'.cell? ⟨kb, off + j * 9 + 5, none⟩ = some (.int .i64 mm) ∧ W'.cell? ⟨kb, off + j * 9 + 6, none⟩ = some (.slice A6 n6 c6) ∧ W'.cell? ⟨kb, off + j * 9 + 7, none⟩ = some (.slice A7 n7 c7) ∧ W'.cell? ⟨kb, off + j * 9 + 8, none⟩ = some (.slice A8 n8 c8) ∧ W'.cell? ⟨kb, off, none⟩ = some (.string z') ∧ W'.cell? ⟨kb, off + 1, none⟩ = some (.string co') ∧ W'.cell? ⟨kb, off + 2, none⟩ = some (.string pa') ∧ W'.cell? ⟨kb, off + 3, none⟩ = some (.int .i64 nl') ∧ W'.cell? ⟨kb, off + 4, none⟩ = some (.slice A4' n4' c4') ∧ W'.cell? ⟨kb, off + 5, none⟩ = some (.int .i64 mm') ∧ W'.cell? ⟨kb, off + 6, none⟩ = some (.slice A6' n6' c6') ∧ W'.cell? ⟨kb, off + 7, none⟩ = some (.slice A7' n7' c7') ∧ W'.cell? ⟨kb, off + 8, none⟩ = some (.slice A8' n8' c8') ∧ W'.cell? ⟨gb, 0, none⟩ = some (.int .i64 d) ∧ W'.cell? ⟨gb, 1, none⟩ = some (.int .i64 sl) ∧ W'.cell? ⟨gb, 2, none⟩ = some (.int .i64 b) ∧ W'.cell? ⟨gb, 3, none⟩ = some (.int .i64 m)) (first | ((repeat (first | (with_reducible assumption) | (with_reducible refine Cn22.alloc ?_ _) | (with_reducible refine Cn22.drew ?_) | (with_reducible refine Cn22.set ?_ ?_ ?_ ?_ ?_ ?_ ?_ ?_ ?_ ?_ ?_ ?_ ?_ ?_ ?_ ?_ ?_ ?_ ?_ ?_ ?_ ?_ ?_ _) | omega)); done)) (first | (go_at_call 17; (with_reducible refine (hT1.out _ ?_).mono ?_); (focus ((repeat (first | (with_reducible assumption) | (with_reducible refine ext_alloc ?_ _) | (with_reducible refine ext_drew ?_))); done)); rintro e w2 ⟨A1, c1, rfl, ha1, hb2, hx2⟩) | (go_at_call 26; (with_reducible refine (hT2.out _ ?_).mono ?_); (focus ((repeat (first | (with_reducible assumption) | (with_reducible refine ext_alloc ?_ _) | (with_reducible refine ext_drew ?_))); done)); rintro e w3 ⟨A2, c2, rfl, ha2, hv3, hb3, hx3⟩) | (go_at_call 25; (with_reducible refine (hSm.out _ _ _ _ _ (ha1.later hv3) ha2 ?_).mono ?_); (focus ((repeat (first | (with_reducible assumption) | (with_reducible refine ext_alloc ?_ _) | (with_reducible refine ext_drew ?_))); done)); rintro e w4 ⟨rfl, hb4, hx4⟩) | (go_at_call 27; (with_reducible refine (hP1.out _ ?_).mono ?_); (focus ((repeat (first | (with_reducible assumption) | (with_reducible refine ext_alloc ?_ _) | (with_reducible refine ext_drew ?_))); done)); rintro e w5 ⟨rfl, hb5, hx5⟩) | (go_at_call 28; (with_reducible refine (hP2.out _ ?_).mono ?_); (focus ((repeat (first | (with_reducible assumption) | (with_reducible refine ext_alloc ?_ _) | (with_reducible refine ext_drew ?_))); done)); rintro e w6 ⟨rfl, hb6, hx6⟩))
          all_goals
            have hbn := ext_trans hb hb6
            clear hT1 hT2 hP1 hP2 hSm hC hCd hrefl hx6
            go_wp2
            go_roundw
            case rel => exact ⟨j + 1, by omega, by go_num, by first | exact hbn | exact ext_drew hbn⟩
            case measure => simp [intOf]; omega
    · obtain rfl : j = N := by omega
      have hki : ¬ (j : Int) < (j : Int) := by omega
      have hbr : Below W.heap.size W wr := ext_trans hbq hb
      have hC : Cn4 gb 0 (.int .i64 d) gb 1 (.int .i64 sl) gb 2 (.int .i64 b) gb 3 (.int .i64 m) wr := ⟨p0, p1, p2, p3⟩
      have hAa := hoa.out.later hb
      have hAb := hob.out.later hb
      have ha := hide (fun (V : World) (hV : Below wr.heap.size wr V) => (haw.out V (ext_trans hbr hV)).mono fun _ _ ⟨he, hb⟩ => (⟨he, ext_trans hV hb, hC.later (ext_trans hV hb)⟩ : _ ∧ Below wr.heap.size wr _ ∧ Cn4 gb 0 (.int .i64 d) gb 1 (.int .i64 sl) gb 2 (.int .i64 b) gb 3 (.int .i64 m) _))
      have h1 := hide (fun (V : World) (hV : Below wr.heap.size wr V) => (hv1.out V (ext_trans hbr hV)).mono fun _ _ ⟨he, hb⟩ => (⟨he, ext_trans hV hb, hC.later (ext_trans hV hb)⟩ : _ ∧ Below wr.heap.size wr _ ∧ Cn4 gb 0 (.int .i64 d) gb 1 (.int .i64 sl) gb 2 (.int .i64 b) gb 3 (.int .i64 m) _))
      have h2 := hide (fun (V : World) (hV : Below wr.heap.size wr V) => (hv2.out V (ext_trans hbr hV)).mono fun _ _ ⟨he, hb⟩ => (⟨he, ext_trans hV hb, hC.later (ext_trans hV hb)⟩ : _ ∧ Below wr.heap.size wr _ ∧ Cn4 gb 0 (.int .i64 d) gb 1 (.int .i64 sl) gb 2 (.int .i64 b) gb 3 (.int .i64 m) _))
      have h3 := fun (V : World) (hV : Below wr.heap.size wr V) => (r2SameL_walk Aa Ab R ca cb V (by rw [hRL.out]; exact hRl) hrl.out (hAa.any.later hV) (hAb.any.later hV)).mono fun _ _ ⟨he, hb⟩ => (⟨he, ext_trans hV hb, hC.later (ext_trans hV hb)⟩ : _ ∧ Below wr.heap.size wr _ ∧ Cn4 gb 0 (.int .i64 d) gb 1 (.int .i64 sl) gb 2 (.int .i64 b) gb 3 (.int .i64 m) _)
      rw [hRL.out] at h3
      replace h3 := hide h3
      have hCd := hC.drew
      have hrefl := Below.refl wr.heap.size wr
      have hgr : gb < wr.heap.size := World.block_lt_of_cell? _ _ p0
      have hbf : Below w.heap.size w wr := ext_trans hb0 hbr
      clear hoa hob hL0 hS0 hW0 hD0 g0 g1 g2 g3 haw hv1 hv2 hAa hAb hLq
      go_upto_region 9 with fail
      go_region_held3 (fun W' => W'.cell? ⟨gb, 0, none⟩ = some (.int .i64 d) ∧ W'.cell? ⟨gb, 1, none⟩ = some (.int .i64 sl) ∧ W'.cell? ⟨gb, 2, none⟩ = some (.int .i64 b) ∧ W'.cell? ⟨gb, 3, none⟩ = some (.int .i64 m)) (first | ((repeat (first | (with_reducible assumption) | (with_reducible refine Cn4.alloc ?_ _) | (with_reducible refine Cn4.drew ?_) | (with_reducible refine Cn4.set ?_ ?_ ?_ ?_ ?_ _) | omega)); done)) (first | (go_at_call 8; (with_reducible refine (ha.out _ ?_).mono ?_); (focus ((repeat (first | (with_reducible assumption) | (with_reducible refine ext_alloc ?_ _) | (with_reducible refine ext_drew ?_))); done)); rintro e w3 ⟨rfl, hb3, hx3⟩) | (go_at_call 29; (with_reducible refine (h1.out _ ?_).mono ?_); (focus ((repeat (first | (with_reducible assumption) | (with_reducible refine ext_alloc ?_ _) | (with_reducible refine ext_drew ?_))); done)); rintro e w4 ⟨rfl, hb4, hx4⟩) | (go_at_call 30; (with_reducible refine (h2.out _ ?_).mono ?_); (focus ((repeat (first | (with_reducible assumption) | (with_reducible refine ext_alloc ?_ _) | (with_reducible refine ext_drew ?_))); done)); rintro e w5 ⟨rfl, hb5, hx5⟩) | (go_at_call 31; (with_reducible refine (h3.out _ ?_).mono ?_); (focus ((repeat (first | (with_reducible assumption) | (with_reducible refine ext_alloc ?_ _) | (with_reducible refine ext_drew ?_))); done)); rintro e w6 ⟨rfl, hb6, hx6⟩))
      all_goals
        go_wp2
        go_ret
        exact ⟨rfl, by first | exact ext_trans hbf hb6 | exact ext_drew (ext_trans hbf hb6)⟩
end Go.Proofs.YtimcdikeajbabaaGreatDoor
