/- The check at the head of law 10. Condition: the program's variables hold what Std says. The statement CoursefileFree: its walk. Conditions: the numbers can be read; what the program's variables hold. -/
import Derived.Test.YtimcdikeajbabaaGreatDoorRows
import Derived.WalkKit
import Derived.WalkSpells
import Derived.WalkLawsBesides
import Derived.BigGuardPart
import Derived.Lib.Hide
import Derived.Laws.BitsAllLaws
import Derived.Laws.BitsLemmas
import Derived.Lib.LaidTab
import Derived.Test.YtimcdikeajbabaaGreatDoorShelf
import Derived.Lib.ConvBytes
import Derived.Deep.QuietTactic
import Derived.BigQuiet
import Derived.Test.YtimcdikeajbabaaGreatDoorShelfS
import Derived.Laws.ResultCell
import Derived.RegionTactic
import Derived.BigRegion
import Derived.Deep.RegionHeld3
import Derived.Deep.DeepCutAuto
import Derived.Lib.SmallJoins
import Derived.Lib.SplitLaws
import Derived.Lib.CountLaws
import Derived.Lib.IndexMore
import Derived.Lib.Split
import Derived.Lib.Join
import Derived.Lib.ItoaNum
import Derived.Laws.AppendOwn
import Derived.Test.YtimcdikeajbabaaGreatDoorShelfT
import Derived.Lib.ItoaLen
import Derived.Lib.AppendIntMem
import Derived.Deep.AppendLies
import Derived.Lib.PathFns
import Derived.Maps.Range
import Derived.Lib.OwnBridge
import Derived.Sort.OwnSorted
import Derived.Sort.Walk0
import Derived.Test.YtimcdikeajbabaaGreatDoorCards
import Derived.Test.YtimcdikeajbabaaGreatDoorTie
import Derived.ProofKit
import Derived.OpenShut
import Derived.LaidMore
import Derived.Lay
import Derived.SevenTiedAt
import Derived.Stop.Joined
import Derived.Stop.LaidErr
import Derived.Deep.DeepHandedRow
import Derived.Lib.LaidU8
import Derived.LaidSub
import Derived.Deep.Slices
import Derived.Deep.Fields
import Derived.ChangeSame
import Derived.Shelf.SlSortCmp.NoneTotal
import Derived.Ground.SlsfProg
import Derived.Lib.SliceRun
import Derived.Lib.Walk
import Derived.RangeFuncNested
import Derived.RangeFuncBound
import Derived.RangeFuncCalls
import Derived.RangeFuncLeaves
import Derived.RangeFuncBox
import Derived.RangeFuncWrites
import Derived.Shelf.Abstract
import Derived.Shelf.RegionOpen
import Derived.OwnWalkIn
import Derived.TacticsInMore
import Derived.LoopNIn
import Derived.LoopIn
import Derived.Maps.AppendAt
import Derived.Deep.RegionLaw
import Derived.Deep.RegionLawGrows
import Derived.WalkMore
import Derived.Test.YtimcdikeajbabaaGreatDoorQKLines
import Derived.Test.YtimcdikeajbabaaGreatDoorQKTimes
import Derived.Test.YtimcdikeajbabaaGreatDoorQLater
namespace Go.Proofs.YtimcdikeajbabaaGreatDoor
open Go.RowKit
set_option maxRecDepth 100000

def f10 : List ByteArray := [⟨#[99, 49]⟩, ⟨#[77, 65]⟩, ⟨#[76]⟩, ⟨#[50]⟩, ⟨#[111, 100, 100, 47, 101, 118, 101, 110]⟩, ⟨#[51, 48]⟩, ⟨#[]⟩, ⟨#[97, 100, 97]⟩, ⟨#[77, 111, 32, 51, 59, 84, 117, 32, 49]⟩]
def cls10 : Cls := (⟨#[99, 49]⟩, ⟨#[77, 65]⟩, ⟨#[76]⟩, 2, [5, 10], 30, [], [⟨#[97, 100, 97]⟩], [(0, 2), (1, 0)])
theorem read10 : clssRead 5 10 480 45 4 (plainR 1 [f10]) = ([cls10], []) := by kernel_rfl
theorem times10 : (timesK 5 10 480 45 cls10).length = 4 := by kernel_rfl
theorem week10_walk (w : World) :
    Calls Tryz.prog 35 #[] w fun e w' => e = .returned (.agg #[.int .i64 5, .int .i64 10, .int .i64 480, .int .i64 45]) ∧ Below w.heap.size w w' := by
  go_enter Tryz.func35, Tryz.ntmps35
  go_wp2
  refine end_struct1 rfl (Or.inl rfl) w.heap.size (.int .i64 5) (.int .i64 10) (.int .i64 480) (.int .i64 45) rfl rfl (by simp) (by simp) (by simp) (by simp) ⟨rfl, (by repeat (first | exact Below.refl _ _ | refine ext_alloc ?_ _ | refine ext_drewN ?_ _ | refine ext_drew ?_ | refine ext_trans ?_ (by assumption)))⟩
set_option maxHeartbeats 4000000 in
theorem awake10_walk (w : World) (hS : Std w) :
    Calls Tryz.prog 8 #[] w fun e w' => e = .returned (.bool true) ∧ Below w.heap.size w w' := by
  obtain ⟨W, hW⟩ : ∃ W, (w.alloc (.cells #[.string ⟨#[99, 49]⟩, .string ⟨#[77, 65]⟩, .string ⟨#[76]⟩, .string ⟨#[50]⟩, .string ⟨#[111, 100, 100, 47, 101, 118, 101, 110]⟩, .string ⟨#[51, 48]⟩, .string ⟨#[]⟩, .string ⟨#[97, 100, 97]⟩, .string ⟨#[77, 111, 32, 51, 59, 84, 117, 32, 49]⟩] 9)).alloc (.cells #[.slice (some ⟨w.heap.size, 0, none⟩) 9 9] 44) = W := ⟨_, rfl⟩
  have hb0 : Below w.heap.size w W := by rw [← hW]; exact (by repeat (first | exact Below.refl _ _ | refine ext_alloc ?_ _ | refine ext_drewN ?_ _ | refine ext_drew ?_ | refine ext_trans ?_ (by assumption)))
  have hX : ListsIn W.heap.size W (some ⟨w.heap.size + 1, 0, none⟩) [f10] := by
    rw [← hW]
    intro _
    refine ⟨w.heap.size + 1, 0, rfl, by simp, fun j x hx => ?_⟩
    match j, hx with
    | 0, hx =>
      simp at hx
      subst hx
      have c0 : ∀ A : World, (A.alloc (.cells #[.slice (some ⟨w.heap.size, 0, none⟩) 9 9] 44)).cell? ⟨A.heap.size, 0, none⟩ = some (.slice (some ⟨w.heap.size, 0, none⟩) 9 9) := fun A => by simp
      have c1 := c0 (w.alloc (.cells #[.string ⟨#[99, 49]⟩, .string ⟨#[77, 65]⟩, .string ⟨#[76]⟩, .string ⟨#[50]⟩, .string ⟨#[111, 100, 100, 47, 101, 118, 101, 110]⟩, .string ⟨#[51, 48]⟩, .string ⟨#[]⟩, .string ⟨#[97, 100, 97]⟩, .string ⟨#[77, 111, 32, 51, 59, 84, 117, 32, 49]⟩] 9))
      rw [World.size_alloc] at c1
      refine ⟨some ⟨w.heap.size, 0, none⟩, 9, c1, fun _ => ⟨w.heap.size, 0, rfl, by simp; omega, fun k z hz => ?_⟩⟩
      unfold f10 at hz
      match k, hz with
      | 0, hz => simp at hz; subst hz; simp
      | 1, hz => simp at hz; subst hz; simp
      | 2, hz => simp at hz; subst hz; simp
      | 3, hz => simp at hz; subst hz; simp
      | 4, hz => simp at hz; subst hz; simp
      | 5, hz => simp at hz; subst hz; simp
      | 6, hz => simp at hz; subst hz; simp
      | 7, hz => simp at hz; subst hz; simp
      | 8, hz => simp at hz; subst hz; simp
      | k + 9, hz => simp at hz
    | j + 1, hx => simp at hx
  have hpl := plain_walk (some ⟨w.heap.size + 1, 0, none⟩) [f10] 1 W hX (by decide) (by decide)
  have hS0 := hS.after hb0
  replace hW := hide hW
  clear hX
  go_enter Tryz.func8, Tryz.ntmps8
  go_wp2_with fail
  rw [hW.out]
  refine hpl.mono ?_
  clear hpl
  rintro e w1 ⟨v, rfl, hR, hb1⟩
  obtain ⟨A1, c1, rfl⟩ : ∃ A1 c1, v = .slice A1 1 c1 := by obtain ⟨us, -, h, -⟩ := hR; exact owns_form h
  have hb := ext_trans hb0 hb1
  have hR1 := recs_at hR
  have hS1 := hS0.after hb1
  clear hb0 hb1 hS0 hR hW
  go_wp2_with fail
  refine (week10_walk w1).mono ?_
  rintro e w2 ⟨rfl, hb2⟩
  have hcall := kfread_walk 5 10 480 45 4 A1 (plainR 1 [f10]) c1 w2 (hS1.after hb2) ((hR1.below hb2).more hb2.size) (by decide) (by decide)
  replace hb := ext_trans hb hb2
  clear hR1 hS1 hb2
  go_wp2_with fail
  refine hcall.mono ?_
  clear hcall
  rintro e w3 ⟨v6, v8, rfl, hL, hP, hb3⟩
  rw [read10] at hL hP
  obtain ⟨A6, c6, rfl, -, hat⟩ := hL.any
  obtain ⟨A8, c8p, rfl⟩ : ∃ A8 c8p, v8 = .slice A8 0 c8p := owns_form hP
  obtain ⟨gb, go, A4, c4, Aa, c6', A7, c7, Ac, c8, rfl, -, hgl, hq9, ⟨l4, l6, l7, l8⟩, a4, a6, a7, a8⟩ := hat.any.clsF (j := 0) (x := cls10) rfl
  rw [Nat.zero_mul, Nat.add_zero] at hq9
  unfold nineOf cls10 at hq9
  obtain ⟨q0, q1, q2, q3, q4, q5, q6, q7, q8⟩ := hq9
  dsimp only [List.length] at q0 q1 q2 q3 q4 q5 q6 q7 q8
  obtain ⟨sb, so, rfl, -, hsb, s0, s1⟩ := a8.start (j := 0) (x := (0, 2)) rfl
  rw [Nat.zero_mul, Nat.add_zero] at s0 s1
  dsimp only at s0 s1
  replace hb := ext_trans hb hb3
  have hCn : Cn10 gb go (.string ⟨#[99, 49]⟩) gb (go + 1) (.string ⟨#[77, 65]⟩) gb (go + 2) (.string ⟨#[76]⟩) gb (go + 3) (.int .i64 2) gb (go + 4) (.slice A4 2 c4) gb (go + 5) (.int .i64 30) gb (go + 6) (.slice Aa 0 c6') gb (go + 7) (.slice A7 1 c7) gb (go + 8) (.slice (some ⟨sb, so, none⟩) 2 c8) sb (so + 1) (.int .i64 2) w3 := ⟨q0, q1, q2, q3, q4, q5, q6, q7, q8, s1⟩
  have hweek := hide (fun (V : World) (hV : Below w3.heap.size w3 V) => (week10_walk V).mono fun _ _ ⟨he, hb⟩ => (⟨he, ext_trans hV hb, hCn.later (ext_trans hV hb)⟩ : _ = Ending.returned (.agg #[.int .i64 5, .int .i64 10, .int .i64 480, .int .i64 45]) ∧ Below w3.heap.size w3 _ ∧ Cn10 gb go (.string ⟨#[99, 49]⟩) gb (go + 1) (.string ⟨#[77, 65]⟩) gb (go + 2) (.string ⟨#[76]⟩) gb (go + 3) (.int .i64 2) gb (go + 4) (.slice A4 2 c4) gb (go + 5) (.int .i64 30) gb (go + 6) (.slice Aa 0 c6') gb (go + 7) (.slice A7 1 c7) gb (go + 8) (.slice (some ⟨sb, so, none⟩) 2 c8) sb (so + 1) (.int .i64 2) _))
  have htimes0 : ∀ V : World, Below w3.heap.size w3 V → Calls Tryz.prog 17 #[.agg #[.string ⟨#[99, 49]⟩, .string ⟨#[77, 65]⟩, .string ⟨#[76]⟩, .int .i64 2, .slice A4 2 c4, .int .i64 30, .slice Aa 0 c6', .slice A7 1 c7, .slice (some ⟨sb, so, none⟩) 2 c8], .agg #[.int .i64 5, .int .i64 10, .int .i64 480, .int .i64 45]] V fun e w' => ∃ A9 c9, e = .returned (.slice A9 4 c9) ∧ Below w3.heap.size w3 w' ∧ Cn10 gb go (.string ⟨#[99, 49]⟩) gb (go + 1) (.string ⟨#[77, 65]⟩) gb (go + 2) (.string ⟨#[76]⟩) gb (go + 3) (.int .i64 2) gb (go + 4) (.slice A4 2 c4) gb (go + 5) (.int .i64 30) gb (go + 6) (.slice Aa 0 c6') gb (go + 7) (.slice A7 1 c7) gb (go + 8) (.slice (some ⟨sb, so, none⟩) 2 c8) sb (so + 1) (.int .i64 2) w' := fun V hV => by
    refine (ctimes_walk ⟨#[99, 49]⟩ ⟨#[77, 65]⟩ ⟨#[76]⟩ 2 A4 2 c4 30 Aa 0 c6' A7 1 c7 (some ⟨sb, so, none⟩) 2 c8 [5, 10] [] [⟨#[97, 100, 97]⟩] [(0, 2), (1, 0)] 5 10 480 45 V rfl rfl (by decide) (by decide) (a4.any.later hV) (a8.any.later hV)).mono ?_
    rintro e w' ⟨v, rfl, ho, hb⟩
    obtain ⟨A9, c9, rfl⟩ := ho.form
    exact ⟨A9, c9, by rw [show (timesK 5 10 480 45 (⟨#[99, 49]⟩, ⟨#[77, 65]⟩, ⟨#[76]⟩, 2, [5, 10], 30, [], [⟨#[97, 100, 97]⟩], [(0, 2), (1, 0)])).length = 4 from times10], ext_trans hV hb, hCn.later (ext_trans hV hb)⟩
  have htimes := hide htimes0
  clear htimes0
  have hCd := hCn.drew
  have hrefl := Below.refl w3.heap.size w3
  obtain ⟨z0, z1, z2, z3, z4, z5, z6, z7, z8, z9⟩ := id hCn
  clear hL hP hb3 hat a4 a6 a7 a8 q0 q1 q2 q3 q4 q5 q6 q7 q8 s0 s1 l4 l6 l7 l8
  dsimp only [List.length] at *
  go_upto_region 2 with fail
  go_region_held3 (fun W' => W'.cell? ⟨gb, go, none⟩ = some (.string ⟨#[99, 49]⟩) ∧ W'.cell? ⟨gb, go + 1, none⟩ = some (.string ⟨#[77, 65]⟩) ∧ W'.cell? ⟨gb, go + 2, none⟩ = some (.string ⟨#[76]⟩) ∧ W'.cell? ⟨gb, go + 3, none⟩ = some (.int .i64 2) ∧ W'.cell? ⟨gb, go + 4, none⟩ = some (.slice A4 2 c4) ∧ W'.cell? ⟨gb, go + 5, none⟩ = some (.int .i64 30) ∧ W'.cell? ⟨gb, go + 6, none⟩ = some (.slice Aa 0 c6') ∧ W'.cell? ⟨gb, go + 7, none⟩ = some (.slice A7 1 c7) ∧ W'.cell? ⟨gb, go + 8, none⟩ = some (.slice (some ⟨sb, so, none⟩) 2 c8) ∧ W'.cell? ⟨sb, so + 1, none⟩ = some (.int .i64 2)) (first | ((repeat (first | (with_reducible assumption) | (with_reducible refine Cn10.alloc ?_ _) | (with_reducible refine Cn10.drew ?_) | (with_reducible refine Cn10.set ?_ ?_ ?_ ?_ ?_ ?_ ?_ ?_ ?_ ?_ ?_ _) | omega)); done)) (first | (go_at_call 35; refine (hweek.out _ (by repeat (first | (with_reducible assumption) | (with_reducible refine ext_alloc ?_ _) | (with_reducible refine ext_drew ?_)))).mono ?_; rintro e w4 ⟨rfl, hb4, hx4⟩) | (go_at_call 17; refine (htimes.out _ (by repeat (first | (with_reducible assumption) | (with_reducible refine ext_alloc ?_ _) | (with_reducible refine ext_drew ?_)))).mono ?_; rintro e w5 ⟨A9, c9, rfl, hb5, hx5⟩))
  all_goals
    go_wp2
    go_ret
    exact ⟨rfl, by first | exact ext_trans hb (ext_drew (by assumption)) | exact ext_trans hb (by assumption)⟩
end Go.Proofs.YtimcdikeajbabaaGreatDoor

namespace Go.Proofs.YtimcdikeajbabaaGreatDoor
open Go.RowKit
set_option maxRecDepth 100000

theorem time_equal (a b c d a' b' c' d' : Int) (w : World) : (Op.equalIn 10000 49 (.agg #[.int .i64 a, .int .i64 b, .int .i64 c, .int .i64 d]) (.agg #[.int .i64 a', .int .i64 b', .int .i64 c', .int .i64 d'])).run Tryz.prog w = .ok (a == a' && (b == b' && (c == c' && d == d'))) w := by
  have u3 := Tryz.underlying3
  have a3 := Tryz.isAgg3
  have z3 := Tryz.sizeOf3
  rw [show (10000 : Nat) = 9999 + 1 from rfl, Op.equalIn]
  simp only [Sem.run_bind, run_underlying Tryz.underlying49, Result.andThen_ok]
  go_simp
  by_cases h1 : a = a' <;> by_cases h2 : b = b' <;> by_cases h3 : c = c' <;> by_cases h4 : d = d' <;> simp [h1, h2, h3, h4]
def freeOk (D S N : Nat) : Bool := decide (([1, 2].flatMap (patT (N : Int) (allStarts D S N))).length = 2 * D * (S - N + 1)) && (decide (([1, 2].flatMap (patT (N : Int) (allStarts D S N)))[0]? = some (1, 0, 0, (N : Int))) && decide (([1, 2].flatMap (patT (N : Int) (allStarts D S N)))[2 * D * (S - N + 1) - 1]? = some (2, ((D - 1 : Nat) : Int), ((S - N : Nat) : Int), (N : Int))))
theorem free_chk : ((List.range 6).all fun D => (List.range 9).all fun S => (List.range 9).all fun N => decide (D = 0) || (decide (N = 0) || (decide (S < N) || freeOk D S N))) = true := by decide +kernel
theorem free_all (D : Nat) (hD : D < 6) (S : Nat) (hS : S < 9) (N : Nat) (hN : N < 9) (h1 : 1 ≤ D) (h2 : 1 ≤ N) (h3 : N ≤ S) : ([1, 2].flatMap (patT (N : Int) (allStarts D S N))).length = 2 * D * (S - N + 1) ∧ ([1, 2].flatMap (patT (N : Int) (allStarts D S N)))[0]? = some (1, 0, 0, (N : Int)) ∧ ([1, 2].flatMap (patT (N : Int) (allStarts D S N)))[2 * D * (S - N + 1) - 1]? = some (2, ((D - 1 : Nat) : Int), ((S - N : Nat) : Int), (N : Int)) := by
  have h := free_chk
  rw [List.all_eq_true] at h
  have h4 := h D (List.mem_range.2 hD)
  rw [List.all_eq_true] at h4
  have h5 := h4 S (List.mem_range.2 hS)
  rw [List.all_eq_true] at h5
  have h6 := h5 N (List.mem_range.2 hN)
  rw [decide_eq_false (by omega), decide_eq_false (by omega), decide_eq_false (by omega), Bool.false_or, Bool.false_or, Bool.false_or] at h6
  unfold freeOk at h6
  rw [Bool.and_eq_true, Bool.and_eq_true, decide_eq_true_eq, decide_eq_true_eq, decide_eq_true_eq] at h6
  exact h6
theorem free_times {d s b m n : Int} (hd : 1 ≤ d ∧ d ≤ 5) (hs : 2 ≤ s ∧ s ≤ 8) (hb : 480 ≤ b ∧ b ≤ 585) (hm : 30 ≤ m ∧ m ≤ 60) (hn : 1 ≤ n ∧ n ≤ s) :
    ∃ L : Nat, (timesK d s b m (⟨#[]⟩, ⟨#[]⟩, ⟨#[]⟩, n, [1, 2], 0, [], [], [])).length = L + 1 ∧ (L : Int) + 1 = 2 * d * (s - n + 1) ∧ L ≤ 100 ∧ (timesK d s b m (⟨#[]⟩, ⟨#[]⟩, ⟨#[]⟩, n, [1, 2], 0, [], [], []))[0]? = some (1, 0, 0, n) ∧ (timesK d s b m (⟨#[]⟩, ⟨#[]⟩, ⟨#[]⟩, n, [1, 2], 0, [], [], []))[L]? = some (2, d - 1, s - n, n) := by
  obtain ⟨D, rfl⟩ : ∃ D : Nat, d = (D : Int) := ⟨d.toNat, by omega⟩
  obtain ⟨S, rfl⟩ : ∃ S : Nat, s = (S : Int) := ⟨s.toNat, by omega⟩
  obtain ⟨N, rfl⟩ : ∃ N : Nat, n = (N : Int) := ⟨n.toNat, by omega⟩
  have hg : gridV (D : Int) S b m = 0 := by
    have h1 : (S : Int) * m ≤ 8 * m := Int.mul_le_mul_of_nonneg_right (by omega) (by omega)
    exact gridV_no (by omega)
  obtain ⟨h1, h2, h3⟩ := free_all D (by omega) S (by omega) N (by omega) (by omega) (by omega) (by omega)
  have hq : 1 ≤ D * (S - N + 1) ∧ D * (S - N + 1) ≤ 5 * 8 := ⟨Nat.mul_pos (by omega) (by omega), Nat.mul_le_mul (by omega) (by omega)⟩
  have hT : timesK (D : Int) S b m (⟨#[]⟩, ⟨#[]⟩, ⟨#[]⟩, (N : Int), [1, 2], 0, [], [], []) = [1, 2].flatMap (patT (N : Int) (allStarts D S N)) := by
    unfold timesK begins
    simp only [if_true, Int.toNat_natCast]
    rw [if_neg (by rw [hg]; omega), if_neg (by rw [h1, Nat.mul_assoc]; omega)]
  rw [hT, h1, Nat.mul_assoc]
  rw [Nat.mul_assoc] at h3
  refine ⟨2 * (D * (S - N + 1)) - 1, by omega, ?_, by omega, h2, ?_⟩
  · have e : ((2 * (D * (S - N + 1)) : Nat) : Int) = 2 * (D : Int) * ((S : Int) - N + 1) := by
      rw [Int.natCast_mul, Int.natCast_mul, Int.natCast_add, Int.natCast_sub (by omega), Int.mul_assoc]; rfl
    rw [← e]; omega
  · rw [h3, Int.natCast_sub (by omega), Int.natCast_sub (by omega)]; rfl
set_option maxHeartbeats 8000000 in
theorem free10_walk (A : Option Addr) (n c : Nat) (x : Int) (w : World) (hS : Std w) (hA : 0 < n → ∃ b off, A = some ⟨b, off, none⟩ ∧ ∀ j, j < n → ∃ x : Int, w.cell? ⟨b, off + j, none⟩ = some (.int .i64 x)) :
    Calls Tryz.prog 4 #[.slice A n c, .int .i64 x] w fun e w' => e = .returned (.bool true) ∧ Below w.heap.size w w' := by
  by_cases hn : n ≤ 400
  · have hd400 : decide (n ≤ 400) = true := by simpa using hn
    have D0 := dice_new (c := c) hn hA
    have hS0 := hS.big
    obtain ⟨g, hgw⟩ : ∃ g, w.heap.size = g := ⟨_, rfl⟩
    obtain ⟨W1, hW1⟩ : ∃ W1, w.alloc (.cells #[.slice A n c, .int .i64 0] 76) = W1 := ⟨_, rfl⟩
    have hb1 : Below w.heap.size w W1 := by rw [← hW1]; exact (by repeat (first | exact Below.refl _ _ | refine ext_alloc ?_ _ | refine ext_drewN ?_ _ | refine ext_drew ?_ | refine ext_trans ?_ (by assumption)))
    have hS1 := hS.after hb1
    rw [hW1] at D0
    have hg : w.heap.size ≤ g := Nat.le_of_eq hgw
    have D1 : DiceOk w.heap.size W1 g := by rw [← hgw]; exact D0
    replace hW1 := hide hW1
    replace hgw := hide hgw
    clear D0 hA
    go_enter Tryz.func4, Tryz.ntmps4
    go_wp2_with (go_at_call 13; refine (light_walk _ _ _ _).mono ?_; rintro e w' ⟨rfl, rfl⟩)
    refine (roll_walk _ _ _ _).mono ?_
    rintro e w' ⟨rfl, rfl⟩
    rw [hW1.out, hgw.out]
    clear hW1 hgw
    go_wp2_with fail
    refine (grid_walk w.heap.size g W1 D1).mono ?_
    rintro e w2 ⟨d, s, b, m, rfl, ⟨d1, d2, s1, s2, z1, z2, z3, z4⟩, T2⟩
    have hS2 := T2.std hS1 (by omega)
    have hb2 := T2.ext hb1 hg
    have bG := Box4.new w2 24 (.int .i64 d) (.int .i64 s) (.int .i64 b) (.int .i64 m)
    have hb3 := ext_alloc hb2 (.cells #[.int .i64 d, .int .i64 s, .int .i64 b, .int .i64 m] 24)
    have hS3 := hS2.alloc (.cells #[.int .i64 d, .int .i64 s, .int .i64 b, .int .i64 m] 24)
    obtain ⟨W3, hW3⟩ : ∃ W3, w2.alloc (.cells #[.int .i64 d, .int .i64 s, .int .i64 b, .int .i64 m] 24) = W3 := ⟨_, rfl⟩
    rw [hW3] at bG hb3 hS3
    obtain ⟨gb, hgb⟩ : ∃ gb, w2.heap.size = gb := ⟨_, rfl⟩
    rw [hgb] at bG
    replace hW3 := hide hW3
    replace hgb := hide hgb
    have hgl := bG.lt
    obtain ⟨g0, g1, g2, g3⟩ := bG
    obtain ⟨r0, r1, -⟩ := modV_bd x s
    have hmod := mod_walk x s (by omega) W3
    obtain ⟨r, hr⟩ : ∃ r, modV x s = r := ⟨_, rfl⟩
    rw [hr] at r0 r1 hmod
    have r2 := r1 (by omega)
    have hw1 : IntKind.i64.wrap (1 + r) = 1 + r := IntWalk.i64_in _ (by omega)
    clear D1 T2 hS1 hb1 hS2 hb2 r1 hr
    go_wp2_with fail
    rw [hW3.out, hgb.out]
    refine hmod.mono ?_
    clear hmod
    rintro e w4 ⟨rfl, rfl⟩
    obtain ⟨N, hN⟩ : ∃ N, 1 + r = N := ⟨_, rfl⟩
    have hN1 : 1 ≤ N ∧ N ≤ s := by omega
    have hb5 : Below W3.heap.size W3 (W3.alloc (.cells #[.int .i64 1, .int .i64 2] 3)) := ext_alloc (Below.refl _ _) _
    have hpat : At kInt AnyB (W3.alloc (.cells #[.int .i64 1, .int .i64 2] 3)) (some ⟨W3.heap.size, 0, none⟩) [1, 2] := fun _ => ⟨W3.heap.size, 0, rfl, trivial, by simp, fun j y hy => by
      match j, hy with
      | 0, hy => simp at hy; subst hy; exact ⟨_, rfl, fun i u hu => by match i, hu with | 0, hu => simp at hu; subst hu; simp⟩
      | 1, hy => simp at hy; subst hy; exact ⟨_, rfl, fun i u hu => by match i, hu with | 0, hu => simp at hu; subst hu; simp [kInt]⟩
      | j + 2, hy => simp at hy⟩
    have hcall := ctimes_walk ⟨#[]⟩ ⟨#[]⟩ ⟨#[]⟩ N (some ⟨W3.heap.size, 0, none⟩) 2 2 0 none 0 0 none 0 0 none 0 0 [1, 2] [] [] [] d s b m _ rfl rfl (by decide) (by decide) hpat (fun h => absurd h (by simp))
    obtain ⟨L, hL1, hL2, hL3, hL4, hL5⟩ := free_times (b := b) (m := m) (n := N) ⟨d1, d2⟩ ⟨s1, s2⟩ ⟨z1, z2⟩ ⟨z3, z4⟩ hN1
    obtain ⟨T, hT⟩ : ∃ T, timesK d s b m (⟨#[]⟩, ⟨#[]⟩, ⟨#[]⟩, N, [1, 2], 0, [], [], []) = T := ⟨_, rfl⟩
    rw [hT] at hcall hL1 hL4 hL5
    have g0' := cell_later hb5 g0
    have g1' := cell_later hb5 g1
    have g2' := cell_later hb5 g2
    have g3' := cell_later hb5 g3
    have hS5 := hS3.after hb5
    have hbw := ext_trans hb3 hb5
    have hgl' := World.block_lt_of_cell? _ _ g0'
    clear hpat hS3 hb3 hT
    go_wp2_with fail
    refine hcall.mono ?_
    clear hcall
    rintro e w6 ⟨v, rfl, ho, hb6⟩
    obtain ⟨AT, cT, rfl, -, hat⟩ := ho.any
    have hX := cells_of_at hat.lo
    obtain ⟨yb, yo, rfl, hyl, tc⟩ := hX (by rw [hL1]; omega)
    have e0 : T.getD 0 (0, 0, 0, 0) = (1, 0, 0, N) := by rw [List.getD_eq_getElem?_getD, hL4]; rfl
    have eL : T.getD L (0, 0, 0, 0) = (2, d - 1, s - N, N) := by rw [List.getD_eq_getElem?_getD, hL5]; rfl
    have p0 : w6.cell? ⟨yb, yo, none⟩ = some (.int .i64 1) := by have := tc 0 (by omega) 0 (.int .i64 1) (by show (encT (T.getD 0 (0, 0, 0, 0)))[_]? = _; rw [e0]; rfl); simpa using this
    have p1 : w6.cell? ⟨yb, yo + 1, none⟩ = some (.int .i64 0) := by have := tc 0 (by omega) 1 (.int .i64 0) (by show (encT (T.getD 0 (0, 0, 0, 0)))[_]? = _; rw [e0]; rfl); simpa using this
    have p2 : w6.cell? ⟨yb, yo + 2, none⟩ = some (.int .i64 0) := by have := tc 0 (by omega) 2 (.int .i64 0) (by show (encT (T.getD 0 (0, 0, 0, 0)))[_]? = _; rw [e0]; rfl); simpa using this
    have p3 : w6.cell? ⟨yb, yo + 3, none⟩ = some (.int .i64 N) := by have := tc 0 (by omega) 3 (.int .i64 N) (by show (encT (T.getD 0 (0, 0, 0, 0)))[_]? = _; rw [e0]; rfl); simpa using this
    have q0 : w6.cell? ⟨yb, yo + L * 4, none⟩ = some (.int .i64 2) := tc L (by omega) 0 (.int .i64 2) (by show (encT (T.getD L (0, 0, 0, 0)))[_]? = _; rw [eL]; rfl)
    have q1 : w6.cell? ⟨yb, yo + L * 4 + 1, none⟩ = some (.int .i64 (d - 1)) := tc L (by omega) 1 (.int .i64 (d - 1)) (by show (encT (T.getD L (0, 0, 0, 0)))[_]? = _; rw [eL]; rfl)
    have q2 : w6.cell? ⟨yb, yo + L * 4 + 2, none⟩ = some (.int .i64 (s - N)) := tc L (by omega) 2 (.int .i64 (s - N)) (by show (encT (T.getD L (0, 0, 0, 0)))[_]? = _; rw [eL]; rfl)
    have q3 : w6.cell? ⟨yb, yo + L * 4 + 3, none⟩ = some (.int .i64 N) := tc L (by omega) 3 (.int .i64 N) (by show (encT (T.getD L (0, 0, 0, 0)))[_]? = _; rw [eL]; rfl)
    obtain ⟨M, hM⟩ : ∃ M, L + 1 = M := ⟨_, rfl⟩
    rw [hL1, hM]
    have g0'' := cell_later hb6 g0'
    have g1'' := cell_later hb6 g1'
    have hS6 := hS5.after hb6
    have hbx := ext_trans hbw hb6
    have hM0 : (0 : Int) < (M : Int) := by omega
    have hMi : (M : Int) - 1 = (L : Int) := by omega
    have hMw : IntKind.i64.wrap (L : Int) = (L : Int) := IntWalk.i64_in _ (by omega)
    have hL0 : (0 : Int) ≤ (L : Int) := by omega
    have hLM : (L : Int) < (M : Int) := by omega
    have w1 : IntKind.i64.wrap (2 * d) = 2 * d := IntWalk.i64_in _ (by omega)
    have w2' : IntKind.i64.wrap (s - N) = s - N := IntWalk.i64_in _ (by omega)
    have w3 : IntKind.i64.wrap (s - N + 1) = s - N + 1 := IntWalk.i64_in _ (by omega)
    have w4 : IntKind.i64.wrap (2 * d * (s - N + 1)) = 2 * d * (s - N + 1) := IntWalk.i64_in _ (by rw [← hL2]; omega)
    have w5 : IntKind.i64.wrap (d - 1) = d - 1 := IntWalk.i64_in _ (by omega)
    have hlen : ((M : Int) == 2 * d * (s - N + 1)) = true := by rw [← hL2, ← hM]; simp
    have heq1 : ∀ W : World, (Op.equalIn 10000 49 (.agg #[.int .i64 1, .int .i64 0, .int .i64 0, .int .i64 N]) (.agg #[.int .i64 1, .int .i64 0, .int .i64 0, .int .i64 N])).run Tryz.prog W = .ok true W := fun W => (time_equal 1 0 0 N 1 0 0 N W).trans (by simp)
    have heq2 : ∀ W : World, (Op.equalIn 10000 49 (.agg #[.int .i64 2, .int .i64 (d - 1), .int .i64 (s - N), .int .i64 N]) (.agg #[.int .i64 2, .int .i64 (d - 1), .int .i64 (s - N), .int .i64 N])).run Tryz.prog W = .ok true W := fun W => (time_equal 2 (d - 1) (s - N) N 2 (d - 1) (s - N) N W).trans (by simp)
    have haw := hide (fun (v : Later w6) => calls_later (v := .bool true) (n := v) (awake10_walk v.val (hS6.after v.keeps)))
    have hany := later_any w6
    have f0 := fun (v : Later w6) => cell_later v.keeps g0''
    have f1 := fun (v : Later w6) => cell_later v.keeps g1''
    have fp0 := fun (v : Later w6) => cell_later v.keeps p0
    have fp1 := fun (v : Later w6) => cell_later v.keeps p1
    have fp2 := fun (v : Later w6) => cell_later v.keeps p2
    have fp3 := fun (v : Later w6) => cell_later v.keeps p3
    have fq0 := fun (v : Later w6) => cell_later v.keeps q0
    have fq1 := fun (v : Later w6) => cell_later v.keeps q1
    have fq2 := fun (v : Later w6) => cell_later v.keeps q2
    have fq3 := fun (v : Later w6) => cell_later v.keeps q3
    replace hL2 := hide hL2
    replace hM := hide hM
    replace hN := hide hN
    replace hL1 := hide hL1
    clear ho hat hX tc e0 eL hL4 hL5 hb6 hbw hS5 g0' g1' g2' g3' g0 g1 g2 g3
    go_upto_region 6 with fail
    refine wp_region_later (by kernel_rfl) (by kernel_rfl) ?_
    repeat (go_big_quiet_step ((go_at_call 8; with_reducible exact haw.out _)))
    refine wpQuiet_nil ?_
    clear haw hany f0 f1 fp0 fp1 fp2 fp3 fq0 fq1 fq2 fq3
    rintro _ ⟨n8', rfl⟩
    have hb8 := n8'.keeps
    generalize n8'.val = w8 at *
    go_wp2_with fail
    go_ret
    exact ⟨rfl, ext_trans hbx hb8⟩
  · have hd400 : decide (n ≤ 400) = false := by simpa using hn
    have haw := awake10_walk w hS
    clear hA
    go_enter Tryz.func4, Tryz.ntmps4
    go_wp2_with (go_at_call 13; refine (light_walk _ _ _ _).mono ?_; rintro e w' ⟨rfl, rfl⟩)
    refine haw.mono ?_
    rintro e w' ⟨rfl, hb⟩
    go_wp2
    go_ret
    exact ⟨rfl, hb⟩
end Go.Proofs.YtimcdikeajbabaaGreatDoor
