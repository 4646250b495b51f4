/- The check at the head of law 10. Condition: the program's variables hold what Std says. The statement CoursefileReads: its walk. Conditions: what is read is bounded; what the program's variables hold. -/
import Derived.Test.YtimcdikeajbabaaGreatDoorRows
import Derived.WalkKit
import Derived.WalkSpells
import Derived.WalkLawsBesides
import Derived.BigGuardPart
import Derived.Lib.Hide
import Derived.Laws.BitsAllLaws
import Derived.Laws.BitsLemmas
import Derived.Lib.LaidTab
import Derived.Test.YtimcdikeajbabaaGreatDoorShelf
import Derived.Lib.ConvBytes
import Derived.Deep.QuietTactic
import Derived.BigQuiet
import Derived.Test.YtimcdikeajbabaaGreatDoorShelfS
import Derived.Laws.ResultCell
import Derived.RegionTactic
import Derived.BigRegion
import Derived.Deep.RegionHeld3
import Derived.Deep.DeepCutAuto
import Derived.Lib.SmallJoins
import Derived.Lib.SplitLaws
import Derived.Lib.CountLaws
import Derived.Lib.IndexMore
import Derived.Lib.Split
import Derived.Lib.Join
import Derived.Lib.ItoaNum
import Derived.Laws.AppendOwn
import Derived.Test.YtimcdikeajbabaaGreatDoorShelfT
import Derived.Lib.ItoaLen
import Derived.Lib.AppendIntMem
import Derived.Deep.AppendLies
import Derived.Lib.PathFns
import Derived.Maps.Range
import Derived.Lib.OwnBridge
import Derived.Sort.OwnSorted
import Derived.Sort.Walk0
import Derived.Test.YtimcdikeajbabaaGreatDoorCards
import Derived.Test.YtimcdikeajbabaaGreatDoorTie
import Derived.ProofKit
import Derived.OpenShut
import Derived.LaidMore
import Derived.Lay
import Derived.SevenTiedAt
import Derived.Stop.Joined
import Derived.Stop.LaidErr
import Derived.Deep.DeepHandedRow
import Derived.Lib.LaidU8
import Derived.LaidSub
import Derived.Deep.Slices
import Derived.Deep.Fields
import Derived.ChangeSame
import Derived.Shelf.SlSortCmp.NoneTotal
import Derived.Ground.SlsfProg
import Derived.Lib.SliceRun
import Derived.Lib.Walk
import Derived.RangeFuncNested
import Derived.RangeFuncBound
import Derived.RangeFuncCalls
import Derived.RangeFuncLeaves
import Derived.RangeFuncBox
import Derived.RangeFuncWrites
import Derived.Shelf.Abstract
import Derived.Shelf.RegionOpen
import Derived.OwnWalkIn
import Derived.TacticsInMore
import Derived.LoopNIn
import Derived.LoopIn
import Derived.Maps.AppendAt
import Derived.Deep.RegionLaw
import Derived.Deep.RegionLawGrows
import Derived.WalkMore
import Derived.Test.YtimcdikeajbabaaGreatDoorZTimeA
import Derived.Test.YtimcdikeajbabaaGreatDoorZKTimes
import Derived.Test.YtimcdikeajbabaaGreatDoorZR9A
import Derived.Test.YtimcdikeajbabaaGreatDoorZAppAt
namespace Go.Proofs.YtimcdikeajbabaaGreatDoor
open Go.RowKit
set_option maxRecDepth 100000

def f10 : List ByteArray := [⟨#[99, 49]⟩, ⟨#[77, 65]⟩, ⟨#[76]⟩, ⟨#[50]⟩, ⟨#[111, 100, 100, 47, 101, 118, 101, 110]⟩, ⟨#[51, 48]⟩, ⟨#[]⟩, ⟨#[97, 100, 97]⟩, ⟨#[77, 111, 32, 51, 59, 84, 117, 32, 49]⟩]
def cls10 : Cls := (⟨#[99, 49]⟩, ⟨#[77, 65]⟩, ⟨#[76]⟩, 2, [5, 10], 30, [], [⟨#[97, 100, 97]⟩], [(0, 2), (1, 0)])
theorem read10 : clssRead 5 10 480 45 4 (plainR 1 [f10]) = ([cls10], []) := by kernel_rfl
theorem times10 : (timesK 5 10 480 45 cls10).length = 4 := by kernel_rfl
theorem week10_walk (w : World) :
    Calls Tryz.prog 35 #[] w fun e w' => e = .returned (.agg #[.int .i64 5, .int .i64 10, .int .i64 480, .int .i64 45]) ∧ Below w.heap.size w w' := by
  go_enter Tryz.func35, Tryz.ntmps35
  go_wp2
  refine end_struct1 rfl (Or.inl rfl) w.heap.size (.int .i64 5) (.int .i64 10) (.int .i64 480) (.int .i64 45) rfl rfl (by simp) (by simp) (by simp) (by simp) ⟨rfl, (by repeat (first | exact Below.refl _ _ | refine ext_alloc ?_ _ | refine ext_drewN ?_ _ | refine ext_drew ?_ | refine ext_trans ?_ (by assumption)))⟩
set_option maxHeartbeats 4000000 in
theorem awake10_walk (w : World) (hS : Std w) :
    Calls Tryz.prog 8 #[] w fun e w' => e = .returned (.bool true) ∧ Below w.heap.size w w' := by
  obtain ⟨W, hW⟩ : ∃ W, (w.alloc (.cells #[.string ⟨#[99, 49]⟩, .string ⟨#[77, 65]⟩, .string ⟨#[76]⟩, .string ⟨#[50]⟩, .string ⟨#[111, 100, 100, 47, 101, 118, 101, 110]⟩, .string ⟨#[51, 48]⟩, .string ⟨#[]⟩, .string ⟨#[97, 100, 97]⟩, .string ⟨#[77, 111, 32, 51, 59, 84, 117, 32, 49]⟩] 9)).alloc (.cells #[.slice (some ⟨w.heap.size, 0, none⟩) 9 9] 44) = W := ⟨_, rfl⟩
  have hb0 : Below w.heap.size w W := by rw [← hW]; exact (by repeat (first | exact Below.refl _ _ | refine ext_alloc ?_ _ | refine ext_drewN ?_ _ | refine ext_drew ?_ | refine ext_trans ?_ (by assumption)))
  have hX : ListsIn W.heap.size W (some ⟨w.heap.size + 1, 0, none⟩) [f10] := by
    rw [← hW]
    intro _
    refine ⟨w.heap.size + 1, 0, rfl, by simp, fun j x hx => ?_⟩
    match j, hx with
    | 0, hx =>
      simp at hx
      subst hx
      have c0 : ∀ A : World, (A.alloc (.cells #[.slice (some ⟨w.heap.size, 0, none⟩) 9 9] 44)).cell? ⟨A.heap.size, 0, none⟩ = some (.slice (some ⟨w.heap.size, 0, none⟩) 9 9) := fun A => by simp
      have c1 := c0 (w.alloc (.cells #[.string ⟨#[99, 49]⟩, .string ⟨#[77, 65]⟩, .string ⟨#[76]⟩, .string ⟨#[50]⟩, .string ⟨#[111, 100, 100, 47, 101, 118, 101, 110]⟩, .string ⟨#[51, 48]⟩, .string ⟨#[]⟩, .string ⟨#[97, 100, 97]⟩, .string ⟨#[77, 111, 32, 51, 59, 84, 117, 32, 49]⟩] 9))
      rw [World.size_alloc] at c1
      refine ⟨some ⟨w.heap.size, 0, none⟩, 9, c1, fun _ => ⟨w.heap.size, 0, rfl, by simp; omega, fun k z hz => ?_⟩⟩
      unfold f10 at hz
      match k, hz with
      | 0, hz => simp at hz; subst hz; simp
      | 1, hz => simp at hz; subst hz; simp
      | 2, hz => simp at hz; subst hz; simp
      | 3, hz => simp at hz; subst hz; simp
      | 4, hz => simp at hz; subst hz; simp
      | 5, hz => simp at hz; subst hz; simp
      | 6, hz => simp at hz; subst hz; simp
      | 7, hz => simp at hz; subst hz; simp
      | 8, hz => simp at hz; subst hz; simp
      | k + 9, hz => simp at hz
    | j + 1, hx => simp at hx
  have hpl := plain_walk (some ⟨w.heap.size + 1, 0, none⟩) [f10] 1 W hX (by decide) (by decide)
  have hS0 := hS.after hb0
  replace hW := hide hW
  clear hX
  go_enter Tryz.func8, Tryz.ntmps8
  go_wp2_with fail
  rw [hW.out]
  refine hpl.mono ?_
  clear hpl
  rintro e w1 ⟨v, rfl, hR, hb1⟩
  obtain ⟨A1, c1, rfl⟩ : ∃ A1 c1, v = .slice A1 1 c1 := by obtain ⟨us, -, h, -⟩ := hR; exact owns_form h
  have hb := ext_trans hb0 hb1
  have hR1 := recs_at hR
  have hS1 := hS0.after hb1
  clear hb0 hb1 hS0 hR hW
  go_wp2_with fail
  refine (week10_walk w1).mono ?_
  rintro e w2 ⟨rfl, hb2⟩
  have hcall := kfread_walk 5 10 480 45 4 A1 (plainR 1 [f10]) c1 w2 (hS1.after hb2) ((hR1.below hb2).more hb2.size) (by decide) (by decide)
  replace hb := ext_trans hb hb2
  clear hR1 hS1 hb2
  go_wp2_with fail
  refine hcall.mono ?_
  clear hcall
  rintro e w3 ⟨v6, v8, rfl, hL, hP, hb3⟩
  rw [read10] at hL hP
  obtain ⟨A6, c6, rfl, -, hat⟩ := hL.any
  obtain ⟨A8, c8p, rfl⟩ : ∃ A8 c8p, v8 = .slice A8 0 c8p := owns_form hP
  obtain ⟨gb, go, A4, c4, Aa, c6', A7, c7, Ac, c8, rfl, -, hgl, hq9, ⟨l4, l6, l7, l8⟩, a4, a6, a7, a8⟩ := hat.any.clsF (j := 0) (x := cls10) rfl
  rw [Nat.zero_mul, Nat.add_zero] at hq9
  unfold nineOf cls10 at hq9
  obtain ⟨q0, q1, q2, q3, q4, q5, q6, q7, q8⟩ := hq9
  dsimp only [List.length] at q0 q1 q2 q3 q4 q5 q6 q7 q8
  obtain ⟨sb, so, rfl, -, hsb, s0, s1⟩ := a8.start (j := 0) (x := (0, 2)) rfl
  rw [Nat.zero_mul, Nat.add_zero] at s0 s1
  dsimp only at s0 s1
  replace hb := ext_trans hb hb3
  have hCn : Cn10 gb go (.string ⟨#[99, 49]⟩) gb (go + 1) (.string ⟨#[77, 65]⟩) gb (go + 2) (.string ⟨#[76]⟩) gb (go + 3) (.int .i64 2) gb (go + 4) (.slice A4 2 c4) gb (go + 5) (.int .i64 30) gb (go + 6) (.slice Aa 0 c6') gb (go + 7) (.slice A7 1 c7) gb (go + 8) (.slice (some ⟨sb, so, none⟩) 2 c8) sb (so + 1) (.int .i64 2) w3 := ⟨q0, q1, q2, q3, q4, q5, q6, q7, q8, s1⟩
  have hweek := hide (fun (V : World) (hV : Below w3.heap.size w3 V) => (week10_walk V).mono fun _ _ ⟨he, hb⟩ => (⟨he, ext_trans hV hb, hCn.later (ext_trans hV hb)⟩ : _ = Ending.returned (.agg #[.int .i64 5, .int .i64 10, .int .i64 480, .int .i64 45]) ∧ Below w3.heap.size w3 _ ∧ Cn10 gb go (.string ⟨#[99, 49]⟩) gb (go + 1) (.string ⟨#[77, 65]⟩) gb (go + 2) (.string ⟨#[76]⟩) gb (go + 3) (.int .i64 2) gb (go + 4) (.slice A4 2 c4) gb (go + 5) (.int .i64 30) gb (go + 6) (.slice Aa 0 c6') gb (go + 7) (.slice A7 1 c7) gb (go + 8) (.slice (some ⟨sb, so, none⟩) 2 c8) sb (so + 1) (.int .i64 2) _))
  have htimes0 : ∀ V : World, Below w3.heap.size w3 V → Calls Tryz.prog 17 #[.agg #[.string ⟨#[99, 49]⟩, .string ⟨#[77, 65]⟩, .string ⟨#[76]⟩, .int .i64 2, .slice A4 2 c4, .int .i64 30, .slice Aa 0 c6', .slice A7 1 c7, .slice (some ⟨sb, so, none⟩) 2 c8], .agg #[.int .i64 5, .int .i64 10, .int .i64 480, .int .i64 45]] V fun e w' => ∃ A9 c9, e = .returned (.slice A9 4 c9) ∧ Below w3.heap.size w3 w' ∧ Cn10 gb go (.string ⟨#[99, 49]⟩) gb (go + 1) (.string ⟨#[77, 65]⟩) gb (go + 2) (.string ⟨#[76]⟩) gb (go + 3) (.int .i64 2) gb (go + 4) (.slice A4 2 c4) gb (go + 5) (.int .i64 30) gb (go + 6) (.slice Aa 0 c6') gb (go + 7) (.slice A7 1 c7) gb (go + 8) (.slice (some ⟨sb, so, none⟩) 2 c8) sb (so + 1) (.int .i64 2) w' := fun V hV => by
    refine (ctimes_walk ⟨#[99, 49]⟩ ⟨#[77, 65]⟩ ⟨#[76]⟩ 2 A4 2 c4 30 Aa 0 c6' A7 1 c7 (some ⟨sb, so, none⟩) 2 c8 [5, 10] [] [⟨#[97, 100, 97]⟩] [(0, 2), (1, 0)] 5 10 480 45 V rfl rfl (by decide) (by decide) (a4.any.later hV) (a8.any.later hV)).mono ?_
    rintro e w' ⟨v, rfl, ho, hb⟩
    obtain ⟨A9, c9, rfl⟩ := ho.form
    exact ⟨A9, c9, by rw [show (timesK 5 10 480 45 (⟨#[99, 49]⟩, ⟨#[77, 65]⟩, ⟨#[76]⟩, 2, [5, 10], 30, [], [⟨#[97, 100, 97]⟩], [(0, 2), (1, 0)])).length = 4 from times10], ext_trans hV hb, hCn.later (ext_trans hV hb)⟩
  have htimes := hide htimes0
  clear htimes0
  have hCd := hCn.drew
  have hrefl := Below.refl w3.heap.size w3
  obtain ⟨z0, z1, z2, z3, z4, z5, z6, z7, z8, z9⟩ := id hCn
  clear hL hP hb3 hat a4 a6 a7 a8 q0 q1 q2 q3 q4 q5 q6 q7 q8 s0 s1 l4 l6 l7 l8
  dsimp only [List.length] at *
  go_upto_region 2 with fail
  go_region_held3 (fun W' => W'.cell? ⟨gb, go, none⟩ = some (.string ⟨#[99, 49]⟩) ∧ W'.cell? ⟨gb, go + 1, none⟩ = some (.string ⟨#[77, 65]⟩) ∧ W'.cell? ⟨gb, go + 2, none⟩ = some (.string ⟨#[76]⟩) ∧ W'.cell? ⟨gb, go + 3, none⟩ = some (.int .i64 2) ∧ W'.cell? ⟨gb, go + 4, none⟩ = some (.slice A4 2 c4) ∧ W'.cell? ⟨gb, go + 5, none⟩ = some (.int .i64 30) ∧ W'.cell? ⟨gb, go + 6, none⟩ = some (.slice Aa 0 c6') ∧ W'.cell? ⟨gb, go + 7, none⟩ = some (.slice A7 1 c7) ∧ W'.cell? ⟨gb, go + 8, none⟩ = some (.slice (some ⟨sb, so, none⟩) 2 c8) ∧ W'.cell? ⟨sb, so + 1, none⟩ = some (.int .i64 2)) (first | ((repeat (first | (with_reducible assumption) | (with_reducible refine Cn10.alloc ?_ _) | (with_reducible refine Cn10.drew ?_) | (with_reducible refine Cn10.set ?_ ?_ ?_ ?_ ?_ ?_ ?_ ?_ ?_ ?_ ?_ _) | omega)); done)) (first | (go_at_call 35; refine (hweek.out _ (by repeat (first | (with_reducible assumption) | (with_reducible refine ext_alloc ?_ _) | (with_reducible refine ext_drew ?_)))).mono ?_; rintro e w4 ⟨rfl, hb4, hx4⟩) | (go_at_call 17; refine (htimes.out _ (by repeat (first | (with_reducible assumption) | (with_reducible refine ext_alloc ?_ _) | (with_reducible refine ext_drew ?_)))).mono ?_; rintro e w5 ⟨A9, c9, rfl, hb5, hx5⟩))
  all_goals
    go_wp2
    go_ret
    exact ⟨rfl, by first | exact ext_trans hb (ext_drew (by assumption)) | exact ext_trans hb (by assumption)⟩
end Go.Proofs.YtimcdikeajbabaaGreatDoor

namespace Go.Proofs.YtimcdikeajbabaaGreatDoor
open Go.RowKit
set_option maxRecDepth 100000

theorem recs_len10 {B : Nat} {w : World} {A : Option Addr} {rs : List Rec} (h : RecsAt B w A rs) (j : Nat) (hj : j < rs.length) :
    ∃ b off F c, A = some ⟨b, off, none⟩ ∧ b < B ∧ w.cell? ⟨b, off + j * 2, none⟩ = some (.int .i64 (rs.getD j (0, [])).1) ∧ w.cell? ⟨b, off + j * 2 + 1, none⟩ = some (.slice F (rs.getD j (0, [])).2.length c) := by
  obtain ⟨b, off, e, hb, hc⟩ := h (by omega)
  obtain ⟨F, c, c0, c1, -⟩ := hc j (rs.getD j (0, [])) (by rw [List.getD_eq_getElem?_getD, List.getElem?_eq_getElem hj]; rfl)
  exact ⟨b, off, F, c, e, hb, c0, c1⟩
section
variable {α : Type} {n : Nat} {P : Int → List Fld → List α → Option Prob} {f : List Fld → α}
theorem readAll_eachK {Pr : α → Prop} (hP : ∀ line fs ls, P line fs ls = none → Pr (f fs)) (rs : List Rec) : ∀ x ∈ (readAll n P f rs).ls, Pr x := by
  have key : ∀ (rs : List Rec) (s : RG α), (∀ x ∈ s.ls, Pr x) → ∀ x ∈ (rs.foldl (gathStep n P f) s).ls, Pr x := by
    intro rs
    induction rs with
    | nil => intro s h; exact h
    | cons r rs ih =>
      intro s h
      refine ih _ ?_
      unfold gathStep
      split
      · split
        · exact h
        · rename_i hp
          intro x hx
          rcases List.mem_append.1 hx with hx | hx
          · exact h x hx
          · simp at hx; subst hx; exact hP _ _ _ hp
      · exact h
  exact key rs ⟨[], [], []⟩ (fun x hx => by simp at hx)
end
theorem orP_none {a b : Option Prob} (h : orP a b = none) : a = none ∧ b = none := by
  cases a with
  | none => exact ⟨rfl, h⟩
  | some p => cases h
theorem probOf_zero {line col e : Int} (h : probOf line col e = none) : e = 0 := by
  unfold probOf at h
  by_cases he : e = 0
  · exact he
  · rw [if_neg he] at h; cases h
theorem clsOf_short {d sl n line : Int} {fs : List Fld} {ls : List Cls} (h : clsP d sl n line fs ls = none) : (clsOf d sl n fs).2.2.2.2.1.length ≤ 8 ∧ (clsOf d sl n fs).2.2.2.2.2.2.1.length ≤ 64 ∧ (clsOf d sl n fs).2.2.2.2.2.2.2.1.length ≤ 64 ∧ (clsOf d sl n fs).2.2.2.2.2.2.2.2.length ≤ 24 := by
  have h1 : fieldsK d sl n line fs = none := noted_no (noted_no h)
  unfold fieldsK at h1
  obtain ⟨h2, hs⟩ := orP_none h1
  obtain ⟨h3, -⟩ := orP_none h2
  obtain ⟨h4, -⟩ := orP_none h3
  obtain ⟨h5, -⟩ := orP_none h4
  obtain ⟨-, hp⟩ := orP_none h5
  replace hs := probOf_zero hs
  replace hp := probOf_zero hp
  refine ⟨?_, by show (ascS _).length ≤ 64; rw [ascS_len]; exact listV_len64 _, by show (ascS _).length ≤ 64; rw [ascS_len]; exact listV_len64 _, ?_⟩
  · show ((slashOf (textAt fs 4)).map (patV n)).length ≤ 8
    rw [List.length_map]
    unfold patsRE at hp
    by_cases hf : firstE (patE n) (slashOf (textAt fs 4)) = 0
    · rw [if_neg (fun h => h hf)] at hp
      by_cases h8 : 8 < (slashOf (textAt fs 4)).length
      · rw [if_pos h8] at hp; cases hp
      · omega
    · rw [if_pos hf] at hp; exact absurd hp hf
  · show (ascP ((partsOf (textAt fs 8)).map (startP d sl (lenOf (textAt fs 3))))).length ≤ 24
    rw [ascG_len, List.length_map]
    unfold startsRE at hs
    by_cases hf : firstE (startE d sl (lenOf (textAt fs 3))) (partsOf (textAt fs 8)) = 0
    · rw [if_neg (fun h => h hf)] at hs
      by_cases h8 : 24 < (partsOf (textAt fs 8)).length
      · rw [if_pos h8] at hs; cases hs
      · omega
    · rw [if_pos hf] at hs; exact absurd hs hf
theorem clssRead_short (d sl b m n : Int) (rs : List Rec) : (clssRead d sl b m n rs).1.length ≤ 24 ∧ ClsShortM (clssRead d sl b m n rs).1 := by
  unfold clssRead
  split
  · refine ⟨(readCls_len d sl n rs).1, fun x hx => ?_⟩
    have := readAll_eachK (Pr := fun x : Cls => x.2.2.2.2.1.length ≤ 8 ∧ x.2.2.2.2.2.2.1.length ≤ 64 ∧ x.2.2.2.2.2.2.2.1.length ≤ 64 ∧ x.2.2.2.2.2.2.2.2.length ≤ 24) (fun _ _ _ h => clsOf_short h) rs x hx
    omega
  · exact ⟨Nat.zero_le _, fun x hx => by simp at hx⟩
/-- Two lists of classes that own the same are found equal. -/
theorem clss_same {B C : Nat} {v v' : Value} {l : List Cls} {w : World} (hl : l.length ≤ 24) (hs : ClsShortM l) (h1 : ClssOwn B w v l) (h2 : ClssOwn C w v' l) :
    Calls Tryz.prog 11 #[v, v'] w fun e w' => e = .returned (.bool true) ∧ Below w.heap.size w w' := by
  obtain ⟨A, c, rfl⟩ := h1.form
  obtain ⟨A', c', rfl⟩ := h2.form
  exact r10same_walk A A' l c c' w (by omega) hs h1.any'.any h2.any'.any
set_option maxHeartbeats 8000000 in
theorem reads10_walk (A : Option Addr) (rs : List Rec) (cap : Nat) (d sl b m n : Int) (w : World) (hS : Std w) (hW : Wds w) (hD : Dys w) (hR : RecsAt w.heap.size w A rs) (hN : rs.length ≤ 1048576) (hs : ∀ r ∈ rs, ∀ f ∈ r.2, f.1.size < 1073741824) :
    Calls Tryz.prog 3 #[.slice A rs.length cap, .agg #[.int .i64 d, .int .i64 sl, .int .i64 b, .int .i64 m], .int .i64 n] w fun e w' => e = .returned (.bool true) ∧ Below w.heap.size w w' := by
  have hb0 : Below w.heap.size w (w.alloc (.cells #[.int .i64 d, .int .i64 sl, .int .i64 b, .int .i64 m] 24)) := (by repeat (first | exact Below.refl _ _ | refine ext_alloc ?_ _ | refine ext_drewN ?_ _ | refine ext_drew ?_ | refine ext_trans ?_ (by assumption)))
  have bG := Box4.new w 24 (.int .i64 d) (.int .i64 sl) (.int .i64 b) (.int .i64 m)
  obtain ⟨gb, hgb⟩ : ∃ gb, w.heap.size = gb := ⟨_, rfl⟩
  obtain ⟨W, hWW⟩ : ∃ W, w.alloc (.cells #[.int .i64 d, .int .i64 sl, .int .i64 b, .int .i64 m] 24) = W := ⟨_, rfl⟩
  have hR0 := (hR.below hb0).more hb0.size
  have hS0 := hS.after hb0
  have hW0 := hW.after hb0 hS
  have hD0 := hD.after hb0 hS
  rw [hWW] at hb0 bG hR0 hS0 hW0 hD0
  rw [hgb] at bG
  have hgl := bG.lt
  obtain ⟨g0, g1, g2, g3⟩ := bG
  clear hR hS hW hD
  obtain ⟨N, hNN⟩ : ∃ N, rs.length = N := ⟨_, rfl⟩
  rw [hNN] at hN ⊢
  replace hNN := hide hNN
  replace hs := hide hs
  replace hgb := hide hgb
  replace hWW := hide hWW
  go_enter Tryz.func3, Tryz.ntmps3
  go_wp2_with fail
  rw [hWW.out, hgb.out]
  go_loopw [7] (fun i wr => ∃ j : Nat, j ≤ N ∧ i = .int .i64 j ∧ wr = W) (fun i _ => N - (intOf i).toNat)
  case atStart => exact ⟨0, Nat.zero_le _, rfl, rfl⟩
  case round =>
    obtain ⟨j, hj, rfl, rfl⟩ := hrel
    by_cases hlt : j < N
    · obtain ⟨rb, off, F, c, rfl, hrb, q0, q1⟩ := recs_len10 hR0 j (by rw [hNN.out]; exact hlt)
      obtain ⟨k, hk⟩ : ∃ k, (rs.getD j (0, [])).2.length = k := ⟨_, rfl⟩
      rw [hk] at q1
      have hj0 : (0 : Int) ≤ (j : Int) := by omega
      have hj1 : (j : Int) < (N : Int) := by omega
      clear hk hR0 g0 g1 g2 g3
      by_cases h20 : 20 < k
      · go_wp2_with fail
        refine (awake10_walk _ hS0).mono ?_
        rintro e w1 ⟨rfl, hb1⟩
        go_wp2
        go_ret
        exact ⟨rfl, ext_trans hb0 hb1⟩
      · go_wp2
        go_roundw
        case rel => exact ⟨j + 1, by omega, by go_num, by first | rfl | trivial⟩
        case measure => simp [intOf]; omega
    · obtain rfl : j = N := by omega
      have hread := kfread_walk d sl b m n A rs cap
      have hread2 := r10Read_walk d sl b m n A rs cap
      rw [hNN.out] at hread hread2
      replace hread := hide (fun W hS hR => hread W hS hR (by omega) hs.out)
      replace hread2 := hide (fun W hS hW hD hR => hread2 W hS hW hD hR (by omega) hs.out)
      clear hs
      go_wp2_with fail
      refine (hread.out _ hS0 hR0).mono ?_
      rintro e w1 ⟨va, vp, rfl, hLa, hPa, hb1⟩
      have hR1 := (hR0.below hb1).more hb1.size
      have hS1 := hS0.after hb1
      have hW1 := hW0.after hb1 hS0
      have hD1 := hD0.after hb1 hS0
      replace g0 := cell_later hb1 g0
      replace g1 := cell_later hb1 g1
      replace g2 := cell_later hb1 g2
      replace g3 := cell_later hb1 g3
      replace hb0 := ext_trans hb0 hb1
      have hgl1 : gb < w1.heap.size := by have := hb1.size; omega
      clear hread hR0 hS0 hW0 hD0 hb1 hWW hgl
      go_wp2_with fail
      refine (hread2.out _ hS1 hW1 hD1 hR1).mono ?_
      rintro e w2 ⟨vb, vq, rfl, hLb, hPb, hb2⟩
      have hLa2 := hLa.later hb2
      have hPa2 := owns_later hPa hb2
      have hS2 := hS1.after hb2
      replace hb0 := ext_trans hb0 hb2
      clear hread2 hR1 hS1 hW1 hD1 hLa hPa g0 g1 g2 g3 hb2
      go_wp2_with fail
      refine (awake10_walk w2 hS2).mono ?_
      rintro e w3 ⟨rfl, hb3⟩
      replace hb0 := ext_trans hb0 hb3
      have hrs := clssRead_short d sl b m n rs
      have hsame := clss_same hrs.1 hrs.2 (hLa2.later hb3) (hLb.later hb3)
      clear hrs
      have hPa3 := owns_later hPa2 hb3
      have hPb3 := owns_later hPb hb3
      clear hLa2 hLb hPa2 hPb hS2 hb3
      go_wp2_with fail
      refine hsame.mono ?_
      rintro e w4 ⟨rfl, hb4⟩
      have hsp := probs_same _ _ vp vq _ w4 (owns_later hPa3 hb4) (owns_later hPb3 hb4)
      replace hb0 := ext_trans hb0 hb4
      clear hsame hPa3 hPb3 hb4
      go_wp2_with fail
      refine hsp.mono ?_
      rintro e w5 ⟨rfl, hb5⟩
      clear hsp
      go_wp2
      go_ret
      exact ⟨rfl, ext_trans hb0 hb5⟩
end Go.Proofs.YtimcdikeajbabaaGreatDoor
