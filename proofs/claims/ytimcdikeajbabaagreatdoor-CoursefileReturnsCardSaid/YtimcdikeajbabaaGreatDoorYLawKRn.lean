/- The statement CoursefileReturns: its walk. Conditions: the numbers can be read; what the program's variables hold. -/
import Derived.Test.YtimcdikeajbabaaGreatDoorRows
import Derived.WalkKit
import Derived.WalkSpells
import Derived.WalkLawsBesides
import Derived.BigGuardPart
import Derived.Lib.Hide
import Derived.Laws.BitsAllLaws
import Derived.Laws.BitsLemmas
import Derived.Lib.LaidTab
import Derived.Test.YtimcdikeajbabaaGreatDoorShelf
import Derived.Lib.ConvBytes
import Derived.Deep.QuietTactic
import Derived.BigQuiet
import Derived.Test.YtimcdikeajbabaaGreatDoorShelfS
import Derived.Laws.ResultCell
import Derived.RegionTactic
import Derived.BigRegion
import Derived.Deep.RegionHeld3
import Derived.Deep.DeepCutAuto
import Derived.Lib.SmallJoins
import Derived.Lib.SplitLaws
import Derived.Lib.CountLaws
import Derived.Lib.IndexMore
import Derived.Lib.Split
import Derived.Lib.Join
import Derived.Lib.ItoaNum
import Derived.Laws.AppendOwn
import Derived.Test.YtimcdikeajbabaaGreatDoorShelfT
import Derived.Lib.ItoaLen
import Derived.Lib.AppendIntMem
import Derived.Deep.AppendLies
import Derived.Lib.PathFns
import Derived.Maps.Range
import Derived.Lib.OwnBridge
import Derived.Sort.OwnSorted
import Derived.Sort.Walk0
import Derived.Test.YtimcdikeajbabaaGreatDoorCards
import Derived.Test.YtimcdikeajbabaaGreatDoorTie
import Derived.ProofKit
import Derived.OpenShut
import Derived.LaidMore
import Derived.Lay
import Derived.SevenTiedAt
import Derived.Stop.Joined
import Derived.Stop.LaidErr
import Derived.Deep.DeepHandedRow
import Derived.Lib.LaidU8
import Derived.LaidSub
import Derived.Deep.Slices
import Derived.Deep.Fields
import Derived.ChangeSame
import Derived.Deep.RegionLaw
import Derived.Deep.RegionLawGrows
import Derived.Shelf.SlSortCmp.NoneTotal
import Derived.Ground.SlsfProg
import Derived.Lib.SliceRun
import Derived.Lib.Walk
import Derived.Orders
import Derived.RangeFuncNested
import Derived.RangeFuncBound
import Derived.RangeFuncCalls
import Derived.RangeFuncLeaves
import Derived.RangeFuncBox
import Derived.RangeFuncWrites
import Derived.Shelf.Abstract
import Derived.Shelf.RegionOpen
import Derived.OwnWalkIn
import Derived.TacticsInMore
import Derived.LoopNIn
import Derived.LoopIn
import Derived.Maps.AppendAt
import Derived.WalkMore
import Derived.Test.YtimcdikeajbabaaGreatDoorYKBack
import Derived.Test.YtimcdikeajbabaaGreatDoorYCells14
import Derived.Test.YtimcdikeajbabaaGreatDoorYKEnd
import Derived.Test.YtimcdikeajbabaaGreatDoorYNumF
import Derived.Test.YtimcdikeajbabaaGreatDoorYPlainA
import Derived.Test.YtimcdikeajbabaaGreatDoorYWeekM
namespace Go.Proofs.YtimcdikeajbabaaGreatDoor
open Go.RowKit
set_option maxRecDepth 100000

set_option maxHeartbeats 16000000 in
theorem ret10_walk (A : Option Addr) (n c : Nat) (w : World) (hS : Std w) (hP : StrsVar w.heap.size 0 peopleL w) (hF : StrsVar w.heap.size 1 featuresL w) (hA : 0 < n → ∃ b off, A = some ⟨b, off, none⟩ ∧ ∀ j, j < n → ∃ x : Int, w.cell? ⟨b, off + j, none⟩ = some (.int .i64 x)) :
    Calls Tryz.prog 5 #[.slice A n c] w fun e w' => e = .returned (.bool true) ∧ Below w.heap.size w w' := by
  by_cases hn : n ≤ 400
  · have hd400 : decide (n ≤ 400) = true := by simpa using hn
    have D0 := dice_new (c := c) hn hA
    have hS0 := hS.big
    obtain ⟨g, hgw⟩ : ∃ g, w.heap.size = g := ⟨_, rfl⟩
    obtain ⟨W1, hW1⟩ : ∃ W1, w.alloc (.cells #[.slice A n c, .int .i64 0] 76) = W1 := ⟨_, rfl⟩
    have hb1 : Below w.heap.size w W1 := by rw [← hW1]; exact (by repeat (first | exact Below.refl _ _ | refine ext_alloc ?_ _ | refine ext_drewN ?_ _ | refine ext_drew ?_ | refine ext_trans ?_ (by assumption)))
    have hS1 := hS.after hb1
    have hP1 := hP.below hb1
    have hF1 := hF.below hb1
    rw [hW1] at D0
    have hg : w.heap.size ≤ g := Nat.le_of_eq hgw
    have D1 : DiceOk w.heap.size W1 g := by rw [← hgw]; exact D0
    replace hW1 := hide hW1
    replace hgw := hide hgw
    clear D0 hA hP hF
    go_enter Tryz.func5, Tryz.ntmps5
    go_wp2_with (go_at_call 13; refine (light_walk _ _ _ _).mono ?_; rintro e w' ⟨rfl, rfl⟩)
    refine (roll_walk _ _ _ _).mono ?_
    rintro e w' ⟨rfl, rfl⟩
    rw [hW1.out, hgw.out]
    clear hW1 hgw
    go_wp2_with fail
    refine (grid_walk w.heap.size g W1 D1).mono ?_
    rintro e w2 ⟨d, s, b, m, rfl, ⟨d1, d2, s1, s2, z1, z2, z3, z4⟩, T2⟩
    go_wp2_with fail
    refine (next_walk w.heap.size g 8 (by omega) _ T2.dice).mono ?_
    rintro e w3 ⟨v, rfl, p3, q3, -, T3, -⟩
    have q3 := q3 (by omega)
    have T := T2.trans T3
    have hS3 := T.std hS1 (by omega)
    have hb3 := T.ext hb1 hg
    have hP3 := hP1.below (T.below hg)
    have hF3 := hF1.below (T.below hg)
    have hB := Box4.new w3 24 (.int .i64 d) (.int .i64 s) (.int .i64 b) (.int .i64 m)
    have hk : g < w3.heap.size := T.dice.lt
    have hxx : Below w3.heap.size w3 (w3.alloc (.cells #[.int .i64 d, .int .i64 s, .int .i64 b, .int .i64 m] 24)) := ext_alloc (Below.refl _ _) _
    have hD3 := T.dice.later hxx
    have hS4 := hS3.after hxx
    have hP4 := hP3.below (hxx.mono (by have := hb3.size; omega))
    have hF4 := hF3.below (hxx.mono (by have := hb3.size; omega))
    have hb4 := ext_trans hb3 hxx
    obtain ⟨v, rfl⟩ := Int.eq_ofNat_of_zero_le p3
    obtain ⟨N, hN⟩ : ∃ N : Nat, 1 + v = N := ⟨_, rfl⟩
    have hN1 : 1 ≤ N := by omega
    have hN8 : N ≤ 8 := by omega
    have hw := week_made d1 d2 s1 s2 z1 z2 z3 z4 (by omega : 1 ≤ (N : Int)) (by omega : (N : Int) ≤ 20)
    go_upto_region 5 with fail
    rw [show ((1 : Int) + (v : Int)) = (N : Int) from by omega]
    obtain ⟨gk, hgk⟩ : ∃ gk, w3.heap.size = gk := ⟨_, rfl⟩
    obtain ⟨W4, hW4⟩ : ∃ W4, w3.alloc (.cells #[.int .i64 d, .int .i64 s, .int .i64 b, .int .i64 m] 24) = W4 := ⟨_, rfl⟩
    rw [hW4] at hB hD3 hS4 hP4 hF4 hb4 ⊢
    rw [hgk] at hB hk ⊢
    have hkl := hB.lt
    obtain ⟨k0, k1, k2, k3⟩ := hB
    have hC4 : Cn4 gk 0 (.int .i64 d) gk 1 (.int .i64 s) gk 2 (.int .i64 b) gk 3 (.int .i64 m) W4 := ⟨k0, k1, k2, k3⟩
    have hw0 := hb4.size
    have hSt := hide (fun (V : World) (hV : Below W4.heap.size W4 V) => (dstaff_walk w.heap.size g d s b m N (by omega) (by omega) hN1 (by omega) V (hD3.later hV) (hP4.below (hV.mono hw0))).mono fun e V' ⟨v, ls, he, hm, hown, T⟩ => (by
      obtain ⟨A6, c6, rfl, -, hAt⟩ := hown.any
      exact ⟨A6, c6, ls, he, hm, hAt.any, T.dice, T.std (hS4.after hV) (by omega), (hF4.below (hV.mono hw0)).below (T.below hg), T.ext (ext_trans hb4 hV) hg, ⟨T.cell (by omega) (cell_later hV k0), T.cell (by omega) (cell_later hV k1), T.cell (by omega) (cell_later hV k2), T.cell (by omega) (cell_later hV k3)⟩⟩   : ∃ (A6 : Option Addr) (c6 : Nat) (ls : List Lect), e = Ending.returned (.slice A6 ls.length c6) ∧ StaffMade N d s ls ∧ At kLect AnyB V' A6 ls ∧ DiceOk w.heap.size V' g ∧ Std V' ∧ StrsVar w.heap.size 1 featuresL V' ∧ Below w.heap.size w V' ∧ Cn4 gk 0 (.int .i64 d) gk 1 (.int .i64 s) gk 2 (.int .i64 b) gk 3 (.int .i64 m) V'))
    have hCl := hide (fun (A6 : Option Addr) (c6 : Nat) (ls : List Lect) (V5 : World) (hm5 : StaffMade N d s ls) (ha5 : At kLect AnyB V5 A6 ls) (hd5 : DiceOk w.heap.size V5 g) (hs5 : Std V5) (hf5 : StrsVar w.heap.size 1 featuresL V5) (hb5 : Below w.heap.size w V5) (hx5 : Cn4 gk 0 (.int .i64 d) gk 1 (.int .i64 s) gk 2 (.int .i64 b) gk 3 (.int .i64 m) V5) (V : World) (hV : Below V5.heap.size V5 V) => (show Calls Tryz.prog 19 #[.pointer (some ⟨g, 0, none⟩), .agg #[.int .i64 d, .int .i64 s, .int .i64 b, .int .i64 m], .int .i64 N, .slice A6 ls.length c6, .int .i64 6] V fun e w' => DClss w.heap.size N d s 6 (ls.map fun x => x.1) V g e w' from dclss_walk w.heap.size g d s b m N (by omega) (by omega) hN1 (by omega) A6 ls c6 (by have := hm5.1; omega) 6 (by omega) V (hd5.later hV) (hf5.below (hV.mono hb5.size)) (ha5.later hV)).mono fun e V' ⟨v, cl, he, hm, hown, T⟩ => (by
      obtain ⟨A7, c7, rfl, hcap, hAt⟩ := hown.any
      exact ⟨A7, c7, cl, _, he, staff_names hm5, hm, hcap, hAt.any, T.std (hs5.after hV) (by omega), T.ext (ext_trans hb5 hV) hg, ⟨T.cell (by omega) (cell_later hV hx5.1), T.cell (by omega) (cell_later hV hx5.2.1), T.cell (by omega) (cell_later hV hx5.2.2.1), T.cell (by omega) (cell_later hV hx5.2.2.2)⟩⟩ : ∃ (A7 : Option Addr) (c7 : Nat) (cl : List Cls) (names : List ByteArray), e = Ending.returned (.slice A7 cl.length c7) ∧ names.Sublist peopleL ∧ ClassesMade N d s 6 names cl ∧ cl.length ≤ c7 ∧ At kCls AnyB V' A7 cl ∧ Std V' ∧ Below w.heap.size w V' ∧ Cn4 gk 0 (.int .i64 d) gk 1 (.int .i64 s) gk 2 (.int .i64 b) gk 3 (.int .i64 m) V'))
    have hCd := hC4.drew
    have hrefl := Below.refl W4.heap.size W4
    clear hN T T2 T3 D1 hS1 hb1 z1 z2 z3 z4 p3 q3 hxx hgk hW4 hP1 hP3 hS3 hb3 hF1 hF3 hD3 hP4 hF4
    go_region_held3 (fun W' => W'.cell? ⟨gk, 0, none⟩ = some (.int .i64 d) ∧ W'.cell? ⟨gk, 1, none⟩ = some (.int .i64 s) ∧ W'.cell? ⟨gk, 2, none⟩ = some (.int .i64 b) ∧ W'.cell? ⟨gk, 3, none⟩ = some (.int .i64 m)) (first | ((repeat (first | (with_reducible assumption) | (with_reducible refine Cn4.alloc ?_ _) | (with_reducible refine Cn4.drew ?_) | (with_reducible refine Cn4.set ?_ ?_ ?_ ?_ ?_ _) | omega)); done)) (first | (go_at_call 20; (with_reducible refine (hSt.out _ ?_).mono ?_); (focus ((repeat (first | (with_reducible assumption) | (with_reducible refine ext_alloc ?_ _) | (with_reducible refine ext_drew ?_))); done)); rintro e w5 ⟨A6, c6, ls, rfl, hm5, ha5, hd5, hs5, hf5, hb5, hx5⟩; have hr5 := Below.refl w5.heap.size w5) | (go_at_call 19; (with_reducible refine (hCl.out A6 c6 ls w5 hm5 ha5 hd5 hs5 hf5 hb5 hx5 _ ?_).mono ?_); (focus ((repeat (first | (with_reducible assumption) | (with_reducible refine ext_alloc ?_ _) | (with_reducible refine ext_drew ?_))); done)); rintro e w6 ⟨A7, c7, cl, names, rfl, hnm, hmade, hcap, hAt, hS6, hb6, hx6⟩))
    all_goals
      clear hSt hCl hC4 hCd hrefl k0 k1 k2 k3 hm5 ha5 hd5 hs5 hf5 hb5 hx5 hr5 hkl hS4 hb4
      obtain ⟨hval, h30⟩ := classes_valid hw hN1 (by omega) (by omega) hnm hmade
      obtain ⟨hrl, hrx⟩ := classes_rows hw hN1 (by omega) (by omega) hnm hmade
      have hsh := classes_short hnm hmade
      obtain ⟨kb1, kb2⟩ := cls_back hval h30
      have hmt : Hid (∀ (j : Nat) (x : Cls), cl[j]? = some x → (timesK d s b m x).length = x.2.2.2.2.1.length * x.2.2.2.2.2.2.2.2.length ∧ ∀ t ∈ timesK d s b m x, fitsV d s b m N t.1 t.2.1 t.2.2.1 t.2.2.2 = 0 ∧ t.2.2.2 = x.2.2.2.1) := hide fun j x hx => made_times hw hN1 (by omega) (hmade.2 j x hx).2.1
      have hl6 := hmade.1
      obtain ⟨L, hL⟩ : ∃ L, cl.length = L := ⟨_, rfl⟩
      obtain ⟨xs, hxs⟩ : ∃ xs, rowsK d s b m N cl = xs := ⟨_, rfl⟩
      have hbk : clssRead d s b m N (plainR 1 xs) = (cl, []) := by unfold clssRead; rw [if_pos hw, ← hxs, kb1, kb2]
      rw [hxs] at hrl hrx
      have hwr := hide (fun (V : World) (hV : Below w6.heap.size w6 V) => (kwrite_walk A7 cl c7 d s b m N V (hS6.after hV) hcap (by omega) (fun x hx => by obtain ⟨h1, h2, h3, h4⟩ := hsh x hx; exact ⟨by omega, by omega, by omega, by omega⟩) (hAt.later hV)).mono fun e V' ⟨v, he, ho, hb⟩ => (by
        rw [hval] at he
        rw [hxs] at ho
        exact ⟨v, he, ho.lower hV.size, ext_trans hV hb⟩ : ∃ v, e = Ending.returned (.tuple #[v, .int .i64 0]) ∧ Own (kSlice kStr) 44 [9] 0 w6.heap.size V' v xs ∧ Below w6.heap.size w6 V'))
      rw [hL] at hwr hrl hl6 ⊢
      replace hL := hide hL
      replace hrx := hide hrx
      replace hbk := hide hbk
      replace hsh := hide hsh
      obtain ⟨k0, k1, k2, k3⟩ := hx6
      have hgl := World.block_lt_of_cell? _ _ k0
      clear hval h30 kb1 kb2 hxs hw hmade hnm hcap
      go_wp2_with fail
      refine (hwr.out _ (by first | exact Below.refl _ _ | exact ext_drew (Below.refl _ _))).mono ?_
      clear hwr
      rintro e w7 ⟨v7, rfl, hof, hb7⟩
      obtain ⟨A8, c8, rfl, -, hXt⟩ := hof.any
      rw [hrl]
      have hC : Cn4 gk 0 (.int .i64 d) gk 1 (.int .i64 s) gk 2 (.int .i64 b) gk 3 (.int .i64 m) w7 := ⟨cell_later hb7 k0, cell_later hb7 k1, cell_later hb7 k2, cell_later hb7 k3⟩
      have hAt7 := hAt.later hb7
      have hS7 := hS6.after hb7
      have hbw := ext_trans hb6 hb7
      have hg7 : gk < w7.heap.size := World.block_lt_of_cell? _ _ hC.1
      have hplain := hide (fun (V : World) (hV : Below w7.heap.size w7 V) => (plain_walk A8 xs c8 V (lists_in_of_at ((hXt.later hV).more fun y hy => Nat.lt_of_lt_of_le hy hV.size)) (by omega) (fun x hx => by obtain ⟨h1, h2⟩ := hrx.out x hx; exact ⟨by omega, fun z hz => by have := h2 z hz; omega⟩)).mono fun e V' ⟨v, he, hR, hb⟩ => (by
        obtain ⟨A9, c9, rfl⟩ : ∃ A9 c9, v = .slice A9 L c9 := by obtain ⟨us, -, h, -⟩ := hR; have := owns_form h; rw [plainR_len, hrl] at this; exact this
        exact ⟨A9, c9, he, recs_at hR, ext_trans hV hb, hC.later (ext_trans hV hb)⟩ : ∃ (A9 : Option Addr) (c9 : Nat), e = Ending.returned (.slice A9 L c9) ∧ RecsAt V'.heap.size V' A9 (plainR 1 xs) ∧ Below w7.heap.size w7 V' ∧ Cn4 gk 0 (.int .i64 d) gk 1 (.int .i64 s) gk 2 (.int .i64 b) gk 3 (.int .i64 m) V'))
      rw [hrl] at hplain
      have hpl : (plainR 1 xs).length = L := by rw [plainR_len]; exact hrl
      have hread := hide (fun (A9 : Option Addr) (c9 : Nat) (V : World) (hR : RecsAt V.heap.size V A9 (plainR 1 xs)) (hV : Below w7.heap.size w7 V) => (kfread_walk d s b m N A9 (plainR 1 xs) c9 V (hS7.after hV) hR (by omega) (fun r hr f hf => by have := plainR_sizes (fun x hx => (hrx.out x hx).2) r hr f hf; omega)).mono fun e V' ⟨v6, v8, he, hL', hP', hb⟩ => (by
        rw [hbk.out] at hL' hP'
        obtain ⟨A10, c10, rfl, -, ha⟩ := hL'.any
        obtain ⟨A11, c11, rfl⟩ : ∃ A11 c11, v8 = .slice A11 0 c11 := owns_form hP'
        rw [hL.out] at he
        exact ⟨A10, c10, A11, c11, he, ha.any, ext_trans hV hb, hC.later (ext_trans hV hb)⟩ : ∃ (A10 : Option Addr) (c10 : Nat) (A11 : Option Addr) (c11 : Nat), e = Ending.returned (.tuple #[.slice A10 L c10, .slice A11 0 c11]) ∧ At kCls AnyB V' A10 cl ∧ Below w7.heap.size w7 V' ∧ Cn4 gk 0 (.int .i64 d) gk 1 (.int .i64 s) gk 2 (.int .i64 b) gk 3 (.int .i64 m) V'))
      rw [hpl] at hread
      have hCd := hC.drew
      have hrefl := Below.refl w7.heap.size w7
      clear hof hXt k0 k1 k2 k3 hgl hb7 hS6 hb6 hAt hpl hbk hrx hrl
      obtain ⟨q0, q1, q2, q3⟩ := id hC
      go_upto_region 7 with fail
      go_region_held3 (fun W' => W'.cell? ⟨gk, 0, none⟩ = some (.int .i64 d) ∧ W'.cell? ⟨gk, 1, none⟩ = some (.int .i64 s) ∧ W'.cell? ⟨gk, 2, none⟩ = some (.int .i64 b) ∧ W'.cell? ⟨gk, 3, none⟩ = some (.int .i64 m)) (first | ((repeat (first | (with_reducible assumption) | (with_reducible refine Cn4.alloc ?_ _) | (with_reducible refine Cn4.drew ?_) | (with_reducible refine Cn4.set ?_ ?_ ?_ ?_ ?_ _) | omega)); done)) (first | (go_at_call 22; (with_reducible refine (hplain.out _ ?_).mono ?_); (focus ((repeat (first | (with_reducible assumption) | (with_reducible refine ext_alloc ?_ _) | (with_reducible refine ext_drew ?_))); done)); rintro e w8 ⟨A9, c9, rfl, hr8, hb8, hx8⟩) | (go_at_call 9; (with_reducible refine (hread.out A9 c9 _ hr8 hb8).mono ?_); rintro e w9 ⟨A10, c10, A11, c11, rfl, ha9, hb9, hx9⟩))
      all_goals
        clear hplain hread hC hCd hrefl q0 q1 q2 q3 hr8 hb8 hx8
        have hS9 := hS7.after hb9
        have hAt9 := hAt7.later hb9
        have hbx := ext_trans hbw hb9
        have hg9 : gk < w9.heap.size := World.block_lt_of_cell? _ _ hx9.1
        clear hS7 hAt7 hbw hb9 hg7
        go_wp2_with fail
        refine (awake10_walk _ (by first | exact hS9 | exact hS9.after (ext_drew (Below.refl _ _)))).mono ?_
        rintro e wa ⟨rfl, hba'⟩
        have hba : Below w9.heap.size w9 wa := by first | exact hba' | exact ext_trans (ext_drew (Below.refl _ _)) hba'
        have hsame := r10same_walk A7 A10 cl c7 c10 wa (by rw [hL.out]; omega) (fun x hx => by obtain ⟨h1, h2, h3, h4⟩ := hsh.out x hx; exact ⟨by omega, by omega, by omega, by omega⟩) (hAt9.later hba) (ha9.later hba)
        rw [hL.out] at hsame
        have hxa := hx9.later hba
        have hAta := hAt9.later hba
        have hby := ext_trans hbx hba
        clear hba' hba hS9 hAt9 ha9 hx9 hbx hg9
        go_wp2_with fail
        refine hsame.mono ?_
        clear hsame
        rintro e wq ⟨rfl, hbq⟩
        have hAq := hAta.later hbq
        have hbz := ext_trans hby hbq
        obtain ⟨g0, g1, g2, g3⟩ := hxa.later hbq
        clear hxa hAta hby hbq
        go_wp2_with fail
        go_loopw [11] (fun i wr => ∃ j : Nat, j ≤ L ∧ i = .int .i64 j ∧ Below wq.heap.size wq wr) (fun i _ => L - (intOf i).toNat)
        case atStart => exact ⟨0, Nat.zero_le _, rfl, Below.refl _ _⟩
        case round =>
          obtain ⟨j, hj, rfl, hb⟩ := hrel
          by_cases hlt : j < L
          · obtain ⟨x, hx⟩ : ∃ x, cl[j]? = some x := ⟨_, List.getElem?_eq_getElem (by rw [hL.out]; exact hlt)⟩
            obtain ⟨kb, off, A4, c4, A6', c6', A7', c7', A8', c8', rfl, -, hkb, hq, -, a4, -, -, a8⟩ := (hAq.later hb).clsF hx
            obtain ⟨ht1, ht2⟩ := hmt.out j x hx
            obtain ⟨m4, m6, m7, m8⟩ := hsh.out x (List.mem_of_getElem? hx)
            obtain ⟨z, co, pa, nl, ps, mm, fs, st, ss⟩ := x
            unfold nineOf at hq
            dsimp only at hq a4 a8 m4 m8 ht1 ht2
            obtain ⟨n4, e4⟩ : ∃ n4, ps.length = n4 := ⟨_, rfl⟩
            obtain ⟨n6, e6⟩ : ∃ n6, fs.length = n6 := ⟨_, rfl⟩
            obtain ⟨n7, e7⟩ : ∃ n7, st.length = n7 := ⟨_, rfl⟩
            obtain ⟨n8, e8⟩ : ∃ n8, ss.length = n8 := ⟨_, rfl⟩
            rw [e4] at hq m4 ht1
            rw [e6] at hq
            rw [e7] at hq
            rw [e8] at hq m8 ht1
            obtain ⟨q0, q1, q2, q3, q4, q5, q6, q7, q8⟩ := hq
            dsimp only at q0 q1 q2 q3 q4 q5 q6 q7 q8
            have hj0 : (0 : Int) ≤ (j : Int) := by omega
            have hj1 : (j : Int) < (L : Int) := by omega
            have hj2 : IntKind.i64.wrap ((j : Int) + 1) = (j : Int) + 1 := IntWalk.i64_in _ (by omega)
            obtain ⟨T, hT⟩ : ∃ T, timesK d s b m (z, co, pa, nl, ps, mm, fs, st, ss) = T := ⟨_, rfl⟩
            rw [hT] at ht1 ht2
            obtain ⟨tn, htn⟩ : ∃ tn, T.length = tn := ⟨_, rfl⟩
            rw [htn] at ht1
            have hmul : n4 * n8 ≤ 2 * 3 := Nat.mul_le_mul m4 m8
            have htm : IntKind.i64.wrap ((n4 : Int) * (n8 : Int)) = (tn : Int) := by
              have e : (n4 : Int) * (n8 : Int) = (tn : Int) := by rw [ht1, Int.natCast_mul]
              rw [e]; exact IntWalk.i64_in _ (by omega)
            have htn6 : tn ≤ 6 := by omega
            have hC : Cn13 kb (off + j * 9) (.string z) kb (off + j * 9 + 1) (.string co) kb (off + j * 9 + 2) (.string pa) kb (off + j * 9 + 3) (.int .i64 nl) kb (off + j * 9 + 4) (.slice A4 n4 c4) kb (off + j * 9 + 5) (.int .i64 mm) kb (off + j * 9 + 6) (.slice A6' n6 c6') kb (off + j * 9 + 7) (.slice A7' n7 c7') kb (off + j * 9 + 8) (.slice A8' n8 c8') gk 0 (.int .i64 d) gk 1 (.int .i64 s) gk 2 (.int .i64 b) gk 3 (.int .i64 m) wr := ⟨q0, q1, q2, q3, q4, q5, q6, q7, q8, cell_later hb g0, cell_later hb g1, cell_later hb g2, cell_later hb g3⟩
            have hgl := World.block_lt_of_cell? _ _ (cell_later hb g0)
            have hT1 := hide (fun (V : World) (hV : Below wr.heap.size wr V) => (ctimes_walk z co pa nl A4 n4 c4 mm A6' n6 c6' A7' n7 c7' A8' n8 c8' ps fs st ss d s b m V e4 e8 (by omega) (by omega) (a4.later hV) (a8.later hV)).mono fun e w' ⟨v, he, ho, hb⟩ => (by
              rw [hT] at ho
              obtain ⟨A, c, rfl, -, ha⟩ := ho.any
              rw [htn] at he
              exact ⟨A, c, he, ha.any, ext_trans hV hb, hC.later (ext_trans hV hb)⟩ : ∃ (A : Option Addr) (c : Nat), e = Ending.returned (.slice A tn c) ∧ At kTime AnyB w' A T ∧ Below wr.heap.size wr w' ∧ Cn13 kb (off + j * 9) (.string z) kb (off + j * 9 + 1) (.string co) kb (off + j * 9 + 2) (.string pa) kb (off + j * 9 + 3) (.int .i64 nl) kb (off + j * 9 + 4) (.slice A4 n4 c4) kb (off + j * 9 + 5) (.int .i64 mm) kb (off + j * 9 + 6) (.slice A6' n6 c6') kb (off + j * 9 + 7) (.slice A7' n7 c7') kb (off + j * 9 + 8) (.slice A8' n8 c8') gk 0 (.int .i64 d) gk 1 (.int .i64 s) gk 2 (.int .i64 b) gk 3 (.int .i64 m) w'))
            have hCd := hC.drew
            have hrefl := Below.refl wr.heap.size wr
            replace ht1 := hide ht1
            replace ht2 := hide ht2
            replace htn := hide htn
            clear hx e4 e6 e7 e8 a4 a8 hT
            obtain ⟨p0, p1, p2, p3⟩ := hC.2.2.2.2.2.2.2.2.2
            go_upto_region 13 with fail
            go_region_held3 (fun W' => W'.cell? ⟨kb, off + j * 9, none⟩ = some (.string z) ∧ W'.cell? ⟨kb, off + j * 9 + 1, none⟩ = some (.string co) ∧ W'.cell? ⟨kb, off + j * 9 + 2, none⟩ = some (.string pa) ∧ W'.cell? ⟨kb, off + j * 9 + 3, none⟩ = some (.int .i64 nl) ∧ W'.cell? ⟨kb, off + j * 9 + 4, none⟩ = some (.slice A4 n4 c4) ∧ W'.cell? ⟨kb, off + j * 9 + 5, none⟩ = some (.int .i64 mm) ∧ W'.cell? ⟨kb, off + j * 9 + 6, none⟩ = some (.slice A6' n6 c6') ∧ W'.cell? ⟨kb, off + j * 9 + 7, none⟩ = some (.slice A7' n7 c7') ∧ W'.cell? ⟨kb, off + j * 9 + 8, none⟩ = some (.slice A8' n8 c8') ∧ W'.cell? ⟨gk, 0, none⟩ = some (.int .i64 d) ∧ W'.cell? ⟨gk, 1, none⟩ = some (.int .i64 s) ∧ W'.cell? ⟨gk, 2, none⟩ = some (.int .i64 b) ∧ W'.cell? ⟨gk, 3, none⟩ = some (.int .i64 m)) (first | ((repeat (first | (with_reducible assumption) | (with_reducible refine Cn13.alloc ?_ _) | (with_reducible refine Cn13.drew ?_) | (with_reducible refine Cn13.set ?_ ?_ ?_ ?_ ?_ ?_ ?_ ?_ ?_ ?_ ?_ ?_ ?_ ?_ _) | omega)); done)) (first | (go_at_call 17; (with_reducible refine (hT1.out _ ?_).mono ?_); (focus ((repeat (first | (with_reducible assumption) | (with_reducible refine ext_alloc ?_ _) | (with_reducible refine ext_drew ?_))); done)); rintro e w2 ⟨A1, c1, rfl, ha1, hb2, hx2⟩))
            all_goals
              clear hT1 hC hCd hrefl q0 q1 q2 q3 q4 q5 q6 q7 q8 p0 p1 p2 p3 hkb hgl
              obtain ⟨-, -, -, q3, q4, -, -, -, q8, p0, p1, p2, p3⟩ := hx2
              have hkl := World.block_lt_of_cell? _ _ q3
              have hgl := World.block_lt_of_cell? _ _ p0
              obtain ⟨wo, hwo⟩ : ∃ wo, wo = wr := ⟨_, rfl⟩
              subst hwo
              go_wp2_with fail
              go_loopw [13] (fun i wr => ∃ k : Nat, k ≤ tn ∧ i = .int .i64 k ∧ Below w2.heap.size w2 wr) (fun i _ => tn - (intOf i).toNat)
              case atStart => exact ⟨0, Nat.zero_le _, rfl, by first | exact Below.refl _ _ | exact ext_drew (Below.refl _ _)⟩
              case round =>
                obtain ⟨k, hk, rfl, hb3⟩ := hrel
                have r3 := cell_later hb3 q3
                have y0 := cell_later hb3 p0
                have y1 := cell_later hb3 p1
                have y2 := cell_later hb3 p2
                have y3 := cell_later hb3 p3
                have hkr := World.block_lt_of_cell? _ _ r3
                have hgr := World.block_lt_of_cell? _ _ y0
                by_cases hlt2 : k < tn
                · obtain ⟨t, ht⟩ : ∃ t, T[k]? = some t := ⟨_, List.getElem?_eq_getElem (by rw [htn.out]; exact hlt2)⟩
                  obtain ⟨f0, f1⟩ := ht2.out t (List.mem_of_getElem? ht)
                  have hX := cells_of_at (ha1.later hb3).lo
                  rw [htn.out] at hX
                  obtain ⟨tb, tof, rfl, htb, hc⟩ := hX (by omega)
                  have hget : T.getD k (0, 0, 0, 0) = t := by rw [List.getD_eq_getElem?_getD, ht]; rfl
                  have u0 := hc k hlt2 0 _ rfl
                  have u1 := hc k hlt2 1 _ rfl
                  have u2 := hc k hlt2 2 _ rfl
                  have u3 := hc k hlt2 3 _ rfl
                  rw [hget] at u0 u1 u2 u3
                  rw [Nat.add_zero] at u0
                  obtain ⟨t1, t2, t3, t4⟩ := t
                  dsimp only at u0 u1 u2 u3 f0 f1
                  have f2 := f1.symm
                  subst f2
                  have hk0 : (0 : Int) ≤ (k : Int) := by omega
                  have hk1 : (k : Int) < (tn : Int) := by omega
                  have hk2 : IntKind.i64.wrap ((k : Int) + 1) = (k : Int) + 1 := IntWalk.i64_in _ (by omega)
                  have hC : Cn9 tb (tof + k * 4) (.int .i64 t1) tb (tof + k * 4 + 1) (.int .i64 t2) tb (tof + k * 4 + 2) (.int .i64 t3) tb (tof + k * 4 + 3) (.int .i64 nl) kb (off + j * 9 + 3) (.int .i64 nl) gk 0 (.int .i64 d) gk 1 (.int .i64 s) gk 2 (.int .i64 b) gk 3 (.int .i64 m) wr := ⟨u0, u1, u2, u3, r3, y0, y1, y2, y3⟩
                  have hfit := hide (fun (V : World) (hV : Below wr.heap.size wr V) => (r6Fits_walk d s b m N t1 t2 t3 nl V).mono fun e w' ⟨he, hb⟩ => (by
                    rw [f0] at he
                    exact ⟨he, ext_trans hV hb, hC.later (ext_trans hV hb)⟩ : e = Ending.returned (.int .i64 0) ∧ Below wr.heap.size wr w' ∧ Cn9 tb (tof + k * 4) (.int .i64 t1) tb (tof + k * 4 + 1) (.int .i64 t2) tb (tof + k * 4 + 2) (.int .i64 t3) tb (tof + k * 4 + 3) (.int .i64 nl) kb (off + j * 9 + 3) (.int .i64 nl) gk 0 (.int .i64 d) gk 1 (.int .i64 s) gk 2 (.int .i64 b) gk 3 (.int .i64 m) w'))
                  have hCd := hC.drew
                  have hrefl := Below.refl wr.heap.size wr
                  clear ht hc hget hX
                  go_upto_region 17 with fail
                  go_region_held3 (fun W' => W'.cell? ⟨tb, tof + k * 4, none⟩ = some (.int .i64 t1) ∧ W'.cell? ⟨tb, tof + k * 4 + 1, none⟩ = some (.int .i64 t2) ∧ W'.cell? ⟨tb, tof + k * 4 + 2, none⟩ = some (.int .i64 t3) ∧ W'.cell? ⟨tb, tof + k * 4 + 3, none⟩ = some (.int .i64 nl) ∧ W'.cell? ⟨kb, off + j * 9 + 3, none⟩ = some (.int .i64 nl) ∧ W'.cell? ⟨gk, 0, none⟩ = some (.int .i64 d) ∧ W'.cell? ⟨gk, 1, none⟩ = some (.int .i64 s) ∧ W'.cell? ⟨gk, 2, none⟩ = some (.int .i64 b) ∧ W'.cell? ⟨gk, 3, none⟩ = some (.int .i64 m)) (first | ((repeat (first | (with_reducible assumption) | (with_reducible refine Cn9.alloc ?_ _) | (with_reducible refine Cn9.drew ?_) | (with_reducible refine Cn9.set ?_ ?_ ?_ ?_ ?_ ?_ ?_ ?_ ?_ ?_ _) | omega)); done)) (first | (go_at_call 23; (with_reducible refine (hfit.out _ ?_).mono ?_); (focus ((repeat (first | (with_reducible assumption) | (with_reducible refine ext_alloc ?_ _) | (with_reducible refine ext_drew ?_))); done)); rintro e w4 ⟨rfl, hb4, hx4⟩))
                  all_goals
                    have hbn := ext_trans hb3 hb4
                    clear hfit hC hCd hrefl hx4 hb4
                    go_wp2
                    go_roundw
                    case rel => exact ⟨k + 1, by omega, by go_num, by first | exact hbn | exact ext_drew hbn⟩
                    case measure => simp [intOf]; omega
                · obtain rfl : k = tn := by omega
                  have hkk : ¬ (k : Int) < (k : Int) := by omega
                  have r4 := cell_later hb3 q4
                  have r8 := cell_later hb3 q8
                  have hbn : Below wq.heap.size wq wr := ext_trans hb (ext_trans hb2 hb3)
                  clear y0 y1 y2 y3 r3 ha1
                  go_upto_region 19 with fail
                  go_region
                  all_goals
                    go_wp2
                    go_roundw
                    case rel => exact ⟨j + 1, by omega, by go_num, by first | exact hbn | exact ext_drew hbn⟩
                    case measure => simp [intOf]; omega
          · obtain rfl : j = L := by omega
            have hjj : ¬ (j : Int) < (j : Int) := by omega
            have hbn := ext_trans hbz hb
            clear hAq
            go_wp2
            go_ret
            exact ⟨rfl, hbn⟩
  · have hd400 : decide (n ≤ 400) = false := by simpa using hn
    go_enter Tryz.func5, Tryz.ntmps5
    go_wp2_with (go_at_call 13; refine (light_walk _ _ _ _).mono ?_; rintro e w' ⟨rfl, rfl⟩)
    refine (awake10_walk w hS).mono ?_
    rintro e w1 ⟨rfl, hb1⟩
    go_wp2
    go_ret
    exact ⟨rfl, hb1⟩
end Go.Proofs.YtimcdikeajbabaaGreatDoor
