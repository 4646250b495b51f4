/- Walk of coursefile.start. Conditions: a text shorter than 2^30 bytes; a grid's bounds. Walk of coursefile.all: all starts of a class without starts. Conditions: bounds. -/
import Derived.Test.YtimcdikeajbabaaGreatDoorShelfS
import Derived.Test.YtimcdikeajbabaaGreatDoorRows
import Derived.WalkKit
import Derived.WalkSpells
import Derived.WalkLawsBesides
import Derived.BigGuardPart
import Derived.Lib.Hide
import Derived.Laws.BitsAllLaws
import Derived.Laws.BitsLemmas
import Derived.Lib.LaidTab
import Derived.Test.YtimcdikeajbabaaGreatDoorShelf
import Derived.Lib.ConvBytes
import Derived.Deep.QuietTactic
import Derived.BigQuiet
import Derived.Laws.ResultCell
import Derived.RegionTactic
import Derived.BigRegion
import Derived.Deep.RegionHeld3
import Derived.Deep.DeepCutAuto
import Derived.Lib.SmallJoins
import Derived.Lib.SplitLaws
import Derived.Lib.CountLaws
import Derived.Lib.IndexMore
import Derived.Lib.Split
import Derived.Lib.Join
import Derived.Lib.ItoaNum
import Derived.Laws.AppendOwn
import Derived.Test.YtimcdikeajbabaaGreatDoorShelfT
import Derived.Lib.ItoaLen
import Derived.Lib.AppendIntMem
import Derived.Deep.AppendLies
import Derived.Lib.PathFns
import Derived.Maps.Range
import Derived.Lib.OwnBridge
import Derived.Sort.OwnSorted
import Derived.Sort.Walk0
import Derived.Test.YtimcdikeajbabaaGreatDoorCards
import Derived.Test.YtimcdikeajbabaaGreatDoorTie
import Derived.ProofKit
import Derived.OpenShut
import Derived.LaidMore
import Derived.Lay
import Derived.SevenTiedAt
import Derived.Stop.Joined
import Derived.Stop.LaidErr
import Derived.Deep.DeepHandedRow
import Derived.Lib.LaidU8
import Derived.LaidSub
import Derived.Deep.Slices
import Derived.Deep.Fields
import Derived.ChangeSame
import Derived.Test.YtimcdikeajbabaaGreatDoorYNumF
import Derived.Test.YtimcdikeajbabaaGreatDoorYKBack
import Derived.Test.YtimcdikeajbabaaGreatDoorYPatRd
namespace Go.Proofs.YtimcdikeajbabaaGreatDoor
open Go.RowKit
set_option maxRecDepth 100000

theorem load2s (w : World) (g : Nat) (a b : Value) (h0 : w.cell? ⟨g, 0, none⟩ = some a) (h1 : w.cell? ⟨g, 1, none⟩ = some b) :
    (loadVar 70 ⟨g, 0, none⟩).run Tryz.prog w = .ok (.agg #[a, b]) w := by
  simp [go_sem, h0, h1]
theorem end_start {fn : Func} {p u : Tmp} (hr : fn.results = #[.cell p 70, .tmp u]) {Q : Ending → World → Prop} {act : Act} {w : World} (g : Nat) (a b e : Value) (hd : act.defers = [])
    (hp : act.tmps.getD p undef = .pointer (some ⟨g, 0, none⟩)) (he : act.tmps.getD u undef = e)
    (h0 : w.cell? ⟨g, 0, none⟩ = some a) (h1 : w.cell? ⟨g, 1, none⟩ = some b)
    (hQ : Q (.returned (.tuple #[.agg #[a, b], e])) w) : bodyPost Tryz.prog fn Q .ret act w := by
  refine bodyPost_ret (v := .tuple #[.agg #[a, b], e]) ?_ hd hQ
  rw [results_cell_tmp hr, hp, he]
  simp only [asAddr, Sem.run_pure, Result.andThen_ok]
  rw [load2s w g a b h0 h1]
  rfl
theorem set2_cells {w : World} {r : Nat} {a b a' b' : Value} (h0 : w.cell? ⟨r, 0, none⟩ = some a') (h1 : w.cell? ⟨r, 1, none⟩ = some b') :
    ((w.setCell ⟨r, 0, none⟩ a).setCell ⟨r, 1, none⟩ b).cell? ⟨r, 0, none⟩ = some a ∧ ((w.setCell ⟨r, 0, none⟩ a).setCell ⟨r, 1, none⟩ b).cell? ⟨r, 1, none⟩ = some b := by
  refine ⟨(World.cell?_setCell_other _ _ _ _ (by simp)).trans (World.cell?_setCell_same _ _ _ h0), World.cell?_setCell_same _ _ _ ((World.cell?_setCell_other _ _ _ _ (by simp)).trans h1)⟩
set_option maxHeartbeats 8000000 in
theorem start_walk (z : ByteArray) (d sl b m len : Int) (w : World) (hS : Std w) (hz : z.size < 1073741824) (hl : 0 ≤ len ∧ len ≤ 100) (hs : 1 ≤ sl ∧ sl ≤ 24) :
    Calls Tryz.prog 110 #[.string z, .int .i64 len, .agg #[.int .i64 d, .int .i64 sl, .int .i64 b, .int .i64 m]] w fun e w' => e = .returned (.tuple #[.agg #[.int .i64 (startV d sl len z).1.1, .int .i64 (startV d sl len z).1.2], .int .i64 (startV d sl len z).2]) ∧ Below w.heap.size w w' := by
  obtain ⟨x, y, t, hc⟩ : ∃ x y t, Lib.cut z.data.toList (⟨#[32]⟩ : ByteArray).data.toList = (x, y, t) := ⟨_, _, _, rfl⟩
  have hyl : y.length ≤ z.size := by
    have h := cut1_len (c := 32) (r := z.data.toList) ((cut_eq 32 z.data.toList).symm.trans hc)
    have h2 := ba_len z
    omega
  obtain ⟨X, hX⟩ : ∃ X : ByteArray, (⟨x.toArray⟩ : ByteArray) = X := ⟨_, rfl⟩
  obtain ⟨Y, hY⟩ : ∃ Y : ByteArray, (⟨y.toArray⟩ : ByteArray) = Y := ⟨_, rfl⟩
  have hYs : Y.size < 1073741824 := by rw [← hY]; show y.toArray.size < _; simp; omega
  have eX : spOf z = X := by unfold spOf; rw [show Lib.cut z.data.toList [32] = (x, y, t) from hc]; exact hX
  have eY : spBehind z = Y := by unfold spBehind; rw [show Lib.cut z.data.toList [32] = (x, y, t) from hc]; exact hY
  have eT : spTwo z = t := by unfold spTwo; rw [show Lib.cut z.data.toList [32] = (x, y, t) from hc]
  obtain ⟨V, hV⟩ : ∃ V, startV d sl len z = V := ⟨_, rfl⟩
  have hE : V = if t = false ∨ dayI X < 0 ∨ numS 2 Y = none then ((0, 0), 4) else if possB d sl len (dayI X, (((numS 2 Y).getD 0 : Nat) : Int) - 1) = true then ((dayI X, (((numS 2 Y).getD 0 : Nat) : Int) - 1), 0) else ((0, 0), 14) := by rw [← hV]; unfold startV; rw [eX, eY, eT]
  rw [hV]
  have hday := fun (U : World) => day_walk X U
  have hdig := fun (U : World) => digits_walk Y 2 (by decide) U (by omega)
  have h99 := numE_99 Y
  obtain ⟨o, ho⟩ : ∃ o, numE 2 Y = o := ⟨_, rfl⟩
  rw [ho] at hdig h99
  unfold digV at hdig
  have hb0 : Below w.heap.size w ((w.alloc (.cells #[.int .i64 d, .int .i64 sl, .int .i64 b, .int .i64 m] 24)).alloc (.cells #[.int .i64 0, .int .i64 0] 70)) := (by repeat (first | exact Below.refl _ _ | refine ext_alloc ?_ _ | refine ext_drewN ?_ _ | refine ext_drew ?_ | refine ext_trans ?_ (by assumption)))
  have bG := (Box4.new w 24 (.int .i64 d) (.int .i64 sl) (.int .i64 b) (.int .i64 m)).alloc (.cells #[.int .i64 0, .int .i64 0] 70)
  have hzz : (w.alloc (.cells #[.int .i64 d, .int .i64 sl, .int .i64 b, .int .i64 m] 24)).heap.size = w.heap.size + 1 := World.size_alloc _ _
  have r0 : ((w.alloc (.cells #[.int .i64 d, .int .i64 sl, .int .i64 b, .int .i64 m] 24)).alloc (.cells #[.int .i64 0, .int .i64 0] 70)).cell? ⟨w.heap.size + 1, 0, none⟩ = some (.int .i64 0) := by rw [← hzz]; simp
  have r1 : ((w.alloc (.cells #[.int .i64 d, .int .i64 sl, .int .i64 b, .int .i64 m] 24)).alloc (.cells #[.int .i64 0, .int .i64 0] 70)).cell? ⟨w.heap.size + 1, 1, none⟩ = some (.int .i64 0) := by rw [← hzz]; simp
  have rf0 : ((w.alloc (.cells #[.int .i64 d, .int .i64 sl, .int .i64 b, .int .i64 m] 24)).alloc (.cells #[.int .i64 0, .int .i64 0] 70)).frozen? ⟨w.heap.size + 1, 0, none⟩ = false := by rw [← hzz]; simp
  have rf1 : ((w.alloc (.cells #[.int .i64 d, .int .i64 sl, .int .i64 b, .int .i64 m] 24)).alloc (.cells #[.int .i64 0, .int .i64 0] 70)).frozen? ⟨w.heap.size + 1, 1, none⟩ = false := by rw [← hzz]; simp
  obtain ⟨W, hWW⟩ : ∃ W, (w.alloc (.cells #[.int .i64 d, .int .i64 sl, .int .i64 b, .int .i64 m] 24)).alloc (.cells #[.int .i64 0, .int .i64 0] 70) = W := ⟨_, rfl⟩
  rw [hWW] at hb0 bG r0 r1 rf0 rf1
  obtain ⟨g0, g1, g2, g3⟩ := bG
  obtain ⟨gb, hgb⟩ : ∃ gb, w.heap.size = gb := ⟨_, rfl⟩
  obtain ⟨r, hr⟩ : ∃ r, w.heap.size + 1 = r := ⟨_, rfl⟩
  rw [hgb] at g0 g1 g2 g3
  rw [hr] at r0 r1 rf0 rf1
  have hrl : r < W.heap.size := World.block_lt_of_cell? _ _ r0
  have hS0 := hS.after hb0
  replace hWW := hide hWW
  replace hr := hide hr
  replace hgb := hide hgb
  replace hc := hide hc
  replace hX := hide hX
  replace hY := hide hY
  replace hday := hide hday
  replace hdig := hide hdig
  clear hzz eX eY eT hV hyl hYs
  cases t with
  | false =>
    rw [if_pos (Or.inl rfl)] at hE
    have hV := hide hE
    clear hE ho
    (
      (
        go_enter Tryz.func110, Tryz.ntmps110
        go_wp2_with fail
        rw [hWW.out, hr.out, hgb.out]
        refine (cut_walk z ⟨#[32]⟩ x y _ (by omega) W hS0 hc.out).mono ?_
        rintro e w1 ⟨rfl, hb1⟩
        rw [hX.out, hY.out]
        go_wp2_with fail
        refine (hday.out w1).mono ?_
        rintro e w2 ⟨rfl, hb2⟩
        go_wp2_with fail
        refine (hdig.out w2).mono ?_
        rintro e w3 ⟨rfl, hb3⟩
        have hbb := ext_trans hb1 (ext_trans hb2 hb3)
        have k0 := cell_later hbb r0
        have k1 := cell_later hbb r1
        have q0 := cell_later hbb g0
        have q1 := cell_later hbb g1
        have q2 := cell_later hbb g2
        have q3 := cell_later hbb g3
        have kf0 : w3.frozen? ⟨r, 0, none⟩ = false := (World.frozen?_of_block (hbb.block r hrl)).trans rf0
        have kf1 : w3.frozen? ⟨r, 1, none⟩ = false := (World.frozen?_of_block (hbb.block r hrl)).trans rf1
        have hr3 : r < w3.heap.size := World.block_lt_of_cell? _ _ k0
        have hg3 : gb < w3.heap.size := World.block_lt_of_cell? _ _ q0
        have hbw := ext_trans hb0 hbb
        clear hb1 hb2 hb3 hday hdig)
      go_wp2
      all_goals try (exfalso; omega)
      all_goals
        obtain ⟨s0, s1⟩ := set2_cells (a := .int .i64 0) (b := .int .i64 0) k0 k1
        refine end_start rfl r (.int .i64 0) (.int .i64 0) (.int .i64 4) rfl rfl rfl s0 s1 ⟨by rw [hV.out], ?_⟩
        exact ext_set (ext_set hbw (p := ⟨r, 0, none⟩) (by have := hr.out; show w.heap.size ≤ r; omega) _) (p := ⟨r, 1, none⟩) (by have := hr.out; show w.heap.size ≤ r; omega) _)
  | true =>
    by_cases hD : 0 ≤ dayI X
    · have hmx : max (dayI X) 0 = dayI X := by omega
      have hdd : decide (0 ≤ dayI X) = true := decide_eq_true hD
      have hday2 := hide (by have := hday.out; rwa [hmx, hdd] at this)
      clear hday
      obtain ⟨D, hDD⟩ : ∃ D, dayI X = D := ⟨_, rfl⟩
      rw [hDD] at hday2 hE hD hmx hdd
      cases o with
      | none =>
        have hn : numS 2 Y = none := by
          unfold numS
          split
          · rfl
          · exact ho
        rw [if_pos (Or.inr (Or.inr hn))] at hE
        have hV := hide hE
        have hday := hday2
        clear hE ho hn hday2 hDD hmx hdd
        (
          (
            go_enter Tryz.func110, Tryz.ntmps110
            go_wp2_with fail
            rw [hWW.out, hr.out, hgb.out]
            refine (cut_walk z ⟨#[32]⟩ x y _ (by omega) W hS0 hc.out).mono ?_
            rintro e w1 ⟨rfl, hb1⟩
            rw [hX.out, hY.out]
            go_wp2_with fail
            refine (hday.out w1).mono ?_
            rintro e w2 ⟨rfl, hb2⟩
            go_wp2_with fail
            refine (hdig.out w2).mono ?_
            rintro e w3 ⟨rfl, hb3⟩
            have hbb := ext_trans hb1 (ext_trans hb2 hb3)
            have k0 := cell_later hbb r0
            have k1 := cell_later hbb r1
            have q0 := cell_later hbb g0
            have q1 := cell_later hbb g1
            have q2 := cell_later hbb g2
            have q3 := cell_later hbb g3
            have kf0 : w3.frozen? ⟨r, 0, none⟩ = false := (World.frozen?_of_block (hbb.block r hrl)).trans rf0
            have kf1 : w3.frozen? ⟨r, 1, none⟩ = false := (World.frozen?_of_block (hbb.block r hrl)).trans rf1
            have hr3 : r < w3.heap.size := World.block_lt_of_cell? _ _ k0
            have hg3 : gb < w3.heap.size := World.block_lt_of_cell? _ _ q0
            have hbw := ext_trans hb0 hbb
            clear hb1 hb2 hb3 hday hdig)
          go_wp2
          all_goals try (exfalso; omega)
          all_goals
            obtain ⟨s0, s1⟩ := set2_cells (a := .int .i64 0) (b := .int .i64 0) k0 k1
            refine end_start rfl r (.int .i64 0) (.int .i64 0) (.int .i64 4) rfl rfl rfl s0 s1 ⟨by rw [hV.out], ?_⟩
            exact ext_set (ext_set hbw (p := ⟨r, 0, none⟩) (by have := hr.out; show w.heap.size ≤ r; omega) _) (p := ⟨r, 1, none⟩) (by have := hr.out; show w.heap.size ≤ r; omega) _)
      | some k =>
        have hpos : 0 < Y.size := by
          apply Classical.byContradiction
          intro hn
          unfold numE at ho
          rw [if_neg (fun h => hn h.1)] at ho
          cases ho
        have hp0 : (0 : Int) < (Y.size : Int) := by omega
        by_cases hz0 : Y[0].toNat = 48
        · have hzi : ((Y[0].toNat : Nat) : Int) = 48 := by omega
          have hn : numS 2 Y = none := by unfold numS; rw [if_pos (by unfold zeroS; rw [dif_pos hpos]; simpa using hz0)]
          rw [if_pos (Or.inr (Or.inr hn))] at hE
          have hV := hide hE
          have hday := hday2
          clear hE ho hn hday2 hDD hmx hdd
          (
            (
              go_enter Tryz.func110, Tryz.ntmps110
              go_wp2_with fail
              rw [hWW.out, hr.out, hgb.out]
              refine (cut_walk z ⟨#[32]⟩ x y _ (by omega) W hS0 hc.out).mono ?_
              rintro e w1 ⟨rfl, hb1⟩
              rw [hX.out, hY.out]
              go_wp2_with fail
              refine (hday.out w1).mono ?_
              rintro e w2 ⟨rfl, hb2⟩
              go_wp2_with fail
              refine (hdig.out w2).mono ?_
              rintro e w3 ⟨rfl, hb3⟩
              have hbb := ext_trans hb1 (ext_trans hb2 hb3)
              have k0 := cell_later hbb r0
              have k1 := cell_later hbb r1
              have q0 := cell_later hbb g0
              have q1 := cell_later hbb g1
              have q2 := cell_later hbb g2
              have q3 := cell_later hbb g3
              have kf0 : w3.frozen? ⟨r, 0, none⟩ = false := (World.frozen?_of_block (hbb.block r hrl)).trans rf0
              have kf1 : w3.frozen? ⟨r, 1, none⟩ = false := (World.frozen?_of_block (hbb.block r hrl)).trans rf1
              have hr3 : r < w3.heap.size := World.block_lt_of_cell? _ _ k0
              have hg3 : gb < w3.heap.size := World.block_lt_of_cell? _ _ q0
              have hbw := ext_trans hb0 hbb
              clear hb1 hb2 hb3 hday hdig)
            go_wp2
            all_goals try (exfalso; omega)
            all_goals
              obtain ⟨s0, s1⟩ := set2_cells (a := .int .i64 0) (b := .int .i64 0) k0 k1
              refine end_start rfl r (.int .i64 0) (.int .i64 0) (.int .i64 4) rfl rfl rfl s0 s1 ⟨by rw [hV.out], ?_⟩
              exact ext_set (ext_set hbw (p := ⟨r, 0, none⟩) (by have := hr.out; show w.heap.size ≤ r; omega) _) (p := ⟨r, 1, none⟩) (by have := hr.out; show w.heap.size ≤ r; omega) _)
        · have hzi : ¬ ((Y[0].toNat : Nat) : Int) = 48 := by omega
          have hn : numS 2 Y = some k := by unfold numS; rw [if_neg (by unfold zeroS; rw [dif_pos hpos]; simpa using hz0), ho]
          rw [hn, if_neg (by rintro (h | h | h) <;> first | cases h | omega)] at hE
          rw [Option.getD_some] at hE hdig
          have hkw : IntKind.i64.wrap ((k : Int) - 1) = (k : Int) - 1 := IntWalk.i64_in _ (by have : k ≤ 99 := h99; omega)
          have hk : (k : Int) ≤ 99 := by have : k ≤ 99 := h99; omega
          have hday := hday2
          have hposs := hide (fun (U : World) => cposs_walk D ((k : Int) - 1) len d sl b m (by omega) (by omega) U)
          clear ho hn hday2 hDD hmx hdd
          cases hP : possB d sl len (D, (k : Int) - 1) with
          | true =>
            rw [if_pos hP] at hE
            rw [hP] at hposs
            have hV := hide hE
            clear hE
            (
              go_enter Tryz.func110, Tryz.ntmps110
              go_wp2_with fail
              rw [hWW.out, hr.out, hgb.out]
              refine (cut_walk z ⟨#[32]⟩ x y _ (by omega) W hS0 hc.out).mono ?_
              rintro e w1 ⟨rfl, hb1⟩
              rw [hX.out, hY.out]
              go_wp2_with fail
              refine (hday.out w1).mono ?_
              rintro e w2 ⟨rfl, hb2⟩
              go_wp2_with fail
              refine (hdig.out w2).mono ?_
              rintro e w3 ⟨rfl, hb3⟩
              have hbb := ext_trans hb1 (ext_trans hb2 hb3)
              have k0 := cell_later hbb r0
              have k1 := cell_later hbb r1
              have q0 := cell_later hbb g0
              have q1 := cell_later hbb g1
              have q2 := cell_later hbb g2
              have q3 := cell_later hbb g3
              have kf0 : w3.frozen? ⟨r, 0, none⟩ = false := (World.frozen?_of_block (hbb.block r hrl)).trans rf0
              have kf1 : w3.frozen? ⟨r, 1, none⟩ = false := (World.frozen?_of_block (hbb.block r hrl)).trans rf1
              have hr3 : r < w3.heap.size := World.block_lt_of_cell? _ _ k0
              have hg3 : gb < w3.heap.size := World.block_lt_of_cell? _ _ q0
              have hbw := ext_trans hb0 hbb
              clear hb1 hb2 hb3 hday hdig)
            go_wp2_with fail
            (
              refine (hposs.out _).mono ?_
              rintro e w4 ⟨rfl, hb4⟩
              have hb5 := ext_trans (ext_alloc (Below.refl _ _) (.cells #[.int .i64 D, .int .i64 ((k : Int) - 1)] 70)) hb4
              have s0 := cell_later hb5 k0
              have s1 := cell_later hb5 k1
              have sf0 : w4.frozen? ⟨r, 0, none⟩ = false := (World.frozen?_of_block (hb5.block r hr3)).trans kf0
              have sf1 : w4.frozen? ⟨r, 1, none⟩ = false := (World.frozen?_of_block (hb5.block r hr3)).trans kf1
              have d0 : w4.cell? ⟨w3.heap.size, 0, none⟩ = some (.int .i64 D) := cell_later hb4 (by simp)
              have d1 : w4.cell? ⟨w3.heap.size, 1, none⟩ = some (.int .i64 ((k : Int) - 1)) := cell_later hb4 (by simp)
              have hd4 := World.block_lt_of_cell? _ _ d0
              have hr4 := World.block_lt_of_cell? _ _ s0
              have hbw5 := ext_trans hbw hb5
              clear hb4 hb5 k0 k1 kf0 kf1 q0 q1 q2 q3 hposs)
            go_wp2
            obtain ⟨u0, u1⟩ := set2_cells (a := .int .i64 D) (b := .int .i64 ((k : Int) - 1)) s0 s1
            refine end_start rfl r (.int .i64 D) (.int .i64 ((k : Int) - 1)) (.int .i64 0) rfl rfl rfl u0 u1 ⟨by rw [hV.out], ?_⟩
            exact ext_set (ext_set hbw5 (p := ⟨r, 0, none⟩) (by have := hr.out; show w.heap.size ≤ r; omega) _) (p := ⟨r, 1, none⟩) (by have := hr.out; show w.heap.size ≤ r; omega) _
          | false =>
            rw [if_neg (by rw [hP]; simp)] at hE
            rw [hP] at hposs
            have hV := hide hE
            clear hE
            (
              go_enter Tryz.func110, Tryz.ntmps110
              go_wp2_with fail
              rw [hWW.out, hr.out, hgb.out]
              refine (cut_walk z ⟨#[32]⟩ x y _ (by omega) W hS0 hc.out).mono ?_
              rintro e w1 ⟨rfl, hb1⟩
              rw [hX.out, hY.out]
              go_wp2_with fail
              refine (hday.out w1).mono ?_
              rintro e w2 ⟨rfl, hb2⟩
              go_wp2_with fail
              refine (hdig.out w2).mono ?_
              rintro e w3 ⟨rfl, hb3⟩
              have hbb := ext_trans hb1 (ext_trans hb2 hb3)
              have k0 := cell_later hbb r0
              have k1 := cell_later hbb r1
              have q0 := cell_later hbb g0
              have q1 := cell_later hbb g1
              have q2 := cell_later hbb g2
              have q3 := cell_later hbb g3
              have kf0 : w3.frozen? ⟨r, 0, none⟩ = false := (World.frozen?_of_block (hbb.block r hrl)).trans rf0
              have kf1 : w3.frozen? ⟨r, 1, none⟩ = false := (World.frozen?_of_block (hbb.block r hrl)).trans rf1
              have hr3 : r < w3.heap.size := World.block_lt_of_cell? _ _ k0
              have hg3 : gb < w3.heap.size := World.block_lt_of_cell? _ _ q0
              have hbw := ext_trans hb0 hbb
              clear hb1 hb2 hb3 hday hdig)
            go_wp2_with fail
            (
              refine (hposs.out _).mono ?_
              rintro e w4 ⟨rfl, hb4⟩
              have hb5 := ext_trans (ext_alloc (Below.refl _ _) (.cells #[.int .i64 D, .int .i64 ((k : Int) - 1)] 70)) hb4
              have s0 := cell_later hb5 k0
              have s1 := cell_later hb5 k1
              have sf0 : w4.frozen? ⟨r, 0, none⟩ = false := (World.frozen?_of_block (hb5.block r hr3)).trans kf0
              have sf1 : w4.frozen? ⟨r, 1, none⟩ = false := (World.frozen?_of_block (hb5.block r hr3)).trans kf1
              have d0 : w4.cell? ⟨w3.heap.size, 0, none⟩ = some (.int .i64 D) := cell_later hb4 (by simp)
              have d1 : w4.cell? ⟨w3.heap.size, 1, none⟩ = some (.int .i64 ((k : Int) - 1)) := cell_later hb4 (by simp)
              have hd4 := World.block_lt_of_cell? _ _ d0
              have hr4 := World.block_lt_of_cell? _ _ s0
              have hbw5 := ext_trans hbw hb5
              clear hb4 hb5 k0 k1 kf0 kf1 q0 q1 q2 q3 hposs)
            go_wp2
            obtain ⟨u0, u1⟩ := set2_cells (a := .int .i64 0) (b := .int .i64 0) s0 s1
            refine end_start rfl r (.int .i64 0) (.int .i64 0) (.int .i64 14) rfl rfl rfl u0 u1 ⟨by rw [hV.out], ?_⟩
            exact ext_set (ext_set hbw5 (p := ⟨r, 0, none⟩) (by have := hr.out; show w.heap.size ≤ r; omega) _) (p := ⟨r, 1, none⟩) (by have := hr.out; show w.heap.size ≤ r; omega) _
    · have hdd : decide (0 ≤ dayI X) = false := decide_eq_false hD
      have hmx : max (dayI X) 0 = 0 := by omega
      have hday2 := hide (by have := hday.out; rwa [hmx, hdd] at this)
      clear hday
      have hday := hday2
      rw [if_pos (Or.inr (Or.inl (by omega)))] at hE
      have hV := hide hE
      clear hE ho hday2 hmx hdd
      (
        (
          go_enter Tryz.func110, Tryz.ntmps110
          go_wp2_with fail
          rw [hWW.out, hr.out, hgb.out]
          refine (cut_walk z ⟨#[32]⟩ x y _ (by omega) W hS0 hc.out).mono ?_
          rintro e w1 ⟨rfl, hb1⟩
          rw [hX.out, hY.out]
          go_wp2_with fail
          refine (hday.out w1).mono ?_
          rintro e w2 ⟨rfl, hb2⟩
          go_wp2_with fail
          refine (hdig.out w2).mono ?_
          rintro e w3 ⟨rfl, hb3⟩
          have hbb := ext_trans hb1 (ext_trans hb2 hb3)
          have k0 := cell_later hbb r0
          have k1 := cell_later hbb r1
          have q0 := cell_later hbb g0
          have q1 := cell_later hbb g1
          have q2 := cell_later hbb g2
          have q3 := cell_later hbb g3
          have kf0 : w3.frozen? ⟨r, 0, none⟩ = false := (World.frozen?_of_block (hbb.block r hrl)).trans rf0
          have kf1 : w3.frozen? ⟨r, 1, none⟩ = false := (World.frozen?_of_block (hbb.block r hrl)).trans rf1
          have hr3 : r < w3.heap.size := World.block_lt_of_cell? _ _ k0
          have hg3 : gb < w3.heap.size := World.block_lt_of_cell? _ _ q0
          have hbw := ext_trans hb0 hbb
          clear hb1 hb2 hb3 hday hdig)
        go_wp2
        all_goals try (exfalso; omega)
        all_goals
          obtain ⟨s0, s1⟩ := set2_cells (a := .int .i64 0) (b := .int .i64 0) k0 k1
          refine end_start rfl r (.int .i64 0) (.int .i64 0) (.int .i64 4) rfl rfl rfl s0 s1 ⟨by rw [hV.out], ?_⟩
          exact ext_set (ext_set hbw (p := ⟨r, 0, none⟩) (by have := hr.out; show w.heap.size ≤ r; omega) _) (p := ⟨r, 1, none⟩) (by have := hr.out; show w.heap.size ≤ r; omega) _)
end Go.Proofs.YtimcdikeajbabaaGreatDoor

namespace Go.Proofs.YtimcdikeajbabaaGreatDoor
open Go.RowKit
set_option maxRecDepth 100000

theorem apd_st : Apd Tryz.prog 45 70 2 16 := apd Tryz.underlying45 (z := .agg #[.int .i64 0, .int .i64 0]) (by kernel_rfl) rfl
theorem allStarts_snoc (a sl len : Nat) : allStarts (a + 1) sl len = allStarts a sl len ++ (List.range (sl + 1 - len)).map fun (c : Nat) => ((a : Int), (c : Int)) := by
  unfold allStarts
  rw [List.range_succ, List.flatMap_append]
  simp
def rowTo (a c : Nat) : List (Int × Int) := (List.range c).map fun (x : Nat) => ((a : Int), (x : Int))
theorem rowTo_snoc (a c : Nat) : rowTo a (c + 1) = rowTo a c ++ [((a : Int), (c : Int))] := by unfold rowTo; rw [List.range_succ, List.map_append]; rfl
theorem start_rep {S : Nat → Prop} {W : World} (a c : Int) : kStart.rep S W (a, c) [.int .i64 a, .int .i64 c] := ⟨[_], [_], rfl, rfl, rfl⟩
def AllLoop (d sl len : Nat) (W : World) (v i : Value) (wr : World) : Prop :=
  ∃ a : Nat, a ≤ d ∧ i = .int .i64 a ∧ Own kStart 70 [] 0 W.heap.size wr v (allStarts a sl len) ∧ Below W.heap.size W wr
def AllIn (sl len a : Nat) (W : World) (v i : Value) (wr : World) : Prop :=
  ∃ c : Nat, c ≤ sl + 1 - len ∧ i = .int .i64 c ∧ Own kStart 70 [] 0 W.heap.size wr v (allStarts a sl len ++ rowTo a c) ∧ Below W.heap.size W wr
set_option maxHeartbeats 4000000 in
theorem call_walk (d sl len : Nat) (b m : Int) (w : World) (hd : d ≤ 7) (hs : sl ≤ 24) (hl : 1 ≤ len) (hls : len ≤ sl) :
    Calls Tryz.prog 40 #[.int .i64 len, .agg #[.int .i64 d, .int .i64 sl, .int .i64 b, .int .i64 m]] w fun e w' => ∃ v, e = .returned v ∧ Own kStart 70 [] 0 w.heap.size w' v (allStarts d sl len) ∧ Below w.heap.size w w' := by
  have hb0 : Below w.heap.size w (w.alloc (.cells #[.int .i64 d, .int .i64 sl, .int .i64 b, .int .i64 m] 24)) := (by repeat (first | exact Below.refl _ _ | refine ext_alloc ?_ _ | refine ext_drewN ?_ _ | refine ext_drew ?_ | refine ext_trans ?_ (by assumption)))
  have bG := Box4.new w 24 (.int .i64 d) (.int .i64 sl) (.int .i64 b) (.int .i64 m)
  obtain ⟨gb, hgb⟩ : ∃ gb, w.heap.size = gb := ⟨_, rfl⟩
  obtain ⟨W, hWW⟩ : ∃ W, w.alloc (.cells #[.int .i64 d, .int .i64 sl, .int .i64 b, .int .i64 m] 24) = W := ⟨_, rfl⟩
  rw [hWW] at hb0 bG
  rw [hgb] at bG
  have hgl := bG.lt
  obtain ⟨g0, g1, g2, g3⟩ := bG
  have e1 : IntKind.i64.wrap ((sl : Int) - len) = (sl : Int) - len := IntWalk.i64_in _ (by omega)
  have e2 : IntKind.i64.wrap ((sl : Int) - len + 1) = (sl : Int) - len + 1 := IntWalk.i64_in _ (by omega)
  replace hgb := hide hgb
  replace hWW := hide hWW
  go_enter Tryz.func40, Tryz.ntmps40
  go_wp2_with fail
  rw [hWW.out, hgb.out]
  go_loopw [5, 10] (fun v i wr => AllLoop d sl len W v i wr) (fun _ i _ => d - (intOf i).toNat)
  case atStart => exact ⟨0, Nat.zero_le _, rfl, Own.nil, Below.refl _ _⟩
  case round =>
    obtain ⟨a, ha, rfl, hown, hb⟩ := hrel
    by_cases hlt : a < d
    · have k0 := cell_later hb g0
      have k1 := cell_later hb g1
      have hgr : gb < wr.heap.size := World.block_lt_of_cell? _ _ k0
      go_wp2_with fail
      rename World => wo
      go_loopw [5, 18] (fun v i wr => AllIn sl len a W v i wr) (fun _ i _ => (sl + 1 - len) - (intOf i).toNat)
      case atStart => exact ⟨0, Nat.zero_le _, rfl, by rw [show rowTo a 0 = [] from rfl, List.append_nil]; exact hown, hb⟩
      case round =>
        clear hown hb k0 k1 hgr
        obtain ⟨c, hc, rfl, hown, hb⟩ := hrel
        by_cases hlt2 : c < sl + 1 - len
        · have hlen : (allStarts a sl len ++ rowTo a c).length ≤ 4000000000 := by
            rw [List.length_append, allStarts_len]
            unfold rowTo
            rw [List.length_map, List.length_range]
            have : a * (sl + 1 - len) ≤ 7 * 25 := Nat.mul_le_mul (by omega) (by omega)
            omega
          have hsn : Hid (allStarts a sl len ++ rowTo a (c + 1) = allStarts a sl len ++ rowTo a c ++ [((a : Int), (c : Int))]) := hide (by rw [rowTo_snoc, List.append_assoc])
          have hci : (c : Int) < (sl : Int) - len + 1 := by omega
          have hz := hb.size
          go_wp2_with (at_builtin; refine wpList_own (K := kStart) (t := 70) (ts := []) (B0 := 0) (B := W.heap.size) rfl _ _ rfl apd_st (by decide) rfl (hown.alloc _) hlen (by decide) ⟨wr.heap.size, 0, none⟩ 1 rfl ((a : Int), (c : Int)) [.int .i64 (a : Int), .int .i64 (c : Int)] (start_rep _ _) (World.news_of_block (cs := #[.int .i64 (a : Int), .int .i64 (c : Int)]) (t := 70) (fr := (0, 0)) (heap_alloc_new _ _)) (by decide) (Nat.zero_le _) (by rw [World.size_alloc]; omega) ?_; intro v' w5 hown5 hgrow)
          have hb5 : Below W.heap.size W w5 := Below.grown (ext_alloc hb _) hgrow (by rw [World.size_alloc]; omega) (fun y hy => (hown.lt y hy).1)
          clear hown hb hgrow
          go_wp2
          go_roundw
          case rel => exact ⟨c + 1, by omega, by go_num, by rw [hsn.out]; exact hown5, hb5⟩
          case measure => simp [intOf]; omega
        · obtain rfl : c = sl + 1 - len := by omega
          have hsn : allStarts (a + 1) sl len = allStarts a sl len ++ rowTo a (sl + 1 - len) := allStarts_snoc a sl len
          have hci : ¬ ((sl + 1 - len : Nat) : Int) < (sl : Int) - len + 1 := by omega
          rw [← hsn] at hown
          clear hsn
          go_wp2
          go_roundw
          case rel => exact ⟨a + 1, by omega, by go_num, hown, hb⟩
          case measure => simp [intOf]; omega
    · obtain rfl : a = d := by omega
      have k0 := cell_later hb g0
      go_wp2
      go_ret
      exact ⟨_, rfl, hown.lower hb0.size, ext_trans hb0 hb⟩
end Go.Proofs.YtimcdikeajbabaaGreatDoor
