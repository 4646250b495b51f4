/- Walks of coursefile.possible, order, timetableref10.possible, less, and cmp.Compare at numbers. Conditions: bounds. Walk of coursefile.start. Conditions: a text shorter than 2^30 bytes; a grid's bounds. -/
import Derived.Test.YtimcdikeajbabaaGreatDoorShelfS
import Derived.Test.YtimcdikeajbabaaGreatDoorRows
import Derived.WalkKit
import Derived.WalkSpells
import Derived.WalkLawsBesides
import Derived.BigGuardPart
import Derived.Lib.Hide
import Derived.Laws.BitsAllLaws
import Derived.Laws.BitsLemmas
import Derived.Lib.LaidTab
import Derived.Test.YtimcdikeajbabaaGreatDoorShelf
import Derived.Lib.ConvBytes
import Derived.Deep.QuietTactic
import Derived.BigQuiet
import Derived.Laws.ResultCell
import Derived.RegionTactic
import Derived.BigRegion
import Derived.Deep.RegionHeld3
import Derived.Deep.DeepCutAuto
import Derived.Lib.SmallJoins
import Derived.Lib.SplitLaws
import Derived.Lib.CountLaws
import Derived.Lib.IndexMore
import Derived.Lib.Split
import Derived.Lib.Join
import Derived.Lib.ItoaNum
import Derived.Laws.AppendOwn
import Derived.Test.YtimcdikeajbabaaGreatDoorShelfT
import Derived.Lib.ItoaLen
import Derived.Lib.AppendIntMem
import Derived.Deep.AppendLies
import Derived.Lib.PathFns
import Derived.Maps.Range
import Derived.Lib.OwnBridge
import Derived.Sort.OwnSorted
import Derived.Sort.Walk0
import Derived.Test.YtimcdikeajbabaaGreatDoorCards
import Derived.Test.YtimcdikeajbabaaGreatDoorTie
import Derived.ProofKit
import Derived.OpenShut
import Derived.LaidMore
import Derived.Lay
import Derived.SevenTiedAt
import Derived.Stop.Joined
import Derived.Stop.LaidErr
import Derived.Deep.DeepHandedRow
import Derived.Lib.LaidU8
import Derived.LaidSub
import Derived.Deep.Slices
import Derived.Deep.Fields
import Derived.ChangeSame
import Derived.Test.YtimcdikeajbabaaGreatDoorQOwn
import Derived.Test.YtimcdikeajbabaaGreatDoorQROneQ
import Derived.Test.YtimcdikeajbabaaGreatDoorQRef5C
import Derived.Test.YtimcdikeajbabaaGreatDoorQNumF
namespace Go.Proofs.YtimcdikeajbabaaGreatDoor
open Go.RowKit
set_option maxRecDepth 100000

theorem possB_yes {d sl len a c : Int} (h : 0 ≤ a ∧ a < d ∧ 0 ≤ c ∧ c ≤ sl - len) : possB d sl len (a, c) = true := by unfold possB; simpa using h
theorem possB_no {d sl len a c : Int} (h : ¬ (0 ≤ a ∧ a < d ∧ 0 ≤ c ∧ c ≤ sl - len)) : possB d sl len (a, c) = false := by unfold possB; simpa using h
-- <poss>
set_option maxHeartbeats 1000000 in
theorem cposs_walk (a c len d sl b m : Int) (hl : -100000 ≤ len ∧ len ≤ 100000) (hs : -100000 ≤ sl ∧ sl ≤ 100000) (w : World) :
    Calls Tryz.prog 136 #[.agg #[.int .i64 a, .int .i64 c], .int .i64 len, .agg #[.int .i64 d, .int .i64 sl, .int .i64 b, .int .i64 m]] w fun e w' => e = .returned (.bool (possB d sl len (a, c))) ∧ Below w.heap.size w w' := by
  have e1 : IntKind.i64.wrap (sl - len) = sl - len := IntWalk.i64_in _ (by omega)
  by_cases h1 : 0 ≤ a
  · by_cases h2 : a < d
    · by_cases h3 : 0 ≤ c
      · by_cases h4 : c ≤ sl - len
        · rw [possB_yes ⟨h1, h2, h3, h4⟩]
          go_enter Tryz.func136, Tryz.ntmps136
          go_wp2
          go_ret
          exact ⟨rfl, (by repeat (first | exact Below.refl _ _ | refine ext_alloc ?_ _ | refine ext_drewN ?_ _ | refine ext_drew ?_ | refine ext_trans ?_ (by assumption)))⟩
        · rw [possB_no (fun h => h4 h.2.2.2)]
          go_enter Tryz.func136, Tryz.ntmps136
          go_wp2
          go_ret
          exact ⟨rfl, (by repeat (first | exact Below.refl _ _ | refine ext_alloc ?_ _ | refine ext_drewN ?_ _ | refine ext_drew ?_ | refine ext_trans ?_ (by assumption)))⟩
      · rw [possB_no (fun h => h3 h.2.2.1)]
        go_enter Tryz.func136, Tryz.ntmps136
        go_wp2
        go_ret
        exact ⟨rfl, (by repeat (first | exact Below.refl _ _ | refine ext_alloc ?_ _ | refine ext_drewN ?_ _ | refine ext_drew ?_ | refine ext_trans ?_ (by assumption)))⟩
    · rw [possB_no (fun h => h2 h.2.1)]
      go_enter Tryz.func136, Tryz.ntmps136
      go_wp2
      go_ret
      exact ⟨rfl, (by repeat (first | exact Below.refl _ _ | refine ext_alloc ?_ _ | refine ext_drewN ?_ _ | refine ext_drew ?_ | refine ext_trans ?_ (by assumption)))⟩
  · rw [possB_no (fun h => h1 h.1)]
    go_enter Tryz.func136, Tryz.ntmps136
    go_wp2
    go_ret
    exact ⟨rfl, (by repeat (first | exact Below.refl _ _ | refine ext_alloc ?_ _ | refine ext_drewN ?_ _ | refine ext_drew ?_ | refine ext_trans ?_ (by assumption)))⟩
-- </poss>
set_option maxHeartbeats 1000000 in
theorem r10poss_walk (a c len d sl b m : Int) (hl : -100000 ≤ len ∧ len ≤ 100000) (hs : -100000 ≤ sl ∧ sl ≤ 100000) (w : World) :
    Calls Tryz.prog 99 #[.agg #[.int .i64 a, .int .i64 c], .int .i64 len, .agg #[.int .i64 d, .int .i64 sl, .int .i64 b, .int .i64 m]] w fun e w' => e = .returned (.bool (possB d sl len (a, c))) ∧ Below w.heap.size w w' := by
  have e1 : IntKind.i64.wrap (sl - len) = sl - len := IntWalk.i64_in _ (by omega)
  by_cases h1 : 0 ≤ a
  · by_cases h2 : a < d
    · by_cases h3 : 0 ≤ c
      · by_cases h4 : c ≤ sl - len
        · rw [possB_yes ⟨h1, h2, h3, h4⟩]
          go_enter Tryz.func99, Tryz.ntmps99
          go_wp2
          go_ret
          exact ⟨rfl, (by repeat (first | exact Below.refl _ _ | refine ext_alloc ?_ _ | refine ext_drewN ?_ _ | refine ext_drew ?_ | refine ext_trans ?_ (by assumption)))⟩
        · rw [possB_no (fun h => h4 h.2.2.2)]
          go_enter Tryz.func99, Tryz.ntmps99
          go_wp2
          go_ret
          exact ⟨rfl, (by repeat (first | exact Below.refl _ _ | refine ext_alloc ?_ _ | refine ext_drewN ?_ _ | refine ext_drew ?_ | refine ext_trans ?_ (by assumption)))⟩
      · rw [possB_no (fun h => h3 h.2.2.1)]
        go_enter Tryz.func99, Tryz.ntmps99
        go_wp2
        go_ret
        exact ⟨rfl, (by repeat (first | exact Below.refl _ _ | refine ext_alloc ?_ _ | refine ext_drewN ?_ _ | refine ext_drew ?_ | refine ext_trans ?_ (by assumption)))⟩
    · rw [possB_no (fun h => h2 h.2.1)]
      go_enter Tryz.func99, Tryz.ntmps99
      go_wp2
      go_ret
      exact ⟨rfl, (by repeat (first | exact Below.refl _ _ | refine ext_alloc ?_ _ | refine ext_drewN ?_ _ | refine ext_drew ?_ | refine ext_trans ?_ (by assumption)))⟩
  · rw [possB_no (fun h => h1 h.1)]
    go_enter Tryz.func99, Tryz.ntmps99
    go_wp2
    go_ret
    exact ⟨rfl, (by repeat (first | exact Below.refl _ _ | refine ext_alloc ?_ _ | refine ext_drewN ?_ _ | refine ext_drew ?_ | refine ext_trans ?_ (by assumption)))⟩

set_option maxHeartbeats 1000000 in
theorem r10less_walk (a1 a2 b1 b2 : Int) (w : World) :
    Calls Tryz.prog 100 #[.agg #[.int .i64 a1, .int .i64 a2], .agg #[.int .i64 b1, .int .i64 b2]] w fun e w' => e = .returned (.bool (lessB (a1, a2) (b1, b2))) ∧ Below w.heap.size w w' := by
  unfold lessB
  dsimp only
  by_cases h1 : a1 < b1
  · rw [decide_eq_true (Or.inl h1)]
    go_enter Tryz.func100, Tryz.ntmps100
    go_wp2
    all_goals try (exfalso; omega)
    all_goals
      go_ret
      exact ⟨rfl, (by repeat (first | exact Below.refl _ _ | refine ext_alloc ?_ _ | refine ext_drewN ?_ _ | refine ext_drew ?_ | refine ext_trans ?_ (by assumption)))⟩
  · by_cases h2 : a1 = b1
    · have e2 : (a1 == b1) = true := by simpa using h2
      by_cases h3 : a2 < b2
      · rw [decide_eq_true (Or.inr ⟨h2, h3⟩)]
        replace h2 := hide h2
        go_enter Tryz.func100, Tryz.ntmps100
        go_wp2
        all_goals try (exfalso; omega)
        all_goals
          go_ret
          exact ⟨rfl, (by repeat (first | exact Below.refl _ _ | refine ext_alloc ?_ _ | refine ext_drewN ?_ _ | refine ext_drew ?_ | refine ext_trans ?_ (by assumption)))⟩
      · rw [decide_eq_false (fun h => by rcases h with h | h; exact h1 h; exact h3 h.2)]
        replace h2 := hide h2
        go_enter Tryz.func100, Tryz.ntmps100
        go_wp2
        all_goals try (exfalso; omega)
        all_goals
          go_ret
          exact ⟨rfl, (by repeat (first | exact Below.refl _ _ | refine ext_alloc ?_ _ | refine ext_drewN ?_ _ | refine ext_drew ?_ | refine ext_trans ?_ (by assumption)))⟩
    · have e2 : (a1 == b1) = false := by simpa using h2
      rw [decide_eq_false (fun h => by rcases h with h | h; exact h1 h; exact h2 h.1)]
      go_enter Tryz.func100, Tryz.ntmps100
      go_wp2
      all_goals try (exfalso; omega)
      all_goals
        go_ret
        exact ⟨rfl, (by repeat (first | exact Below.refl _ _ | refine ext_alloc ?_ _ | refine ext_drewN ?_ _ | refine ext_drew ?_ | refine ext_trans ?_ (by assumption)))⟩
/-! cmp.Compare at numbers. -/
def cmpI (x y : Int) : Int := if x < y then -1 else if y < x then 1 else 0
set_option maxHeartbeats 1000000 in
theorem isnanI_walk (x : Int) (w : World) : Calls Tryz.prog 198 #[.int .i64 x] w fun e w' => e = .returned (.bool false) ∧ w = w' := by
  have hq : (x == x) = true := by simp
  go_enter Tryz.func198, Tryz.ntmps198
  go_wp2
  go_ret
  exact ⟨rfl, rfl⟩
set_option maxHeartbeats 1000000 in
theorem compI_walk (x y : Int) (w : World) : Calls Tryz.prog 155 #[.int .i64 x, .int .i64 y] w fun e w' => e = .returned (.int .i64 (cmpI x y)) ∧ w = w' := by
  unfold cmpI
  by_cases h1 : x < y
  · rw [if_pos h1]
    go_enter Tryz.func155, Tryz.ntmps155
    go_wp2_with fail
    refine (isnanI_walk x _).mono ?_
    rintro e w2 ⟨rfl, rfl⟩
    go_wp2_with fail
    refine (isnanI_walk y _).mono ?_
    rintro e w2 ⟨rfl, rfl⟩
    go_wp2
    go_ret
    exact ⟨rfl, rfl⟩
  · rw [if_neg h1]
    by_cases h2 : y < x
    · rw [if_pos h2]
      go_enter Tryz.func155, Tryz.ntmps155
      go_wp2_with fail
      refine (isnanI_walk x _).mono ?_
      rintro e w2 ⟨rfl, rfl⟩
      go_wp2_with fail
      refine (isnanI_walk y _).mono ?_
      rintro e w2 ⟨rfl, rfl⟩
      go_wp2
      go_ret
      exact ⟨rfl, rfl⟩
    · rw [if_neg h2]
      go_enter Tryz.func155, Tryz.ntmps155
      go_wp2_with fail
      refine (isnanI_walk x _).mono ?_
      rintro e w2 ⟨rfl, rfl⟩
      go_wp2_with fail
      refine (isnanI_walk y _).mono ?_
      rintro e w2 ⟨rfl, rfl⟩
      go_wp2
      go_ret
      exact ⟨rfl, rfl⟩
/-! The order of starts. -/
def ordP (a b : Int × Int) : Int := if cmpI a.1 b.1 ≠ 0 then cmpI a.1 b.1 else cmpI a.2 b.2
theorem cmpI_zero {x y : Int} : cmpI x y = 0 ↔ x = y := by
  unfold cmpI
  repeat' split
  all_goals omega
theorem cmpI_neg {x y : Int} : cmpI x y < 0 ↔ x < y := by
  unfold cmpI
  repeat' split
  all_goals omega
theorem ordP_neg (a b : Int × Int) : ordP a b < 0 ↔ lessB a b = true := by
  rw [lessB, decide_eq_true_eq]
  unfold ordP
  by_cases h : cmpI a.1 b.1 = 0
  · rw [if_neg (by simp [h]), cmpI_neg]
    rw [cmpI_zero] at h
    omega
  · rw [if_pos h, cmpI_neg]
    have : ¬ a.1 = b.1 := fun e => h (cmpI_zero.2 e)
    omega
/-- Blocks and draws behind a world. -/
def GrowOf (w w' : World) : Prop := ∃ (q : Nat) (os : Array Obj), w' = Sort.grow (w.drewN q) os
theorem GrowOf.refl (w : World) : GrowOf w w := ⟨0, #[], by rw [Sort.grow_empty]; rfl⟩
theorem GrowOf.alloc {w w' : World} (h : GrowOf w w') (o : Obj) : GrowOf w (w'.alloc o) := by
  obtain ⟨q, os, rfl⟩ := h
  exact ⟨q, os ++ #[o], by rw [Sort.alloc_eq_grow, Sort.grow_grow]⟩
theorem GrowOf.drew {w w' : World} (h : GrowOf w w') : GrowOf w w'.drew := by
  obtain ⟨q, os, rfl⟩ := h
  exact ⟨q + 1, os, rfl⟩
theorem GrowOf.below {w w' : World} (h : GrowOf w w') : Below w.heap.size w w' := by
  obtain ⟨q, os, rfl⟩ := h
  exact ⟨rfl, rfl, rfl, by rw [Sort.size_grow]; exact Nat.le_add_right _ _, fun k hk => Sort.heap_grow_old (w.drewN q) os hk⟩
set_option maxHeartbeats 4000000 in
theorem corder_grow (a1 a2 b1 b2 : Int) (w : World) :
    Calls Tryz.prog 112 #[.agg #[.int .i64 a1, .int .i64 a2], .agg #[.int .i64 b1, .int .i64 b2]] w fun e w' => e = .returned (.int .i64 (ordP (a1, a2) (b1, b2))) ∧ GrowOf w w' := by
  have c1 := fun (V : World) => compI_walk a1 b1 V
  have c2 := fun (V : World) => compI_walk a2 b2 V
  obtain ⟨i1, h1⟩ : ∃ i, cmpI a1 b1 = i := ⟨_, rfl⟩
  obtain ⟨i2, h2⟩ : ∃ i, cmpI a2 b2 = i := ⟨_, rfl⟩
  have hv : ordP (a1, a2) (b1, b2) = if i1 ≠ 0 then i1 else i2 := by unfold ordP; rw [h1, h2]
  obtain ⟨V, hV⟩ : ∃ V, ordP (a1, a2) (b1, b2) = V := ⟨_, rfl⟩
  rw [hV] at hv ⊢
  rw [h1] at c1
  rw [h2] at c2
  have hor := hide (fun (U : World) => (or_walk U.heap.size i1 i2 (U.alloc (.cells #[.int .i64 i1, .int .i64 i2] 3)) (by simp) (by simp)).mono fun e w' ⟨he, hw⟩ => (⟨he.trans (by rw [hv]), hw⟩ : e = Ending.returned (.int .i64 V) ∧ _ = w'))
  have hord := hide (fun (U : World) => (or_walk U.heap.size i1 i2 (U.alloc (.cells #[.int .i64 i1, .int .i64 i2] 3)).drew (show (U.alloc (.cells #[.int .i64 i1, .int .i64 i2] 3)).cell? ⟨U.heap.size, 0, none⟩ = _ by simp) (show (U.alloc (.cells #[.int .i64 i1, .int .i64 i2] 3)).cell? ⟨U.heap.size, 1, none⟩ = _ by simp)).mono fun e w' ⟨he, hw⟩ => (⟨he.trans (by rw [hv]), hw⟩ : e = Ending.returned (.int .i64 V) ∧ _ = w'))
  have hb0 : GrowOf w ((w.alloc (.cells #[.int .i64 a1, .int .i64 a2] 70)).alloc (.cells #[.int .i64 b1, .int .i64 b2] 70)) := (GrowOf.refl w).alloc _ |>.alloc _
  have hz : (w.alloc (.cells #[.int .i64 a1, .int .i64 a2] 70)).heap.size = w.heap.size + 1 := World.size_alloc _ _
  have hC : Cn4 w.heap.size 0 (.int .i64 a1) w.heap.size 1 (.int .i64 a2) ((w.heap.size + 1)) 0 (.int .i64 b1) ((w.heap.size + 1)) 1 (.int .i64 b2) ((w.alloc (.cells #[.int .i64 a1, .int .i64 a2] 70)).alloc (.cells #[.int .i64 b1, .int .i64 b2] 70)) := by
    refine ⟨?_, ?_, ?_, ?_⟩
    · exact cell_alloc_of (by simp) _
    · exact cell_alloc_of (by simp) _
    · rw [← hz]; simp
    · rw [← hz]; simp
  obtain ⟨W, hW⟩ : ∃ W, (w.alloc (.cells #[.int .i64 a1, .int .i64 a2] 70)).alloc (.cells #[.int .i64 b1, .int .i64 b2] 70) = W := ⟨_, rfl⟩
  rw [hW] at hb0 hC
  have hCd := hC.drew
  obtain ⟨q1, q2, q3, q4⟩ := id hC
  replace c1 := hide c1
  replace c2 := hide c2
  replace hW := hide hW
  clear h1 h2 hv hV hz
  go_enter Tryz.func112, Tryz.ntmps112
  go_wp2_with fail
  rw [hW.out]
  go_region_held3 (fun W' => W'.cell? ⟨w.heap.size, 0, none⟩ = some (.int .i64 a1) ∧ W'.cell? ⟨w.heap.size, 1, none⟩ = some (.int .i64 a2) ∧ W'.cell? ⟨(w.heap.size + 1), 0, none⟩ = some (.int .i64 b1) ∧ W'.cell? ⟨(w.heap.size + 1), 1, none⟩ = some (.int .i64 b2)) (first | ((repeat (first | (with_reducible assumption) | (with_reducible refine Cn4.alloc ?_ _) | (with_reducible refine Cn4.drew ?_) | (with_reducible refine Cn4.set ?_ ?_ ?_ ?_ ?_ _) | omega)); done)) (first | (go_at_call 155; first | ((with_reducible refine (c1.out _).mono ?_); rintro e w' ⟨rfl, rfl⟩) | ((with_reducible refine (c2.out _).mono ?_); rintro e w' ⟨rfl, rfl⟩)) | (go_at_call 154; first | ((with_reducible refine (hor.out _).mono ?_); rintro e w' ⟨rfl, rfl⟩) | ((with_reducible refine (hord.out _).mono ?_); rintro e w' ⟨rfl, rfl⟩)))
  all_goals
    go_wp2
    go_ret
    exact ⟨rfl, by repeat (first | with_reducible assumption | with_reducible refine GrowOf.alloc ?_ _ | with_reducible refine GrowOf.drew ?_)⟩
theorem corder_walk (a1 a2 b1 b2 : Int) (w : World) :
    Calls Tryz.prog 112 #[.agg #[.int .i64 a1, .int .i64 a2], .agg #[.int .i64 b1, .int .i64 b2]] w fun e w' => e = .returned (.int .i64 (ordP (a1, a2) (b1, b2))) ∧ Below w.heap.size w w' :=
  (corder_grow a1 a2 b1 b2 w).mono fun _ _ ⟨he, hg⟩ => ⟨he, hg.below⟩
end Go.Proofs.YtimcdikeajbabaaGreatDoor

namespace Go.Proofs.YtimcdikeajbabaaGreatDoor
open Go.RowKit
set_option maxRecDepth 100000

theorem load2s (w : World) (g : Nat) (a b : Value) (h0 : w.cell? ⟨g, 0, none⟩ = some a) (h1 : w.cell? ⟨g, 1, none⟩ = some b) :
    (loadVar 70 ⟨g, 0, none⟩).run Tryz.prog w = .ok (.agg #[a, b]) w := by
  simp [go_sem, h0, h1]
theorem end_start {fn : Func} {p u : Tmp} (hr : fn.results = #[.cell p 70, .tmp u]) {Q : Ending → World → Prop} {act : Act} {w : World} (g : Nat) (a b e : Value) (hd : act.defers = [])
    (hp : act.tmps.getD p undef = .pointer (some ⟨g, 0, none⟩)) (he : act.tmps.getD u undef = e)
    (h0 : w.cell? ⟨g, 0, none⟩ = some a) (h1 : w.cell? ⟨g, 1, none⟩ = some b)
    (hQ : Q (.returned (.tuple #[.agg #[a, b], e])) w) : bodyPost Tryz.prog fn Q .ret act w := by
  refine bodyPost_ret (v := .tuple #[.agg #[a, b], e]) ?_ hd hQ
  rw [results_cell_tmp hr, hp, he]
  simp only [asAddr, Sem.run_pure, Result.andThen_ok]
  rw [load2s w g a b h0 h1]
  rfl
theorem set2_cells {w : World} {r : Nat} {a b a' b' : Value} (h0 : w.cell? ⟨r, 0, none⟩ = some a') (h1 : w.cell? ⟨r, 1, none⟩ = some b') :
    ((w.setCell ⟨r, 0, none⟩ a).setCell ⟨r, 1, none⟩ b).cell? ⟨r, 0, none⟩ = some a ∧ ((w.setCell ⟨r, 0, none⟩ a).setCell ⟨r, 1, none⟩ b).cell? ⟨r, 1, none⟩ = some b := by
  refine ⟨(World.cell?_setCell_other _ _ _ _ (by simp)).trans (World.cell?_setCell_same _ _ _ h0), World.cell?_setCell_same _ _ _ ((World.cell?_setCell_other _ _ _ _ (by simp)).trans h1)⟩
set_option maxHeartbeats 8000000 in
theorem start_walk (z : ByteArray) (d sl b m len : Int) (w : World) (hS : Std w) (hz : z.size < 1073741824) (hl : 0 ≤ len ∧ len ≤ 100) (hs : 1 ≤ sl ∧ sl ≤ 24) :
    Calls Tryz.prog 110 #[.string z, .int .i64 len, .agg #[.int .i64 d, .int .i64 sl, .int .i64 b, .int .i64 m]] w fun e w' => e = .returned (.tuple #[.agg #[.int .i64 (startV d sl len z).1.1, .int .i64 (startV d sl len z).1.2], .int .i64 (startV d sl len z).2]) ∧ Below w.heap.size w w' := by
  obtain ⟨x, y, t, hc⟩ : ∃ x y t, Lib.cut z.data.toList (⟨#[32]⟩ : ByteArray).data.toList = (x, y, t) := ⟨_, _, _, rfl⟩
  have hyl : y.length ≤ z.size := by
    have h := cut1_len (c := 32) (r := z.data.toList) ((cut_eq 32 z.data.toList).symm.trans hc)
    have h2 := ba_len z
    omega
  obtain ⟨X, hX⟩ : ∃ X : ByteArray, (⟨x.toArray⟩ : ByteArray) = X := ⟨_, rfl⟩
  obtain ⟨Y, hY⟩ : ∃ Y : ByteArray, (⟨y.toArray⟩ : ByteArray) = Y := ⟨_, rfl⟩
  have hYs : Y.size < 1073741824 := by rw [← hY]; show y.toArray.size < _; simp; omega
  have eX : spOf z = X := by unfold spOf; rw [show Lib.cut z.data.toList [32] = (x, y, t) from hc]; exact hX
  have eY : spBehind z = Y := by unfold spBehind; rw [show Lib.cut z.data.toList [32] = (x, y, t) from hc]; exact hY
  have eT : spTwo z = t := by unfold spTwo; rw [show Lib.cut z.data.toList [32] = (x, y, t) from hc]
  obtain ⟨V, hV⟩ : ∃ V, startV d sl len z = V := ⟨_, rfl⟩
  have hE : V = if t = false ∨ dayI X < 0 ∨ numS 2 Y = none then ((0, 0), 4) else if possB d sl len (dayI X, (((numS 2 Y).getD 0 : Nat) : Int) - 1) = true then ((dayI X, (((numS 2 Y).getD 0 : Nat) : Int) - 1), 0) else ((0, 0), 14) := by rw [← hV]; unfold startV; rw [eX, eY, eT]
  rw [hV]
  have hday := fun (U : World) => day_walk X U
  have hdig := fun (U : World) => digits_walk Y 2 (by decide) U (by omega)
  have h99 := numE_99 Y
  obtain ⟨o, ho⟩ : ∃ o, numE 2 Y = o := ⟨_, rfl⟩
  rw [ho] at hdig h99
  unfold digV at hdig
  have hb0 : Below w.heap.size w ((w.alloc (.cells #[.int .i64 d, .int .i64 sl, .int .i64 b, .int .i64 m] 24)).alloc (.cells #[.int .i64 0, .int .i64 0] 70)) := (by repeat (first | exact Below.refl _ _ | refine ext_alloc ?_ _ | refine ext_drewN ?_ _ | refine ext_drew ?_ | refine ext_trans ?_ (by assumption)))
  have bG := (Box4.new w 24 (.int .i64 d) (.int .i64 sl) (.int .i64 b) (.int .i64 m)).alloc (.cells #[.int .i64 0, .int .i64 0] 70)
  have hzz : (w.alloc (.cells #[.int .i64 d, .int .i64 sl, .int .i64 b, .int .i64 m] 24)).heap.size = w.heap.size + 1 := World.size_alloc _ _
  have r0 : ((w.alloc (.cells #[.int .i64 d, .int .i64 sl, .int .i64 b, .int .i64 m] 24)).alloc (.cells #[.int .i64 0, .int .i64 0] 70)).cell? ⟨w.heap.size + 1, 0, none⟩ = some (.int .i64 0) := by rw [← hzz]; simp
  have r1 : ((w.alloc (.cells #[.int .i64 d, .int .i64 sl, .int .i64 b, .int .i64 m] 24)).alloc (.cells #[.int .i64 0, .int .i64 0] 70)).cell? ⟨w.heap.size + 1, 1, none⟩ = some (.int .i64 0) := by rw [← hzz]; simp
  have rf0 : ((w.alloc (.cells #[.int .i64 d, .int .i64 sl, .int .i64 b, .int .i64 m] 24)).alloc (.cells #[.int .i64 0, .int .i64 0] 70)).frozen? ⟨w.heap.size + 1, 0, none⟩ = false := by rw [← hzz]; simp
  have rf1 : ((w.alloc (.cells #[.int .i64 d, .int .i64 sl, .int .i64 b, .int .i64 m] 24)).alloc (.cells #[.int .i64 0, .int .i64 0] 70)).frozen? ⟨w.heap.size + 1, 1, none⟩ = false := by rw [← hzz]; simp
  obtain ⟨W, hWW⟩ : ∃ W, (w.alloc (.cells #[.int .i64 d, .int .i64 sl, .int .i64 b, .int .i64 m] 24)).alloc (.cells #[.int .i64 0, .int .i64 0] 70) = W := ⟨_, rfl⟩
  rw [hWW] at hb0 bG r0 r1 rf0 rf1
  obtain ⟨g0, g1, g2, g3⟩ := bG
  obtain ⟨gb, hgb⟩ : ∃ gb, w.heap.size = gb := ⟨_, rfl⟩
  obtain ⟨r, hr⟩ : ∃ r, w.heap.size + 1 = r := ⟨_, rfl⟩
  rw [hgb] at g0 g1 g2 g3
  rw [hr] at r0 r1 rf0 rf1
  have hrl : r < W.heap.size := World.block_lt_of_cell? _ _ r0
  have hS0 := hS.after hb0
  replace hWW := hide hWW
  replace hr := hide hr
  replace hgb := hide hgb
  replace hc := hide hc
  replace hX := hide hX
  replace hY := hide hY
  replace hday := hide hday
  replace hdig := hide hdig
  clear hzz eX eY eT hV hyl hYs
  cases t with
  | false =>
    rw [if_pos (Or.inl rfl)] at hE
    have hV := hide hE
    clear hE ho
    (
      (
        go_enter Tryz.func110, Tryz.ntmps110
        go_wp2_with fail
        rw [hWW.out, hr.out, hgb.out]
        refine (cut_walk z ⟨#[32]⟩ x y _ (by omega) W hS0 hc.out).mono ?_
        rintro e w1 ⟨rfl, hb1⟩
        rw [hX.out, hY.out]
        go_wp2_with fail
        refine (hday.out w1).mono ?_
        rintro e w2 ⟨rfl, hb2⟩
        go_wp2_with fail
        refine (hdig.out w2).mono ?_
        rintro e w3 ⟨rfl, hb3⟩
        have hbb := ext_trans hb1 (ext_trans hb2 hb3)
        have k0 := cell_later hbb r0
        have k1 := cell_later hbb r1
        have q0 := cell_later hbb g0
        have q1 := cell_later hbb g1
        have q2 := cell_later hbb g2
        have q3 := cell_later hbb g3
        have kf0 : w3.frozen? ⟨r, 0, none⟩ = false := (World.frozen?_of_block (hbb.block r hrl)).trans rf0
        have kf1 : w3.frozen? ⟨r, 1, none⟩ = false := (World.frozen?_of_block (hbb.block r hrl)).trans rf1
        have hr3 : r < w3.heap.size := World.block_lt_of_cell? _ _ k0
        have hg3 : gb < w3.heap.size := World.block_lt_of_cell? _ _ q0
        have hbw := ext_trans hb0 hbb
        clear hb1 hb2 hb3 hday hdig)
      go_wp2
      all_goals try (exfalso; omega)
      all_goals
        obtain ⟨s0, s1⟩ := set2_cells (a := .int .i64 0) (b := .int .i64 0) k0 k1
        refine end_start rfl r (.int .i64 0) (.int .i64 0) (.int .i64 4) rfl rfl rfl s0 s1 ⟨by rw [hV.out], ?_⟩
        exact ext_set (ext_set hbw (p := ⟨r, 0, none⟩) (by have := hr.out; show w.heap.size ≤ r; omega) _) (p := ⟨r, 1, none⟩) (by have := hr.out; show w.heap.size ≤ r; omega) _)
  | true =>
    by_cases hD : 0 ≤ dayI X
    · have hmx : max (dayI X) 0 = dayI X := by omega
      have hdd : decide (0 ≤ dayI X) = true := decide_eq_true hD
      have hday2 := hide (by have := hday.out; rwa [hmx, hdd] at this)
      clear hday
      obtain ⟨D, hDD⟩ : ∃ D, dayI X = D := ⟨_, rfl⟩
      rw [hDD] at hday2 hE hD hmx hdd
      cases o with
      | none =>
        have hn : numS 2 Y = none := by
          unfold numS
          split
          · rfl
          · exact ho
        rw [if_pos (Or.inr (Or.inr hn))] at hE
        have hV := hide hE
        have hday := hday2
        clear hE ho hn hday2 hDD hmx hdd
        (
          (
            go_enter Tryz.func110, Tryz.ntmps110
            go_wp2_with fail
            rw [hWW.out, hr.out, hgb.out]
            refine (cut_walk z ⟨#[32]⟩ x y _ (by omega) W hS0 hc.out).mono ?_
            rintro e w1 ⟨rfl, hb1⟩
            rw [hX.out, hY.out]
            go_wp2_with fail
            refine (hday.out w1).mono ?_
            rintro e w2 ⟨rfl, hb2⟩
            go_wp2_with fail
            refine (hdig.out w2).mono ?_
            rintro e w3 ⟨rfl, hb3⟩
            have hbb := ext_trans hb1 (ext_trans hb2 hb3)
            have k0 := cell_later hbb r0
            have k1 := cell_later hbb r1
            have q0 := cell_later hbb g0
            have q1 := cell_later hbb g1
            have q2 := cell_later hbb g2
            have q3 := cell_later hbb g3
            have kf0 : w3.frozen? ⟨r, 0, none⟩ = false := (World.frozen?_of_block (hbb.block r hrl)).trans rf0
            have kf1 : w3.frozen? ⟨r, 1, none⟩ = false := (World.frozen?_of_block (hbb.block r hrl)).trans rf1
            have hr3 : r < w3.heap.size := World.block_lt_of_cell? _ _ k0
            have hg3 : gb < w3.heap.size := World.block_lt_of_cell? _ _ q0
            have hbw := ext_trans hb0 hbb
            clear hb1 hb2 hb3 hday hdig)
          go_wp2
          all_goals try (exfalso; omega)
          all_goals
            obtain ⟨s0, s1⟩ := set2_cells (a := .int .i64 0) (b := .int .i64 0) k0 k1
            refine end_start rfl r (.int .i64 0) (.int .i64 0) (.int .i64 4) rfl rfl rfl s0 s1 ⟨by rw [hV.out], ?_⟩
            exact ext_set (ext_set hbw (p := ⟨r, 0, none⟩) (by have := hr.out; show w.heap.size ≤ r; omega) _) (p := ⟨r, 1, none⟩) (by have := hr.out; show w.heap.size ≤ r; omega) _)
      | some k =>
        have hpos : 0 < Y.size := by
          apply Classical.byContradiction
          intro hn
          unfold numE at ho
          rw [if_neg (fun h => hn h.1)] at ho
          cases ho
        have hp0 : (0 : Int) < (Y.size : Int) := by omega
        by_cases hz0 : Y[0].toNat = 48
        · have hzi : ((Y[0].toNat : Nat) : Int) = 48 := by omega
          have hn : numS 2 Y = none := by unfold numS; rw [if_pos (by unfold zeroS; rw [dif_pos hpos]; simpa using hz0)]
          rw [if_pos (Or.inr (Or.inr hn))] at hE
          have hV := hide hE
          have hday := hday2
          clear hE ho hn hday2 hDD hmx hdd
          (
            (
              go_enter Tryz.func110, Tryz.ntmps110
              go_wp2_with fail
              rw [hWW.out, hr.out, hgb.out]
              refine (cut_walk z ⟨#[32]⟩ x y _ (by omega) W hS0 hc.out).mono ?_
              rintro e w1 ⟨rfl, hb1⟩
              rw [hX.out, hY.out]
              go_wp2_with fail
              refine (hday.out w1).mono ?_
              rintro e w2 ⟨rfl, hb2⟩
              go_wp2_with fail
              refine (hdig.out w2).mono ?_
              rintro e w3 ⟨rfl, hb3⟩
              have hbb := ext_trans hb1 (ext_trans hb2 hb3)
              have k0 := cell_later hbb r0
              have k1 := cell_later hbb r1
              have q0 := cell_later hbb g0
              have q1 := cell_later hbb g1
              have q2 := cell_later hbb g2
              have q3 := cell_later hbb g3
              have kf0 : w3.frozen? ⟨r, 0, none⟩ = false := (World.frozen?_of_block (hbb.block r hrl)).trans rf0
              have kf1 : w3.frozen? ⟨r, 1, none⟩ = false := (World.frozen?_of_block (hbb.block r hrl)).trans rf1
              have hr3 : r < w3.heap.size := World.block_lt_of_cell? _ _ k0
              have hg3 : gb < w3.heap.size := World.block_lt_of_cell? _ _ q0
              have hbw := ext_trans hb0 hbb
              clear hb1 hb2 hb3 hday hdig)
            go_wp2
            all_goals try (exfalso; omega)
            all_goals
              obtain ⟨s0, s1⟩ := set2_cells (a := .int .i64 0) (b := .int .i64 0) k0 k1
              refine end_start rfl r (.int .i64 0) (.int .i64 0) (.int .i64 4) rfl rfl rfl s0 s1 ⟨by rw [hV.out], ?_⟩
              exact ext_set (ext_set hbw (p := ⟨r, 0, none⟩) (by have := hr.out; show w.heap.size ≤ r; omega) _) (p := ⟨r, 1, none⟩) (by have := hr.out; show w.heap.size ≤ r; omega) _)
        · have hzi : ¬ ((Y[0].toNat : Nat) : Int) = 48 := by omega
          have hn : numS 2 Y = some k := by unfold numS; rw [if_neg (by unfold zeroS; rw [dif_pos hpos]; simpa using hz0), ho]
          rw [hn, if_neg (by rintro (h | h | h) <;> first | cases h | omega)] at hE
          rw [Option.getD_some] at hE hdig
          have hkw : IntKind.i64.wrap ((k : Int) - 1) = (k : Int) - 1 := IntWalk.i64_in _ (by have : k ≤ 99 := h99; omega)
          have hk : (k : Int) ≤ 99 := by have : k ≤ 99 := h99; omega
          have hday := hday2
          have hposs := hide (fun (U : World) => cposs_walk D ((k : Int) - 1) len d sl b m (by omega) (by omega) U)
          clear ho hn hday2 hDD hmx hdd
          cases hP : possB d sl len (D, (k : Int) - 1) with
          | true =>
            rw [if_pos hP] at hE
            rw [hP] at hposs
            have hV := hide hE
            clear hE
            (
              go_enter Tryz.func110, Tryz.ntmps110
              go_wp2_with fail
              rw [hWW.out, hr.out, hgb.out]
              refine (cut_walk z ⟨#[32]⟩ x y _ (by omega) W hS0 hc.out).mono ?_
              rintro e w1 ⟨rfl, hb1⟩
              rw [hX.out, hY.out]
              go_wp2_with fail
              refine (hday.out w1).mono ?_
              rintro e w2 ⟨rfl, hb2⟩
              go_wp2_with fail
              refine (hdig.out w2).mono ?_
              rintro e w3 ⟨rfl, hb3⟩
              have hbb := ext_trans hb1 (ext_trans hb2 hb3)
              have k0 := cell_later hbb r0
              have k1 := cell_later hbb r1
              have q0 := cell_later hbb g0
              have q1 := cell_later hbb g1
              have q2 := cell_later hbb g2
              have q3 := cell_later hbb g3
              have kf0 : w3.frozen? ⟨r, 0, none⟩ = false := (World.frozen?_of_block (hbb.block r hrl)).trans rf0
              have kf1 : w3.frozen? ⟨r, 1, none⟩ = false := (World.frozen?_of_block (hbb.block r hrl)).trans rf1
              have hr3 : r < w3.heap.size := World.block_lt_of_cell? _ _ k0
              have hg3 : gb < w3.heap.size := World.block_lt_of_cell? _ _ q0
              have hbw := ext_trans hb0 hbb
              clear hb1 hb2 hb3 hday hdig)
            go_wp2_with fail
            (
              refine (hposs.out _).mono ?_
              rintro e w4 ⟨rfl, hb4⟩
              have hb5 := ext_trans (ext_alloc (Below.refl _ _) (.cells #[.int .i64 D, .int .i64 ((k : Int) - 1)] 70)) hb4
              have s0 := cell_later hb5 k0
              have s1 := cell_later hb5 k1
              have sf0 : w4.frozen? ⟨r, 0, none⟩ = false := (World.frozen?_of_block (hb5.block r hr3)).trans kf0
              have sf1 : w4.frozen? ⟨r, 1, none⟩ = false := (World.frozen?_of_block (hb5.block r hr3)).trans kf1
              have d0 : w4.cell? ⟨w3.heap.size, 0, none⟩ = some (.int .i64 D) := cell_later hb4 (by simp)
              have d1 : w4.cell? ⟨w3.heap.size, 1, none⟩ = some (.int .i64 ((k : Int) - 1)) := cell_later hb4 (by simp)
              have hd4 := World.block_lt_of_cell? _ _ d0
              have hr4 := World.block_lt_of_cell? _ _ s0
              have hbw5 := ext_trans hbw hb5
              clear hb4 hb5 k0 k1 kf0 kf1 q0 q1 q2 q3 hposs)
            go_wp2
            obtain ⟨u0, u1⟩ := set2_cells (a := .int .i64 D) (b := .int .i64 ((k : Int) - 1)) s0 s1
            refine end_start rfl r (.int .i64 D) (.int .i64 ((k : Int) - 1)) (.int .i64 0) rfl rfl rfl u0 u1 ⟨by rw [hV.out], ?_⟩
            exact ext_set (ext_set hbw5 (p := ⟨r, 0, none⟩) (by have := hr.out; show w.heap.size ≤ r; omega) _) (p := ⟨r, 1, none⟩) (by have := hr.out; show w.heap.size ≤ r; omega) _
          | false =>
            rw [if_neg (by rw [hP]; simp)] at hE
            rw [hP] at hposs
            have hV := hide hE
            clear hE
            (
              go_enter Tryz.func110, Tryz.ntmps110
              go_wp2_with fail
              rw [hWW.out, hr.out, hgb.out]
              refine (cut_walk z ⟨#[32]⟩ x y _ (by omega) W hS0 hc.out).mono ?_
              rintro e w1 ⟨rfl, hb1⟩
              rw [hX.out, hY.out]
              go_wp2_with fail
              refine (hday.out w1).mono ?_
              rintro e w2 ⟨rfl, hb2⟩
              go_wp2_with fail
              refine (hdig.out w2).mono ?_
              rintro e w3 ⟨rfl, hb3⟩
              have hbb := ext_trans hb1 (ext_trans hb2 hb3)
              have k0 := cell_later hbb r0
              have k1 := cell_later hbb r1
              have q0 := cell_later hbb g0
              have q1 := cell_later hbb g1
              have q2 := cell_later hbb g2
              have q3 := cell_later hbb g3
              have kf0 : w3.frozen? ⟨r, 0, none⟩ = false := (World.frozen?_of_block (hbb.block r hrl)).trans rf0
              have kf1 : w3.frozen? ⟨r, 1, none⟩ = false := (World.frozen?_of_block (hbb.block r hrl)).trans rf1
              have hr3 : r < w3.heap.size := World.block_lt_of_cell? _ _ k0
              have hg3 : gb < w3.heap.size := World.block_lt_of_cell? _ _ q0
              have hbw := ext_trans hb0 hbb
              clear hb1 hb2 hb3 hday hdig)
            go_wp2_with fail
            (
              refine (hposs.out _).mono ?_
              rintro e w4 ⟨rfl, hb4⟩
              have hb5 := ext_trans (ext_alloc (Below.refl _ _) (.cells #[.int .i64 D, .int .i64 ((k : Int) - 1)] 70)) hb4
              have s0 := cell_later hb5 k0
              have s1 := cell_later hb5 k1
              have sf0 : w4.frozen? ⟨r, 0, none⟩ = false := (World.frozen?_of_block (hb5.block r hr3)).trans kf0
              have sf1 : w4.frozen? ⟨r, 1, none⟩ = false := (World.frozen?_of_block (hb5.block r hr3)).trans kf1
              have d0 : w4.cell? ⟨w3.heap.size, 0, none⟩ = some (.int .i64 D) := cell_later hb4 (by simp)
              have d1 : w4.cell? ⟨w3.heap.size, 1, none⟩ = some (.int .i64 ((k : Int) - 1)) := cell_later hb4 (by simp)
              have hd4 := World.block_lt_of_cell? _ _ d0
              have hr4 := World.block_lt_of_cell? _ _ s0
              have hbw5 := ext_trans hbw hb5
              clear hb4 hb5 k0 k1 kf0 kf1 q0 q1 q2 q3 hposs)
            go_wp2
            obtain ⟨u0, u1⟩ := set2_cells (a := .int .i64 0) (b := .int .i64 0) s0 s1
            refine end_start rfl r (.int .i64 0) (.int .i64 0) (.int .i64 14) rfl rfl rfl u0 u1 ⟨by rw [hV.out], ?_⟩
            exact ext_set (ext_set hbw5 (p := ⟨r, 0, none⟩) (by have := hr.out; show w.heap.size ≤ r; omega) _) (p := ⟨r, 1, none⟩) (by have := hr.out; show w.heap.size ≤ r; omega) _
    · have hdd : decide (0 ≤ dayI X) = false := decide_eq_false hD
      have hmx : max (dayI X) 0 = 0 := by omega
      have hday2 := hide (by have := hday.out; rwa [hmx, hdd] at this)
      clear hday
      have hday := hday2
      rw [if_pos (Or.inr (Or.inl (by omega)))] at hE
      have hV := hide hE
      clear hE ho hday2 hmx hdd
      (
        (
          go_enter Tryz.func110, Tryz.ntmps110
          go_wp2_with fail
          rw [hWW.out, hr.out, hgb.out]
          refine (cut_walk z ⟨#[32]⟩ x y _ (by omega) W hS0 hc.out).mono ?_
          rintro e w1 ⟨rfl, hb1⟩
          rw [hX.out, hY.out]
          go_wp2_with fail
          refine (hday.out w1).mono ?_
          rintro e w2 ⟨rfl, hb2⟩
          go_wp2_with fail
          refine (hdig.out w2).mono ?_
          rintro e w3 ⟨rfl, hb3⟩
          have hbb := ext_trans hb1 (ext_trans hb2 hb3)
          have k0 := cell_later hbb r0
          have k1 := cell_later hbb r1
          have q0 := cell_later hbb g0
          have q1 := cell_later hbb g1
          have q2 := cell_later hbb g2
          have q3 := cell_later hbb g3
          have kf0 : w3.frozen? ⟨r, 0, none⟩ = false := (World.frozen?_of_block (hbb.block r hrl)).trans rf0
          have kf1 : w3.frozen? ⟨r, 1, none⟩ = false := (World.frozen?_of_block (hbb.block r hrl)).trans rf1
          have hr3 : r < w3.heap.size := World.block_lt_of_cell? _ _ k0
          have hg3 : gb < w3.heap.size := World.block_lt_of_cell? _ _ q0
          have hbw := ext_trans hb0 hbb
          clear hb1 hb2 hb3 hday hdig)
        go_wp2
        all_goals try (exfalso; omega)
        all_goals
          obtain ⟨s0, s1⟩ := set2_cells (a := .int .i64 0) (b := .int .i64 0) k0 k1
          refine end_start rfl r (.int .i64 0) (.int .i64 0) (.int .i64 4) rfl rfl rfl s0 s1 ⟨by rw [hV.out], ?_⟩
          exact ext_set (ext_set hbw (p := ⟨r, 0, none⟩) (by have := hr.out; show w.heap.size ≤ r; omega) _) (p := ⟨r, 1, none⟩) (by have := hr.out; show w.heap.size ≤ r; omega) _)
end Go.Proofs.YtimcdikeajbabaaGreatDoor
