/- Walks of coursefile.possible, order, timetableref10.possible, less, and cmp.Compare at numbers. Conditions: bounds. Walk of timetableref10.number: where a number stands in a list. Conditions: the cells. Walk of coursefile.starts. Conditions: the cells; bounds. Walk of coursefile.patterns. Conditions: the cells. Walk of coursefile.class. Conditions: the cells; a grid's bounds. Walks of coursefile.has, with slices.ContainsFunc and IndexFunc at classes, and of timetableref10.Index. Conditions: the classes' cells. Walk of coursefile.readPatterns, whether a problem is noted or not. Conditions: the scanner's cells are as Scan says; a text shorter than 2^30 bytes. -/
import Derived.Test.YtimcdikeajbabaaGreatDoorShelfS
import Derived.Test.YtimcdikeajbabaaGreatDoorRows
import Derived.WalkKit
import Derived.WalkSpells
import Derived.WalkLawsBesides
import Derived.BigGuardPart
import Derived.Lib.Hide
import Derived.Laws.BitsAllLaws
import Derived.Laws.BitsLemmas
import Derived.Lib.LaidTab
import Derived.Test.YtimcdikeajbabaaGreatDoorShelf
import Derived.Lib.ConvBytes
import Derived.Deep.QuietTactic
import Derived.BigQuiet
import Derived.Laws.ResultCell
import Derived.RegionTactic
import Derived.BigRegion
import Derived.Deep.RegionHeld3
import Derived.Deep.DeepCutAuto
import Derived.Lib.SmallJoins
import Derived.Lib.SplitLaws
import Derived.Lib.CountLaws
import Derived.Lib.IndexMore
import Derived.Lib.Split
import Derived.Lib.Join
import Derived.Lib.ItoaNum
import Derived.Laws.AppendOwn
import Derived.Test.YtimcdikeajbabaaGreatDoorShelfT
import Derived.Lib.ItoaLen
import Derived.Lib.AppendIntMem
import Derived.Deep.AppendLies
import Derived.Lib.PathFns
import Derived.Maps.Range
import Derived.Lib.OwnBridge
import Derived.Sort.OwnSorted
import Derived.Sort.Walk0
import Derived.Test.YtimcdikeajbabaaGreatDoorCards
import Derived.Test.YtimcdikeajbabaaGreatDoorTie
import Derived.ProofKit
import Derived.OpenShut
import Derived.LaidMore
import Derived.Lay
import Derived.SevenTiedAt
import Derived.Stop.Joined
import Derived.Stop.LaidErr
import Derived.Deep.DeepHandedRow
import Derived.Lib.LaidU8
import Derived.LaidSub
import Derived.Deep.Slices
import Derived.Deep.Fields
import Derived.ChangeSame
import Derived.Test.YtimcdikeajbabaaGreatDoorYCmpB
import Derived.Test.YtimcdikeajbabaaGreatDoorYSameL
import Derived.Test.YtimcdikeajbabaaGreatDoorYKBack
import Derived.Test.YtimcdikeajbabaaGreatDoorYPairs
import Derived.Test.YtimcdikeajbabaaGreatDoorYDCls
import Derived.Test.YtimcdikeajbabaaGreatDoorYROneP
import Derived.Test.YtimcdikeajbabaaGreatDoorYIdxS
namespace Go.Proofs.YtimcdikeajbabaaGreatDoor
open Go.RowKit
set_option maxRecDepth 100000

theorem possB_yes {d sl len a c : Int} (h : 0 ≤ a ∧ a < d ∧ 0 ≤ c ∧ c ≤ sl - len) : possB d sl len (a, c) = true := by unfold possB; simpa using h
theorem possB_no {d sl len a c : Int} (h : ¬ (0 ≤ a ∧ a < d ∧ 0 ≤ c ∧ c ≤ sl - len)) : possB d sl len (a, c) = false := by unfold possB; simpa using h
-- <poss>
set_option maxHeartbeats 1000000 in
theorem cposs_walk (a c len d sl b m : Int) (hl : -100000 ≤ len ∧ len ≤ 100000) (hs : -100000 ≤ sl ∧ sl ≤ 100000) (w : World) :
    Calls Tryz.prog 136 #[.agg #[.int .i64 a, .int .i64 c], .int .i64 len, .agg #[.int .i64 d, .int .i64 sl, .int .i64 b, .int .i64 m]] w fun e w' => e = .returned (.bool (possB d sl len (a, c))) ∧ Below w.heap.size w w' := by
  have e1 : IntKind.i64.wrap (sl - len) = sl - len := IntWalk.i64_in _ (by omega)
  by_cases h1 : 0 ≤ a
  · by_cases h2 : a < d
    · by_cases h3 : 0 ≤ c
      · by_cases h4 : c ≤ sl - len
        · rw [possB_yes ⟨h1, h2, h3, h4⟩]
          go_enter Tryz.func136, Tryz.ntmps136
          go_wp2
          go_ret
          exact ⟨rfl, (by repeat (first | exact Below.refl _ _ | refine ext_alloc ?_ _ | refine ext_drewN ?_ _ | refine ext_drew ?_ | refine ext_trans ?_ (by assumption)))⟩
        · rw [possB_no (fun h => h4 h.2.2.2)]
          go_enter Tryz.func136, Tryz.ntmps136
          go_wp2
          go_ret
          exact ⟨rfl, (by repeat (first | exact Below.refl _ _ | refine ext_alloc ?_ _ | refine ext_drewN ?_ _ | refine ext_drew ?_ | refine ext_trans ?_ (by assumption)))⟩
      · rw [possB_no (fun h => h3 h.2.2.1)]
        go_enter Tryz.func136, Tryz.ntmps136
        go_wp2
        go_ret
        exact ⟨rfl, (by repeat (first | exact Below.refl _ _ | refine ext_alloc ?_ _ | refine ext_drewN ?_ _ | refine ext_drew ?_ | refine ext_trans ?_ (by assumption)))⟩
    · rw [possB_no (fun h => h2 h.2.1)]
      go_enter Tryz.func136, Tryz.ntmps136
      go_wp2
      go_ret
      exact ⟨rfl, (by repeat (first | exact Below.refl _ _ | refine ext_alloc ?_ _ | refine ext_drewN ?_ _ | refine ext_drew ?_ | refine ext_trans ?_ (by assumption)))⟩
  · rw [possB_no (fun h => h1 h.1)]
    go_enter Tryz.func136, Tryz.ntmps136
    go_wp2
    go_ret
    exact ⟨rfl, (by repeat (first | exact Below.refl _ _ | refine ext_alloc ?_ _ | refine ext_drewN ?_ _ | refine ext_drew ?_ | refine ext_trans ?_ (by assumption)))⟩
-- </poss>
/-! cmp.Compare at numbers. -/
def cmpI (x y : Int) : Int := if x < y then -1 else if y < x then 1 else 0
set_option maxHeartbeats 1000000 in
theorem isnanI_walk (x : Int) (w : World) : Calls Tryz.prog 198 #[.int .i64 x] w fun e w' => e = .returned (.bool false) ∧ w = w' := by
  have hq : (x == x) = true := by simp
  go_enter Tryz.func198, Tryz.ntmps198
  go_wp2
  go_ret
  exact ⟨rfl, rfl⟩
set_option maxHeartbeats 1000000 in
theorem compI_walk (x y : Int) (w : World) : Calls Tryz.prog 155 #[.int .i64 x, .int .i64 y] w fun e w' => e = .returned (.int .i64 (cmpI x y)) ∧ w = w' := by
  unfold cmpI
  by_cases h1 : x < y
  · rw [if_pos h1]
    go_enter Tryz.func155, Tryz.ntmps155
    go_wp2_with fail
    refine (isnanI_walk x _).mono ?_
    rintro e w2 ⟨rfl, rfl⟩
    go_wp2_with fail
    refine (isnanI_walk y _).mono ?_
    rintro e w2 ⟨rfl, rfl⟩
    go_wp2
    go_ret
    exact ⟨rfl, rfl⟩
  · rw [if_neg h1]
    by_cases h2 : y < x
    · rw [if_pos h2]
      go_enter Tryz.func155, Tryz.ntmps155
      go_wp2_with fail
      refine (isnanI_walk x _).mono ?_
      rintro e w2 ⟨rfl, rfl⟩
      go_wp2_with fail
      refine (isnanI_walk y _).mono ?_
      rintro e w2 ⟨rfl, rfl⟩
      go_wp2
      go_ret
      exact ⟨rfl, rfl⟩
    · rw [if_neg h2]
      go_enter Tryz.func155, Tryz.ntmps155
      go_wp2_with fail
      refine (isnanI_walk x _).mono ?_
      rintro e w2 ⟨rfl, rfl⟩
      go_wp2_with fail
      refine (isnanI_walk y _).mono ?_
      rintro e w2 ⟨rfl, rfl⟩
      go_wp2
      go_ret
      exact ⟨rfl, rfl⟩
/-! The order of starts. -/
def ordP (a b : Int × Int) : Int := if cmpI a.1 b.1 ≠ 0 then cmpI a.1 b.1 else cmpI a.2 b.2
theorem cmpI_zero {x y : Int} : cmpI x y = 0 ↔ x = y := by
  unfold cmpI
  repeat' split
  all_goals omega
theorem cmpI_neg {x y : Int} : cmpI x y < 0 ↔ x < y := by
  unfold cmpI
  repeat' split
  all_goals omega
theorem ordP_neg (a b : Int × Int) : ordP a b < 0 ↔ lessB a b = true := by
  rw [lessB, decide_eq_true_eq]
  unfold ordP
  by_cases h : cmpI a.1 b.1 = 0
  · rw [if_neg (by simp [h]), cmpI_neg]
    rw [cmpI_zero] at h
    omega
  · rw [if_pos h, cmpI_neg]
    have : ¬ a.1 = b.1 := fun e => h (cmpI_zero.2 e)
    omega
/-- Blocks and draws behind a world. -/
def GrowOf (w w' : World) : Prop := ∃ (q : Nat) (os : Array Obj), w' = Sort.grow (w.drewN q) os
theorem GrowOf.refl (w : World) : GrowOf w w := ⟨0, #[], by rw [Sort.grow_empty]; rfl⟩
theorem GrowOf.alloc {w w' : World} (h : GrowOf w w') (o : Obj) : GrowOf w (w'.alloc o) := by
  obtain ⟨q, os, rfl⟩ := h
  exact ⟨q, os ++ #[o], by rw [Sort.alloc_eq_grow, Sort.grow_grow]⟩
theorem GrowOf.drew {w w' : World} (h : GrowOf w w') : GrowOf w w'.drew := by
  obtain ⟨q, os, rfl⟩ := h
  exact ⟨q + 1, os, rfl⟩
theorem GrowOf.below {w w' : World} (h : GrowOf w w') : Below w.heap.size w w' := by
  obtain ⟨q, os, rfl⟩ := h
  exact ⟨rfl, rfl, rfl, by rw [Sort.size_grow]; exact Nat.le_add_right _ _, fun k hk => Sort.heap_grow_old (w.drewN q) os hk⟩
set_option maxHeartbeats 4000000 in
theorem corder_grow (a1 a2 b1 b2 : Int) (w : World) :
    Calls Tryz.prog 112 #[.agg #[.int .i64 a1, .int .i64 a2], .agg #[.int .i64 b1, .int .i64 b2]] w fun e w' => e = .returned (.int .i64 (ordP (a1, a2) (b1, b2))) ∧ GrowOf w w' := by
  have c1 := fun (V : World) => compI_walk a1 b1 V
  have c2 := fun (V : World) => compI_walk a2 b2 V
  obtain ⟨i1, h1⟩ : ∃ i, cmpI a1 b1 = i := ⟨_, rfl⟩
  obtain ⟨i2, h2⟩ : ∃ i, cmpI a2 b2 = i := ⟨_, rfl⟩
  have hv : ordP (a1, a2) (b1, b2) = if i1 ≠ 0 then i1 else i2 := by unfold ordP; rw [h1, h2]
  obtain ⟨V, hV⟩ : ∃ V, ordP (a1, a2) (b1, b2) = V := ⟨_, rfl⟩
  rw [hV] at hv ⊢
  rw [h1] at c1
  rw [h2] at c2
  have hor := hide (fun (U : World) => (or_walk U.heap.size i1 i2 (U.alloc (.cells #[.int .i64 i1, .int .i64 i2] 3)) (by simp) (by simp)).mono fun e w' ⟨he, hw⟩ => (⟨he.trans (by rw [hv]), hw⟩ : e = Ending.returned (.int .i64 V) ∧ _ = w'))
  have hord := hide (fun (U : World) => (or_walk U.heap.size i1 i2 (U.alloc (.cells #[.int .i64 i1, .int .i64 i2] 3)).drew (show (U.alloc (.cells #[.int .i64 i1, .int .i64 i2] 3)).cell? ⟨U.heap.size, 0, none⟩ = _ by simp) (show (U.alloc (.cells #[.int .i64 i1, .int .i64 i2] 3)).cell? ⟨U.heap.size, 1, none⟩ = _ by simp)).mono fun e w' ⟨he, hw⟩ => (⟨he.trans (by rw [hv]), hw⟩ : e = Ending.returned (.int .i64 V) ∧ _ = w'))
  have hb0 : GrowOf w ((w.alloc (.cells #[.int .i64 a1, .int .i64 a2] 70)).alloc (.cells #[.int .i64 b1, .int .i64 b2] 70)) := (GrowOf.refl w).alloc _ |>.alloc _
  have hz : (w.alloc (.cells #[.int .i64 a1, .int .i64 a2] 70)).heap.size = w.heap.size + 1 := World.size_alloc _ _
  have hC : Cn4 w.heap.size 0 (.int .i64 a1) w.heap.size 1 (.int .i64 a2) ((w.heap.size + 1)) 0 (.int .i64 b1) ((w.heap.size + 1)) 1 (.int .i64 b2) ((w.alloc (.cells #[.int .i64 a1, .int .i64 a2] 70)).alloc (.cells #[.int .i64 b1, .int .i64 b2] 70)) := by
    refine ⟨?_, ?_, ?_, ?_⟩
    · exact cell_alloc_of (by simp) _
    · exact cell_alloc_of (by simp) _
    · rw [← hz]; simp
    · rw [← hz]; simp
  obtain ⟨W, hW⟩ : ∃ W, (w.alloc (.cells #[.int .i64 a1, .int .i64 a2] 70)).alloc (.cells #[.int .i64 b1, .int .i64 b2] 70) = W := ⟨_, rfl⟩
  rw [hW] at hb0 hC
  have hCd := hC.drew
  obtain ⟨q1, q2, q3, q4⟩ := id hC
  replace c1 := hide c1
  replace c2 := hide c2
  replace hW := hide hW
  clear h1 h2 hv hV hz
  go_enter Tryz.func112, Tryz.ntmps112
  go_wp2_with fail
  rw [hW.out]
  go_region_held3 (fun W' => W'.cell? ⟨w.heap.size, 0, none⟩ = some (.int .i64 a1) ∧ W'.cell? ⟨w.heap.size, 1, none⟩ = some (.int .i64 a2) ∧ W'.cell? ⟨(w.heap.size + 1), 0, none⟩ = some (.int .i64 b1) ∧ W'.cell? ⟨(w.heap.size + 1), 1, none⟩ = some (.int .i64 b2)) (first | ((repeat (first | (with_reducible assumption) | (with_reducible refine Cn4.alloc ?_ _) | (with_reducible refine Cn4.drew ?_) | (with_reducible refine Cn4.set ?_ ?_ ?_ ?_ ?_ _) | omega)); done)) (first | (go_at_call 155; first | ((with_reducible refine (c1.out _).mono ?_); rintro e w' ⟨rfl, rfl⟩) | ((with_reducible refine (c2.out _).mono ?_); rintro e w' ⟨rfl, rfl⟩)) | (go_at_call 154; first | ((with_reducible refine (hor.out _).mono ?_); rintro e w' ⟨rfl, rfl⟩) | ((with_reducible refine (hord.out _).mono ?_); rintro e w' ⟨rfl, rfl⟩)))
  all_goals
    go_wp2
    go_ret
    exact ⟨rfl, by repeat (first | with_reducible assumption | with_reducible refine GrowOf.alloc ?_ _ | with_reducible refine GrowOf.drew ?_)⟩
theorem corder_walk (a1 a2 b1 b2 : Int) (w : World) :
    Calls Tryz.prog 112 #[.agg #[.int .i64 a1, .int .i64 a2], .agg #[.int .i64 b1, .int .i64 b2]] w fun e w' => e = .returned (.int .i64 (ordP (a1, a2) (b1, b2))) ∧ Below w.heap.size w w' :=
  (corder_grow a1 a2 b1 b2 w).mono fun _ _ ⟨he, hg⟩ => ⟨he, hg.below⟩
end Go.Proofs.YtimcdikeajbabaaGreatDoor

namespace Go.Proofs.YtimcdikeajbabaaGreatDoor
open Go.RowKit
set_option maxRecDepth 100000

/-- Where a number stands first; behind all, if it does not. -/
def numI (n : Int) : List Int → Nat
  | [] => 0
  | x :: r => if x = n then 0 else numI n r + 1
theorem numI_hit {n : Int} : ∀ {l : List Int} {j : Nat}, l[j]? = some n → n ∉ l.take j → numI n l = j
  | [], j, h, _ => by simp at h
  | x :: r, 0, h, _ => by
    simp at h
    rw [numI, if_pos h]
  | x :: r, j + 1, h, hn => by
    rw [List.take_succ_cons, List.mem_cons, not_or] at hn
    rw [numI, if_neg (fun e => hn.1 e.symm), numI_hit (l := r) (j := j) (by simpa using h) hn.2]
theorem numI_none {n : Int} : ∀ {l : List Int}, n ∉ l → numI n l = l.length
  | [], _ => rfl
  | x :: r, h => by
    rw [List.mem_cons, not_or] at h
    rw [numI, if_neg (fun e => h.1 e.symm), numI_none h.2]; rfl
theorem numI_lt {n : Int} : ∀ {l : List Int} {i : Nat}, i ≤ l.length → (numI n l < i ↔ n ∈ l.take i)
  | [], i, h => by
    have : i = 0 := by simpa using h
    subst this; simp [numI]
  | x :: r, 0, _ => by simp
  | x :: r, i + 1, h => by
    rw [List.take_succ_cons, List.mem_cons, numI]
    by_cases e : x = n
    · rw [if_pos e]; simp [e]
    · rw [if_neg e]
      have := numI_lt (n := n) (l := r) (i := i) (by simpa using h)
      constructor
      · intro h2; exact Or.inr (this.1 (by omega))
      · rintro (h2 | h2)
        · exact absurd h2.symm e
        · have := this.2 h2; omega
theorem At.start {S : Nat → Prop} {w : World} {A : Option Addr} {l : List (Int × Int)} {j : Nat} {x : Int × Int} (h : At kStart S w A l) (hj : l[j]? = some x) :
    ∃ b off, A = some ⟨b, off, none⟩ ∧ S b ∧ b < w.heap.size ∧ w.cell? ⟨b, off + j * 2, none⟩ = some (.int .i64 x.1) ∧ w.cell? ⟨b, off + j * 2 + 1, none⟩ = some (.int .i64 x.2) := by
  obtain ⟨b, off, vs, e, hs, hlt, ⟨us, ts, rfl, h1, h2⟩, hc⟩ := h.get hj
  have h1 : us = [.int .i64 x.1] := h1
  have h2 : ts = [.int .i64 x.2] := h2
  subst h1 h2
  exact ⟨b, off, e, hs, hlt, hc 0 _ rfl, hc 1 _ rfl⟩
theorem take_mem {l : List Int} {j : Nat} {x n : Int} (hx : l[j]? = some x) (h : n ∉ l.take j) (hne : x ≠ n) : n ∉ l.take (j + 1) := by
  rw [List.take_add_one, hx, List.mem_append, not_or]
  exact ⟨h, by simpa using fun e => hne e.symm⟩
set_option maxHeartbeats 2000000 in
theorem r10number_walk (A : Option Addr) (l : List Int) (c : Nat) (n : Int) (w : World) (hn : l.length ≤ 9223372036854775807) (h : At kInt AnyB w A l) :
    Calls Tryz.prog 97 #[.slice A l.length c, .int .i64 n] w fun e w' => e = .returned (.int .i64 (numI n l)) ∧ w = w' := by
  obtain ⟨N, hnn⟩ : ∃ N, l.length = N := ⟨_, rfl⟩
  rw [hnn] at hn ⊢
  replace hnn := hide hnn
  go_enter Tryz.func97, Tryz.ntmps97
  go_wp2
  go_loop [5] (fun i => ∃ j : Nat, j ≤ N ∧ i = .int .i64 j ∧ Hid (n ∉ l.take j)) (fun i => N - (intOf i).toNat)
  case atStart => exact ⟨0, Nat.zero_le _, rfl, hide (by simp)⟩
  case round =>
    obtain ⟨j, hj, rfl, ho⟩ := hrel
    by_cases hlt : j < N
    · obtain ⟨x, hx⟩ : ∃ x, l[j]? = some x := ⟨_, List.getElem?_eq_getElem (by rw [hnn.out]; exact hlt)⟩
      obtain ⟨b, off, rfl, -, hbb, q0⟩ := h.int hx
      have hj0 : (0 : Int) ≤ (j : Int) := by omega
      have hj1 : (j : Int) < (N : Int) := by omega
      by_cases hq : x = n
      · have hit := hide (numI_hit (hq ▸ hx) ho.out)
        have hq2 : (x == n) = true := by simpa using hq
        replace hq := hide hq
        clear hx h ho
        go_wp2
        go_ret
        exact ⟨by rw [hit.out]; rfl, rfl⟩
      · have miss := hide (take_mem hx ho.out hq)
        have hq2 : (x == n) = false := by simpa using hq
        clear hx h ho
        go_wp2
        go_round
        case rel => exact ⟨j + 1, by omega, by go_num, miss⟩
        case measure => simp [intOf]; omega
    · obtain rfl : j = N := by omega
      have hall : Hid (numI n l = j) := hide (by
        have := ho.out
        rw [List.take_of_length_le (by rw [hnn.out]; exact Nat.le_refl _)] at this
        rw [numI_none this, hnn.out])
      clear h
      go_wp2
      go_ret
      exact ⟨by rw [hall.out]; rfl, rfl⟩
/-! slices.Index and Contains at numbers. -/
def posI (n : Int) (l : List Int) : Int := if numI n l < l.length then (numI n l : Int) else -1
theorem posI_hit {n : Int} {l : List Int} {j : Nat} (h : l[j]? = some n) (hn : n ∉ l.take j) : posI n l = (j : Int) := by
  have hj := (List.getElem?_eq_some_iff.1 h).1
  unfold posI
  rw [numI_hit h hn, if_pos hj]
theorem posI_none {n : Int} {l : List Int} (h : n ∉ l) : posI n l = -1 := by
  unfold posI
  rw [numI_none h, if_neg (Nat.lt_irrefl _)]
theorem posI_mem {n : Int} {l : List Int} : 0 ≤ posI n l ↔ n ∈ l := by
  unfold posI
  have h := numI_lt (n := n) (l := l) (Nat.le_refl _)
  rw [List.take_length] at h
  by_cases hl : numI n l < l.length
  · rw [if_pos hl]
    exact ⟨fun _ => h.1 hl, fun _ => by omega⟩
  · rw [if_neg hl]
    exact ⟨fun h2 => absurd h2 (by decide), fun h2 => absurd (h.2 h2) hl⟩
set_option maxHeartbeats 2000000 in
theorem iindex_walk (A : Option Addr) (xs : List Int) (c : Nat) (z : Int) (w : World) (hn : xs.length ≤ 9223372036854775807) (h : At kInt AnyB w A xs) :
    Calls Tryz.prog 143 #[.slice A xs.length c, .int .i64 z] w fun e w' => e = .returned (.int .i64 (posI z xs)) ∧ w = w' := by
  obtain ⟨n, hnn⟩ : ∃ n, xs.length = n := ⟨_, rfl⟩
  rw [hnn] at hn ⊢
  replace hnn := hide hnn
  go_enter Tryz.func143, Tryz.ntmps143
  go_wp2
  go_loop [5, 8] (fun _ i => ∃ j : Nat, j ≤ n ∧ i = .int .i64 j ∧ Hid (z ∉ xs.take j)) (fun _ i => n - (intOf i).toNat)
  case atStart => exact ⟨0, Nat.zero_le _, rfl, hide (by simp)⟩
  case round =>
    obtain ⟨j, hj, rfl, ho⟩ := hrel
    by_cases hlt : j < n
    · obtain ⟨x, hx⟩ : ∃ x, xs[j]? = some x := ⟨_, List.getElem?_eq_getElem (by rw [hnn.out]; exact hlt)⟩
      obtain ⟨b, off, rfl, -, hb, k0⟩ := h.int hx
      have hj0 : (0 : Int) ≤ (j : Int) := by omega
      have hj1 : (j : Int) < (n : Int) := by omega
      by_cases hq : x = z
      · have hit := hide (posI_hit (hq ▸ hx) ho.out)
        have hq1 : (z == x) = true := by simpa using hq.symm
        have hq2 : (x == z) = true := by simpa using hq
        replace hq := hide hq
        clear hx h ho
        go_wp2
        go_ret
        exact ⟨by rw [hit.out]; rfl, rfl⟩
      · have miss := hide (take_mem hx ho.out hq)
        have hq1 : (z == x) = false := by simpa using fun e => hq e.symm
        have hq2 : (x == z) = false := by simpa using hq
        have hq3 : ¬ z = x := fun e => hq e.symm
        clear hx h ho
        go_wp2
        go_round
        case rel => exact ⟨j + 1, by omega, by go_num, miss⟩
        case measure => simp [intOf]; omega
    · obtain rfl : j = n := by omega
      have hall : Hid (posI z xs = -1) := hide (posI_none (by have := ho.out; rwa [List.take_of_length_le (by rw [hnn.out]; exact Nat.le_refl _)] at this))
      clear h
      go_wp2
      go_ret
      exact ⟨by rw [hall.out]; rfl, rfl⟩
theorem icontains_walk (A : Option Addr) (xs : List Int) (c : Nat) (z : Int) (w : World) (hn : xs.length ≤ 9223372036854775807) (h : At kInt AnyB w A xs) :
    Calls Tryz.prog 105 #[.slice A xs.length c, .int .i64 z] w fun e w' => e = .returned (.bool (decide (z ∈ xs))) ∧ w = w' := by
  have hm : decide (0 ≤ posI z xs) = decide (z ∈ xs) := decide_eq_decide.2 posI_mem
  rw [← hm]
  clear hm
  go_enter Tryz.func105, Tryz.ntmps105
  go_wp2_with fail
  refine (iindex_walk A xs c z w hn h).mono ?_
  rintro e w' ⟨rfl, rfl⟩
  go_wp2
  go_ret
  exact ⟨rfl, rfl⟩
end Go.Proofs.YtimcdikeajbabaaGreatDoor

namespace Go.Proofs.YtimcdikeajbabaaGreatDoor
open Go.RowKit
set_option maxRecDepth 100000

theorem startsTo_bad {d sl len : Int} {ss : List (Int × Int)} {j N : Nat} {x : Int × Int} (hx : ss[j]? = some x) (hj : j < N) (h : possB d sl len x = false) : startsTo d sl len ss N = false := by
  refine startsTo_false (k := j + 1) ?_ N (by omega)
  rw [startsTo, List.getD_eq_getElem?_getD, hx]
  show (_ && (possB d sl len x && _)) = false
  rw [h]; simp
theorem startsTo_low {d sl len : Int} {ss : List (Int × Int)} {k N : Nat} {x y : Int × Int} (hx : ss[k + 1]? = some x) (hy : ss[k]? = some y) (hj : k + 1 < N) (h : lessB y x = false) : startsTo d sl len ss N = false := by
  refine startsTo_false (k := k + 1 + 1) ?_ N (by omega)
  rw [startsTo, List.getD_eq_getElem?_getD, hx, Nat.add_sub_cancel, List.getD_eq_getElem?_getD, hy]
  show (_ && (possB d sl len x && (decide (k + 1 = 0) || lessB y x))) = false
  rw [h, decide_eq_false (by omega)]; simp
theorem startsTo_first {d sl len : Int} {ss : List (Int × Int)} {x : Int × Int} (hx : ss[0]? = some x) (h : possB d sl len x = true) : startsTo d sl len ss (0 + 1) = true := by
  rw [startsTo, List.getD_eq_getElem?_getD, hx]
  show (true && (possB d sl len x && (decide (0 = 0) || _))) = true
  rw [h]; simp
theorem startsTo_more {d sl len : Int} {ss : List (Int × Int)} {k : Nat} {x y : Int × Int} (h0 : startsTo d sl len ss (k + 1) = true) (hx : ss[k + 1]? = some x) (hy : ss[k]? = some y) (h : possB d sl len x = true) (hl : lessB y x = true) : startsTo d sl len ss (k + 1 + 1) = true := by
  rw [startsTo, h0, List.getD_eq_getElem?_getD, hx, Nat.add_sub_cancel, List.getD_eq_getElem?_getD, hy]
  show (true && (possB d sl len x && (decide (k + 1 = 0) || lessB y x))) = true
  rw [h, hl]; simp
theorem ord_ge {a b : Int × Int} (h : lessB a b = false) : 0 ≤ ordP a b := by
  have := mt (ordP_neg a b).1 (by rw [h]; simp)
  omega
set_option maxHeartbeats 8000000 in
theorem cstarts_walk (z co pa : ByteArray) (n : Int) (A4 : Option Addr) (n4 c4 : Nat) (mm : Int) (A6 : Option Addr) (n6 c6 : Nat) (A7 : Option Addr) (n7 c7 : Nat) (A8 : Option Addr) (n8 c8 : Nat) (ss : List (Int × Int)) (d sl b m : Int) (w : World) (hn : ss.length = n8) (hn8 : n8 ≤ 9223372036854775807) (hlen : 1 ≤ n ∧ n ≤ sl) (hsl : sl ≤ 24) (hs : At kStart AnyB w A8 ss) :
    Calls Tryz.prog 94 #[.agg #[.string z, .string co, .string pa, .int .i64 n, .slice A4 n4 c4, .int .i64 mm, .slice A6 n6 c6, .slice A7 n7 c7, .slice A8 n8 c8], .agg #[.int .i64 d, .int .i64 sl, .int .i64 b, .int .i64 m]] w fun e w' => e = .returned (.bool (startsTo d sl n ss n8)) ∧ Below w.heap.size w w' := by
  have hb0 : Below w.heap.size w ((w.alloc (.cells #[.string z, .string co, .string pa, .int .i64 n, .slice A4 n4 c4, .int .i64 mm, .slice A6 n6 c6, .slice A7 n7 c7, .slice A8 n8 c8] 47)).alloc (.cells #[.int .i64 d, .int .i64 sl, .int .i64 b, .int .i64 m] 24)) := (by repeat (first | exact Below.refl _ _ | refine ext_alloc ?_ _ | refine ext_drewN ?_ _ | refine ext_drew ?_ | refine ext_trans ?_ (by assumption)))
  have hz : (w.alloc (.cells #[.string z, .string co, .string pa, .int .i64 n, .slice A4 n4 c4, .int .i64 mm, .slice A6 n6 c6, .slice A7 n7 c7, .slice A8 n8 c8] 47)).heap.size = w.heap.size + 1 := World.size_alloc _ _
  have hC0 := (cbox_new w ⟨z, co, pa, n, A4, n4, c4, mm, A6, n6, c6, A7, n7, c7, A8, n8, c8⟩).alloc (.cells #[.int .i64 d, .int .i64 sl, .int .i64 b, .int .i64 m] 24)
  have bG := Box4.new (w.alloc (.cells #[.string z, .string co, .string pa, .int .i64 n, .slice A4 n4 c4, .int .i64 mm, .slice A6 n6 c6, .slice A7 n7 c7, .slice A8 n8 c8] 47)) 24 (.int .i64 d) (.int .i64 sl) (.int .i64 b) (.int .i64 m)
  rw [hz] at bG
  obtain ⟨W, hW⟩ : ∃ W, (w.alloc (.cells #[.string z, .string co, .string pa, .int .i64 n, .slice A4 n4 c4, .int .i64 mm, .slice A6 n6 c6, .slice A7 n7 c7, .slice A8 n8 c8] 47)).alloc (.cells #[.int .i64 d, .int .i64 sl, .int .i64 b, .int .i64 m] 24) = W := ⟨_, rfl⟩
  have hC : CBox W w.heap.size ⟨z, co, pa, n, A4, n4, c4, mm, A6, n6, c6, A7, n7, c7, A8, n8, c8⟩ := by rw [← hW]; exact hC0
  rw [hW] at hb0 bG
  have hsW := hs.later hb0
  have u3 := hC.c3
  have u8 := hC.c8
  dsimp only at u3 u8
  obtain ⟨g0, g1, g2, g3⟩ := bG
  obtain ⟨cb, hcb⟩ : ∃ cb, w.heap.size = cb := ⟨_, rfl⟩
  obtain ⟨gb, hgb⟩ : ∃ gb, w.heap.size + 1 = gb := ⟨_, rfl⟩
  rw [hcb] at u3 u8
  rw [hgb] at g0 g1 g2 g3
  obtain ⟨V, hV⟩ : ∃ V, startsTo d sl n ss n8 = V := ⟨_, rfl⟩
  rw [hV]
  have hcl := World.block_lt_of_cell? _ _ u3
  have hgl := World.block_lt_of_cell? _ _ g0
  replace hV := hide hV
  replace hW := hide hW
  replace hcb := hide hcb
  replace hgb := hide hgb
  replace hn := hide hn
  clear hs hz hC0 hC
  go_enter Tryz.func94, Tryz.ntmps94
  go_wp2_with fail
  rw [hW.out, hgb.out, hcb.out]
  go_loopw [10] (fun i wr => ∃ j : Nat, j ≤ n8 ∧ i = .int .i64 j ∧ Hid (startsTo d sl n ss j = true) ∧ Below W.heap.size W wr) (fun i _ => n8 - (intOf i).toNat)
  case atStart => exact ⟨0, Nat.zero_le _, rfl, hide rfl, Below.refl _ _⟩
  case round =>
    obtain ⟨j, hj, rfl, ho, hb⟩ := hrel
    by_cases hlt : j < n8
    · obtain ⟨x, hx⟩ : ∃ x, ss[j]? = some x := ⟨_, List.getElem?_eq_getElem (by rw [hn.out]; exact hlt)⟩
      obtain ⟨sb, so, rfl, -, hsb, k0, k1⟩ := (hsW.later hb).start hx
      obtain ⟨x1, x2⟩ := x
      dsimp only at k0 k1
      have hj0 : (0 : Int) ≤ (j : Int) := by omega
      have hj1 : (j : Int) < (n8 : Int) := by omega
      replace u3 := cell_later hb u3
      replace u8 := cell_later hb u8
      replace g0 := cell_later hb g0
      replace g1 := cell_later hb g1
      replace g2 := cell_later hb g2
      replace g3 := cell_later hb g3
      have hbn : Below wr.heap.size wr (wr.alloc (.cells #[.int .i64 x1, .int .i64 x2] 70)) := ext_alloc (Below.refl _ _) _
      have w0 : (wr.alloc (.cells #[.int .i64 x1, .int .i64 x2] 70)).cell? ⟨wr.heap.size, 0, none⟩ = some (.int .i64 x1) := by simp
      have w1 : (wr.alloc (.cells #[.int .i64 x1, .int .i64 x2] 70)).cell? ⟨wr.heap.size, 1, none⟩ = some (.int .i64 x2) := by simp
      have hSC : Cn8 wr.heap.size 0 (.int .i64 x1) wr.heap.size 1 (.int .i64 x2) cb 3 (.int .i64 n) cb 8 (.slice (some ⟨sb, so, none⟩) n8 c8) gb 0 (.int .i64 d) gb 1 (.int .i64 sl) gb 2 (.int .i64 b) gb 3 (.int .i64 m) (wr.alloc (.cells #[.int .i64 x1, .int .i64 x2] 70)) := ⟨w0, w1, cell_later hbn u3, cell_later hbn u8, cell_later hbn g0, cell_later hbn g1, cell_later hbn g2, cell_later hbn g3⟩
      have hb3 := ext_trans hb hbn
      obtain ⟨W3, hW3⟩ : ∃ W3, wr.alloc (.cells #[.int .i64 x1, .int .i64 x2] 70) = W3 := ⟨_, rfl⟩
      rw [hW3] at hSC hb3 hbn
      have hcp0 := fun (v : Later W3) => cposs_walk x1 x2 n d sl b m (by omega) (by omega) v.val
      clear w0 w1
      cases hp : possB d sl n (x1, x2) with
      | false =>
        obtain rfl : V = false := by rw [← hV.out]; exact startsTo_bad hx hlt hp
        rw [hp] at hcp0
        have hSd := hSC.drew
        have hrefl := Below.refl W3.heap.size W3
        obtain ⟨q1, q2, q3, q4, q5, q6, q7, q8⟩ := id hSC
        have hgr : wr.heap.size < W3.heap.size := World.block_lt_of_cell? _ _ q1
        replace hW3 := hide hW3
        clear hx ho hp hsW
        have hany := later_any W3
        have hcp := hide (fun (v : Later W3) => calls_later (v := .bool false) (n := v) (hcp0 v))
        have f1 := fun (v : Later W3) => cell_later v.keeps q1
        have f2 := fun (v : Later W3) => cell_later v.keeps q2
        have f3 := fun (v : Later W3) => cell_later v.keeps q3
        have f4 := fun (v : Later W3) => cell_later v.keeps q4
        have f5 := fun (v : Later W3) => cell_later v.keeps q5
        have f6 := fun (v : Later W3) => cell_later v.keeps q6
        have f7 := fun (v : Later W3) => cell_later v.keeps q7
        have f8 := fun (v : Later W3) => cell_later v.keeps q8
        go_wp2_with fail
        rw [hW3.out]
        refine wp_region_later (by kernel_rfl) (by kernel_rfl) ?_
        repeat (go_big_quiet_step ((go_at_call 136; with_reducible exact hcp.out _)))
        refine wpQuiet_nil ?_
        clear hcp hcp0 hany f1 f2 f3 f4 f5 f6 f7 f8
        rintro _ ⟨n8', rfl⟩
        have hb8 := n8'.keeps
        generalize n8'.val = w8 at *
        go_wp2_with fail
        go_ret
        exact ⟨rfl, ext_trans hb0 (ext_trans hb3 hb8)⟩
      | true =>
        rw [hp] at hcp0
        by_cases hj00 : j = 0
        · have hnx : Hid (startsTo d sl n ss (j + 1) = true) := hide (by
            subst hj00
            exact startsTo_first hx hp)
          have hji : ¬ (0 : Int) < (j : Int) := by omega
          have hSd := hSC.drew
          have hrefl := Below.refl W3.heap.size W3
          obtain ⟨q1, q2, q3, q4, q5, q6, q7, q8⟩ := id hSC
          have hgr : wr.heap.size < W3.heap.size := World.block_lt_of_cell? _ _ q1
          replace hW3 := hide hW3
          replace hj00 := hide hj00
          clear hx ho hp hsW hV
          have hjn : ¬ 0 < j := by have := hj00.out; omega
          have hany := later_any W3
          have hcp := hide (fun (v : Later W3) => calls_later (v := .bool true) (n := v) (hcp0 v))
          have f1 := fun (v : Later W3) => cell_later v.keeps q1
          have f2 := fun (v : Later W3) => cell_later v.keeps q2
          have f3 := fun (v : Later W3) => cell_later v.keeps q3
          have f4 := fun (v : Later W3) => cell_later v.keeps q4
          have f5 := fun (v : Later W3) => cell_later v.keeps q5
          have f6 := fun (v : Later W3) => cell_later v.keeps q6
          have f7 := fun (v : Later W3) => cell_later v.keeps q7
          have f8 := fun (v : Later W3) => cell_later v.keeps q8
          go_wp2_with fail
          rw [hW3.out]
          refine wp_region_later (by kernel_rfl) (by kernel_rfl) ?_
          repeat (go_big_quiet_step ((go_at_call 136; with_reducible exact hcp.out _)))
          refine wpQuiet_nil ?_
          clear hcp hcp0 hany f1 f2 f3 f4 f5 f6 f7 f8
          rintro _ ⟨n8', rfl⟩
          have hb8 := n8'.keeps
          generalize n8'.val = w8 at *
          go_wp2_with fail
          go_roundw
          case rel => exact ⟨j + 1, by omega, by go_num, hnx, ext_trans hb3 hb8⟩
          case measure => simp [intOf]; omega
        · obtain ⟨k, hk⟩ : ∃ k, j = k + 1 := ⟨j - 1, by omega⟩
          obtain ⟨y, hy⟩ : ∃ y, ss[k]? = some y := ⟨_, List.getElem?_eq_getElem (by rw [hn.out]; omega)⟩
          have hx' : ss[k + 1]? = some (x1, x2) := by rw [← hk]; exact hx
          obtain ⟨sb', so', e1, -, -, p0, p1⟩ := (hsW.later hb).start hy
          injection e1 with e1
          injection e1 with e2 e3 _
          subst e2 e3
          obtain ⟨y1, y2⟩ := y
          dsimp only at p0 p1
          have hSD : Cn10 wr.heap.size 0 (.int .i64 x1) wr.heap.size 1 (.int .i64 x2) cb 3 (.int .i64 n) cb 8 (.slice (some ⟨sb, so, none⟩) n8 c8) gb 0 (.int .i64 d) gb 1 (.int .i64 sl) gb 2 (.int .i64 b) gb 3 (.int .i64 m) sb ((so + k * 2)) (.int .i64 y1) sb ((so + k * 2 + 1)) (.int .i64 y2) W3 := by
            obtain ⟨a1, a2, a3, a4, a5, a6, a7, a8⟩ := hSC
            exact ⟨a1, a2, a3, a4, a5, a6, a7, a8, cell_later hbn p0, cell_later hbn p1⟩
          obtain ⟨o, ho2⟩ : ∃ o, ordP (y1, y2) (x1, x2) = o := ⟨_, rfl⟩
          have hco0 := fun (v : Later W3) => corder_walk y1 y2 x1 x2 v.val
          rw [ho2] at hco0
          have hji : (0 : Int) < (j : Int) := by omega
          have hki : (j : Int) - 1 = (k : Int) := by omega
          have hkw : IntKind.i64.wrap (k : Int) = (k : Int) := IntWalk.i64_in _ (by omega)
          have hk0 : (0 : Int) ≤ (k : Int) := by omega
          have hk1 : (k : Int) < (n8 : Int) := by omega
          have hSd := hSD.drew
          have hrefl := Below.refl W3.heap.size W3
          obtain ⟨q1, q2, q3, q4, q5, q6, q7, q8, q9, q10⟩ := id hSD
          have hgr : wr.heap.size < W3.heap.size := World.block_lt_of_cell? _ _ q1
          cases hl : lessB (y1, y2) (x1, x2) with
          | false =>
            obtain rfl : V = false := by rw [← hV.out]; exact startsTo_low hx' hy (by omega) hl
            have hoi : 0 ≤ o := by rw [← ho2]; exact ord_ge hl
            replace hW3 := hide hW3
            replace hk := hide hk
            clear hx hx' hy ho hp hsW hSC ho2 hl hj00
            have hjn : 0 < j := by omega
            have hany := later_any W3
            have hcp := hide (fun (v : Later W3) => calls_later (v := .bool true) (n := v) (hcp0 v))
            have hco := hide (fun (v : Later W3) => calls_later (v := .int .i64 o) (n := v) (hco0 v))
            have f1 := fun (v : Later W3) => cell_later v.keeps q1
            have f2 := fun (v : Later W3) => cell_later v.keeps q2
            have f3 := fun (v : Later W3) => cell_later v.keeps q3
            have f4 := fun (v : Later W3) => cell_later v.keeps q4
            have f5 := fun (v : Later W3) => cell_later v.keeps q5
            have f6 := fun (v : Later W3) => cell_later v.keeps q6
            have f7 := fun (v : Later W3) => cell_later v.keeps q7
            have f8 := fun (v : Later W3) => cell_later v.keeps q8
            have f9 := fun (v : Later W3) => cell_later v.keeps q9
            have f10 := fun (v : Later W3) => cell_later v.keeps q10
            go_wp2_with fail
            rw [hW3.out]
            refine wp_region_later (by kernel_rfl) (by kernel_rfl) ?_
            repeat (go_big_quiet_step ((first | (go_at_call 136; with_reducible exact hcp.out _) | (go_at_call 112; with_reducible exact hco.out _))))
            refine wpQuiet_nil ?_
            clear hcp hco hcp0 hco0 hany f1 f2 f3 f4 f5 f6 f7 f8 f9 f10
            rintro _ ⟨n8', rfl⟩
            have hb8 := n8'.keeps
            generalize n8'.val = w8 at *
            go_wp2_with fail
            go_ret
            exact ⟨rfl, ext_trans hb0 (ext_trans hb3 hb8)⟩
          | true =>
            have hoi : ¬ 0 ≤ o := by
              have := (ordP_neg (y1, y2) (x1, x2)).2 hl
              rw [ho2] at this
              omega
            have hnx : Hid (startsTo d sl n ss (j + 1) = true) := hide (by
              have := ho.out
              rw [hk] at this ⊢
              exact startsTo_more this hx' hy hp hl)
            replace hW3 := hide hW3
            replace hk := hide hk
            clear hx hx' hy ho hp hsW hSC ho2 hl hj00 hV
            have hjn : 0 < j := by omega
            have hany := later_any W3
            have hcp := hide (fun (v : Later W3) => calls_later (v := .bool true) (n := v) (hcp0 v))
            have hco := hide (fun (v : Later W3) => calls_later (v := .int .i64 o) (n := v) (hco0 v))
            have f1 := fun (v : Later W3) => cell_later v.keeps q1
            have f2 := fun (v : Later W3) => cell_later v.keeps q2
            have f3 := fun (v : Later W3) => cell_later v.keeps q3
            have f4 := fun (v : Later W3) => cell_later v.keeps q4
            have f5 := fun (v : Later W3) => cell_later v.keeps q5
            have f6 := fun (v : Later W3) => cell_later v.keeps q6
            have f7 := fun (v : Later W3) => cell_later v.keeps q7
            have f8 := fun (v : Later W3) => cell_later v.keeps q8
            have f9 := fun (v : Later W3) => cell_later v.keeps q9
            have f10 := fun (v : Later W3) => cell_later v.keeps q10
            go_wp2_with fail
            rw [hW3.out]
            refine wp_region_later (by kernel_rfl) (by kernel_rfl) ?_
            repeat (go_big_quiet_step ((first | (go_at_call 136; with_reducible exact hcp.out _) | (go_at_call 112; with_reducible exact hco.out _))))
            refine wpQuiet_nil ?_
            clear hcp hco hcp0 hco0 hany f1 f2 f3 f4 f5 f6 f7 f8 f9 f10
            rintro _ ⟨n8', rfl⟩
            have hb8 := n8'.keeps
            generalize n8'.val = w8 at *
            go_wp2_with fail
            go_roundw
            case rel => exact ⟨j + 1, by omega, by go_num, hnx, ext_trans hb3 hb8⟩
            case measure => simp [intOf]; omega
    · obtain rfl : j = n8 := by omega
      obtain rfl : V = true := by rw [← hV.out]; exact ho.out
      clear ho hsW
      go_wp2
      go_ret
      exact ⟨rfl, ext_trans hb0 hb⟩
end Go.Proofs.YtimcdikeajbabaaGreatDoor

namespace Go.Proofs.YtimcdikeajbabaaGreatDoor
open Go.RowKit
set_option maxRecDepth 100000

theorem patsTo_bad {n : Int} {ps : List Int} {j N : Nat} {x : Int} (hx : ps[j]? = some x) (hj : j < N) (h : validB x n = false ∨ x ∈ ps.take j) : patsTo n ps N = false := by
  refine patsTo_false (k := j + 1) ?_ N (by omega)
  rw [patsTo, List.getD_eq_getElem?_getD, hx]
  rcases h with h | h
  · show (_ && (validB x n && _)) = false
    rw [h]; simp
  · have := List.contains_iff_mem.2 h
    show (_ && (_ && !(ps.take j).contains x)) = false
    rw [this]; simp
theorem patsTo_more {n : Int} {ps : List Int} {j : Nat} {x : Int} (hx : ps[j]? = some x) (h0 : patsTo n ps j = true) (h1 : validB x n = true) (h2 : x ∉ ps.take j) : patsTo n ps (j + 1) = true := by
  have : (ps.take j).contains x = false := by
    cases hc : (ps.take j).contains x with
    | false => rfl
    | true => exact absurd (List.contains_iff_mem.1 hc) h2
  rw [patsTo, List.getD_eq_getElem?_getD, hx, h0]
  show (true && (validB x n && !(ps.take j).contains x)) = true
  rw [h1, this]; rfl
set_option maxHeartbeats 4000000 in
theorem cpats_walk (A : Option Addr) (ps : List Int) (c : Nat) (n : Int) (w : World) (hn : ps.length ≤ 9223372036854775807) (hc : ps.length ≤ c) (h : At kInt AnyB w A ps) :
    Calls Tryz.prog 92 #[.slice A ps.length c, .int .i64 n] w fun e w' => e = .returned (.int .i64 (patsE n ps)) ∧ w = w' := by
  obtain ⟨N, hnn⟩ : ∃ N, ps.length = N := ⟨_, rfl⟩
  have hE : patsE n ps = if N = 0 then 16 else if 8 < N then 2 else if patsTo n ps N = false then 1 else 0 := by unfold patsE; rw [hnn]
  rw [hnn] at hn hc ⊢
  rw [hE]
  by_cases h0 : N = 0
  · rw [if_pos h0]
    have h0i : ((N : Int) == 0) = true := by simp; omega
    replace h0 := hide h0
    clear hE hnn h
    go_enter Tryz.func92, Tryz.ntmps92
    go_wp2
    go_ret
    exact ⟨rfl, rfl⟩
  · rw [if_neg h0]
    have h0i : ((N : Int) == 0) = false := by simp; omega
    by_cases h8 : 8 < N
    · rw [if_pos h8]
      have h8i : (8 : Int) < (N : Int) := by omega
      clear hE hnn h
      go_enter Tryz.func92, Tryz.ntmps92
      go_wp2
      go_ret
      exact ⟨rfl, rfl⟩
    · rw [if_neg h8]
      have h8i : ¬ (8 : Int) < (N : Int) := by omega
      obtain ⟨V, hV⟩ : ∃ V, (if patsTo n ps N = false then 1 else 0) = V := ⟨_, rfl⟩
      rw [hV]
      replace hV := hide hV
      replace hnn := hide hnn
      clear hE
      go_enter Tryz.func92, Tryz.ntmps92
      go_wp2_with fail
      go_loop [17] (fun v => ∃ j : Nat, j ≤ N ∧ v = .int .i64 j ∧ Hid (patsTo n ps j = true)) (fun v => N - (intOf v).toNat)
      case atStart => exact ⟨0, Nat.zero_le _, rfl, hide rfl⟩
      case round =>
        obtain ⟨j, hj, rfl, ho⟩ := hrel
        by_cases hlt : j < N
        · obtain ⟨x, hx⟩ : ∃ x, ps[j]? = some x := ⟨_, List.getElem?_eq_getElem (by rw [hnn.out]; exact hlt)⟩
          obtain ⟨b, off, rfl, -, hb, k0⟩ := h.int hx
          have hj0 : (0 : Int) ≤ (j : Int) := by omega
          have hj1 : (j : Int) < (N : Int) := by omega
          have hjc : (j : Int) ≤ (c : Int) := by omega
          have hcon := icontains_walk (some ⟨b, off, none⟩) (ps.take j) c x w (by rw [List.length_take]; omega) h.take.any
          rw [List.length_take, hnn.out, Nat.min_eq_left hj] at hcon
          have hval := wsValid_walk x n w
          cases hv : validB x n with
          | false =>
            obtain rfl : V = 1 := by rw [← hV.out, patsTo_bad hx hlt (Or.inl hv)]; rfl
            rw [hv] at hval
            clear hx h ho hcon hv
            go_wp2_with (go_at_call 79; refine hval.mono ?_; rintro e w4 ⟨rfl, rfl⟩)
            go_ret
            exact ⟨rfl, rfl⟩
          | true =>
            rw [hv] at hval
            by_cases hm : x ∈ ps.take j
            · obtain rfl : V = 1 := by rw [← hV.out, patsTo_bad hx hlt (Or.inr hm)]; rfl
              rw [decide_eq_true hm] at hcon
              clear hx h ho hv hm
              go_wp2_with (first | (go_at_call 79; refine hval.mono ?_; rintro e w4 ⟨rfl, rfl⟩) | (go_at_call 105; refine hcon.mono ?_; rintro e w4 ⟨rfl, rfl⟩))
              go_ret
              exact ⟨rfl, rfl⟩
            · have hnx := hide (patsTo_more hx ho.out hv hm)
              rw [decide_eq_false hm] at hcon
              clear hx h ho hv hm
              go_wp2_with (first | (go_at_call 79; refine hval.mono ?_; rintro e w4 ⟨rfl, rfl⟩) | (go_at_call 105; refine hcon.mono ?_; rintro e w4 ⟨rfl, rfl⟩))
              go_round
              case rel => exact ⟨j + 1, by omega, by go_num, hnx⟩
              case measure => simp [intOf]; omega
        · obtain rfl : j = N := by omega
          obtain rfl : V = 0 := by rw [← hV.out, ho.out]; rfl
          clear h ho
          go_wp2
          go_ret
          exact ⟨rfl, rfl⟩
end Go.Proofs.YtimcdikeajbabaaGreatDoor

namespace Go.Proofs.YtimcdikeajbabaaGreatDoor
open Go.RowKit
set_option maxRecDepth 100000

set_option maxHeartbeats 8000000 in
theorem cclass_walk (z co pa : ByteArray) (n : Int) (A4 : Option Addr) (n4 c4 : Nat) (mm : Int) (A6 : Option Addr) (n6 c6 : Nat) (A7 : Option Addr) (n7 c7 : Nat) (A8 : Option Addr) (n8 c8 : Nat) (ps : List Int) (fs st : List ByteArray) (ss : List (Int × Int)) (d sl b m k : Int) (w : World)
    (h4 : ps.length = n4) (h6 : fs.length = n6) (h7 : st.length = n7) (h8 : ss.length = n8) (m4 : n4 ≤ 9223372036854775807) (m6 : n6 ≤ 9223372036854775807) (m7 : n7 ≤ 9223372036854775807) (m8 : n8 ≤ 9223372036854775807) (q4 : n4 ≤ c4) (hsl : 1 ≤ sl ∧ sl ≤ 24)
    (a4 : At kInt AnyB w A4 ps) (a6 : At kStr AnyB w A6 fs) (a7 : At kStr AnyB w A7 st) (a8 : At kStart AnyB w A8 ss) :
    Calls Tryz.prog 58 #[.agg #[.string z, .string co, .string pa, .int .i64 n, .slice A4 n4 c4, .int .i64 mm, .slice A6 n6 c6, .slice A7 n7 c7, .slice A8 n8 c8], .agg #[.int .i64 d, .int .i64 sl, .int .i64 b, .int .i64 m], .int .i64 k] w fun e w' => e = .returned (.int .i64 (clsEx d sl k (z, co, pa, n, ps, mm, fs, st, ss))) ∧ Below w.heap.size w w' := by
  have hb0 : Below w.heap.size w ((w.alloc (.cells #[.string z, .string co, .string pa, .int .i64 n, .slice A4 n4 c4, .int .i64 mm, .slice A6 n6 c6, .slice A7 n7 c7, .slice A8 n8 c8] 47)).alloc (.cells #[.int .i64 d, .int .i64 sl, .int .i64 b, .int .i64 m] 24)) := (by repeat (first | exact Below.refl _ _ | refine ext_alloc ?_ _ | refine ext_drewN ?_ _ | refine ext_drew ?_ | refine ext_trans ?_ (by assumption)))
  have v0 := hide (fun (U : World) => cvalid_walk z U)
  have v1 := hide (fun (U : World) => cvalid_walk co U)
  have v2 := hide (fun (U : World) => cvalid_walk pa U)
  have hpt := cpats_walk A4 ps c4 k _ (by omega) (by omega) (a4.later hb0)
  have ha6 := fasc_walk A6 fs c6 _ (by omega) (a6.later hb0)
  have ha7 := fasc_walk A7 st c7 _ (by omega) (a7.later hb0)
  have hst0 := fun (h : 1 ≤ n ∧ n ≤ sl) => cstarts_walk z co pa n A4 n4 c4 mm A6 n6 c6 A7 n7 c7 A8 n8 c8 ss d sl b m _ h8 m8 h hsl.2 (a8.later hb0)
  rw [h4] at hpt
  rw [h6] at ha6
  rw [h7] at ha7
  have hE : clsEx d sl k (z, co, pa, n, ps, mm, fs, st, ss) = if codeB z = false then 10 else if codeB co = false then 10 else if codeB pa = false then 10 else if n < 1 then 3 else if sl < n then 3 else if patsE k ps ≠ 0 then patsE k ps else if mm < 0 then 3 else if 9999 < mm then 3 else if 8 < n6 then 2 else if 8 < n7 then 2 else if ascTo fs n6 = false then 10 else if ascTo st n7 = false then 10 else if 24 < n8 then 2 else if startsTo d sl n ss n8 = false then 14 else 0 := by
    unfold clsEx
    dsimp only
    rw [h6, h7, h8]
  rw [hE]
  clear hE a4 a6 a7 a8 h4 h6 h7 h8
  obtain ⟨hs1, hs2⟩ := hsl
  cases e0 : codeB z with
  | false =>
    rw [if_pos rfl]
    simp only [e0] at v0
    go_enter Tryz.func58, Tryz.ntmps58
    go_wp2_with (first | (go_at_call 91; first | ((with_reducible refine (v0.out _).mono ?_); rintro e w4 ⟨rfl, rfl⟩) | ((with_reducible refine (v1.out _).mono ?_); rintro e w4 ⟨rfl, rfl⟩) | ((with_reducible refine (v2.out _).mono ?_); rintro e w4 ⟨rfl, rfl⟩)) | (go_at_call 92; (with_reducible refine hpt.mono ?_); rintro e w4 ⟨rfl, rfl⟩) | (go_at_call 93; first | ((with_reducible refine ha6.mono ?_); rintro e w4 ⟨rfl, rfl⟩) | ((with_reducible refine ha7.mono ?_); rintro e w4 ⟨rfl, rfl⟩)) | (go_at_call 94; (with_reducible refine hst.out.mono ?_); rintro e w4 ⟨rfl, hb4⟩))
    all_goals try (exfalso; omega)
    all_goals
      go_ret
      exact ⟨rfl, hb0⟩
  | true =>
    rw [if_neg (by simp)]
    simp only [e0] at v0
    cases e1 : codeB co with
    | false =>
      rw [if_pos rfl]
      simp only [e1] at v1
      go_enter Tryz.func58, Tryz.ntmps58
      go_wp2_with (first | (go_at_call 91; first | ((with_reducible refine (v0.out _).mono ?_); rintro e w4 ⟨rfl, rfl⟩) | ((with_reducible refine (v1.out _).mono ?_); rintro e w4 ⟨rfl, rfl⟩) | ((with_reducible refine (v2.out _).mono ?_); rintro e w4 ⟨rfl, rfl⟩)) | (go_at_call 92; (with_reducible refine hpt.mono ?_); rintro e w4 ⟨rfl, rfl⟩) | (go_at_call 93; first | ((with_reducible refine ha6.mono ?_); rintro e w4 ⟨rfl, rfl⟩) | ((with_reducible refine ha7.mono ?_); rintro e w4 ⟨rfl, rfl⟩)) | (go_at_call 94; (with_reducible refine hst.out.mono ?_); rintro e w4 ⟨rfl, hb4⟩))
      all_goals try (exfalso; omega)
      all_goals
        go_ret
        exact ⟨rfl, hb0⟩
    | true =>
      rw [if_neg (by simp)]
      simp only [e1] at v1
      cases e2 : codeB pa with
      | false =>
        rw [if_pos rfl]
        simp only [e2] at v2
        go_enter Tryz.func58, Tryz.ntmps58
        go_wp2_with (first | (go_at_call 91; first | ((with_reducible refine (v0.out _).mono ?_); rintro e w4 ⟨rfl, rfl⟩) | ((with_reducible refine (v1.out _).mono ?_); rintro e w4 ⟨rfl, rfl⟩) | ((with_reducible refine (v2.out _).mono ?_); rintro e w4 ⟨rfl, rfl⟩)) | (go_at_call 92; (with_reducible refine hpt.mono ?_); rintro e w4 ⟨rfl, rfl⟩) | (go_at_call 93; first | ((with_reducible refine ha6.mono ?_); rintro e w4 ⟨rfl, rfl⟩) | ((with_reducible refine ha7.mono ?_); rintro e w4 ⟨rfl, rfl⟩)) | (go_at_call 94; (with_reducible refine hst.out.mono ?_); rintro e w4 ⟨rfl, hb4⟩))
        all_goals try (exfalso; omega)
        all_goals
          go_ret
          exact ⟨rfl, hb0⟩
      | true =>
        rw [if_neg (by simp)]
        simp only [e2] at v2
        by_cases l1 : n < 1
        · rw [if_pos l1]
          go_enter Tryz.func58, Tryz.ntmps58
          go_wp2_with (first | (go_at_call 91; first | ((with_reducible refine (v0.out _).mono ?_); rintro e w4 ⟨rfl, rfl⟩) | ((with_reducible refine (v1.out _).mono ?_); rintro e w4 ⟨rfl, rfl⟩) | ((with_reducible refine (v2.out _).mono ?_); rintro e w4 ⟨rfl, rfl⟩)) | (go_at_call 92; (with_reducible refine hpt.mono ?_); rintro e w4 ⟨rfl, rfl⟩) | (go_at_call 93; first | ((with_reducible refine ha6.mono ?_); rintro e w4 ⟨rfl, rfl⟩) | ((with_reducible refine ha7.mono ?_); rintro e w4 ⟨rfl, rfl⟩)) | (go_at_call 94; (with_reducible refine hst.out.mono ?_); rintro e w4 ⟨rfl, hb4⟩))
          all_goals try (exfalso; omega)
          all_goals
            go_ret
            exact ⟨rfl, hb0⟩
        · rw [if_neg l1]
          by_cases l2 : sl < n
          · rw [if_pos l2]
            go_enter Tryz.func58, Tryz.ntmps58
            go_wp2_with (first | (go_at_call 91; first | ((with_reducible refine (v0.out _).mono ?_); rintro e w4 ⟨rfl, rfl⟩) | ((with_reducible refine (v1.out _).mono ?_); rintro e w4 ⟨rfl, rfl⟩) | ((with_reducible refine (v2.out _).mono ?_); rintro e w4 ⟨rfl, rfl⟩)) | (go_at_call 92; (with_reducible refine hpt.mono ?_); rintro e w4 ⟨rfl, rfl⟩) | (go_at_call 93; first | ((with_reducible refine ha6.mono ?_); rintro e w4 ⟨rfl, rfl⟩) | ((with_reducible refine ha7.mono ?_); rintro e w4 ⟨rfl, rfl⟩)) | (go_at_call 94; (with_reducible refine hst.out.mono ?_); rintro e w4 ⟨rfl, hb4⟩))
            all_goals try (exfalso; omega)
            all_goals
              go_ret
              exact ⟨rfl, hb0⟩
          · rw [if_neg l2]
            obtain ⟨pe, hpe⟩ : ∃ pe, patsE k ps = pe := ⟨_, rfl⟩
            rw [hpe]
            rw [hpe] at hpt
            replace hpe := hide hpe
            by_cases hp0 : pe = 0
            · subst hp0
              rw [if_neg (by simp)]
              by_cases l3 : mm < 0
              · rw [if_pos l3]
                go_enter Tryz.func58, Tryz.ntmps58
                go_wp2_with (first | (go_at_call 91; first | ((with_reducible refine (v0.out _).mono ?_); rintro e w4 ⟨rfl, rfl⟩) | ((with_reducible refine (v1.out _).mono ?_); rintro e w4 ⟨rfl, rfl⟩) | ((with_reducible refine (v2.out _).mono ?_); rintro e w4 ⟨rfl, rfl⟩)) | (go_at_call 92; (with_reducible refine hpt.mono ?_); rintro e w4 ⟨rfl, rfl⟩) | (go_at_call 93; first | ((with_reducible refine ha6.mono ?_); rintro e w4 ⟨rfl, rfl⟩) | ((with_reducible refine ha7.mono ?_); rintro e w4 ⟨rfl, rfl⟩)) | (go_at_call 94; (with_reducible refine hst.out.mono ?_); rintro e w4 ⟨rfl, hb4⟩))
                all_goals try (exfalso; omega)
                all_goals
                  go_ret
                  exact ⟨rfl, hb0⟩
              · rw [if_neg l3]
                by_cases l4 : 9999 < mm
                · rw [if_pos l4]
                  go_enter Tryz.func58, Tryz.ntmps58
                  go_wp2_with (first | (go_at_call 91; first | ((with_reducible refine (v0.out _).mono ?_); rintro e w4 ⟨rfl, rfl⟩) | ((with_reducible refine (v1.out _).mono ?_); rintro e w4 ⟨rfl, rfl⟩) | ((with_reducible refine (v2.out _).mono ?_); rintro e w4 ⟨rfl, rfl⟩)) | (go_at_call 92; (with_reducible refine hpt.mono ?_); rintro e w4 ⟨rfl, rfl⟩) | (go_at_call 93; first | ((with_reducible refine ha6.mono ?_); rintro e w4 ⟨rfl, rfl⟩) | ((with_reducible refine ha7.mono ?_); rintro e w4 ⟨rfl, rfl⟩)) | (go_at_call 94; (with_reducible refine hst.out.mono ?_); rintro e w4 ⟨rfl, hb4⟩))
                  all_goals try (exfalso; omega)
                  all_goals
                    go_ret
                    exact ⟨rfl, hb0⟩
                · rw [if_neg l4]
                  by_cases l5 : 8 < n6
                  · rw [if_pos l5]
                    have l5i : (8 : Int) < (n6 : Int) := by omega
                    go_enter Tryz.func58, Tryz.ntmps58
                    go_wp2_with (first | (go_at_call 91; first | ((with_reducible refine (v0.out _).mono ?_); rintro e w4 ⟨rfl, rfl⟩) | ((with_reducible refine (v1.out _).mono ?_); rintro e w4 ⟨rfl, rfl⟩) | ((with_reducible refine (v2.out _).mono ?_); rintro e w4 ⟨rfl, rfl⟩)) | (go_at_call 92; (with_reducible refine hpt.mono ?_); rintro e w4 ⟨rfl, rfl⟩) | (go_at_call 93; first | ((with_reducible refine ha6.mono ?_); rintro e w4 ⟨rfl, rfl⟩) | ((with_reducible refine ha7.mono ?_); rintro e w4 ⟨rfl, rfl⟩)) | (go_at_call 94; (with_reducible refine hst.out.mono ?_); rintro e w4 ⟨rfl, hb4⟩))
                    all_goals try (exfalso; omega)
                    all_goals
                      go_ret
                      exact ⟨rfl, hb0⟩
                  · rw [if_neg l5]
                    have l5i : ¬ (8 : Int) < (n6 : Int) := by omega
                    by_cases l6 : 8 < n7
                    · rw [if_pos l6]
                      have l6i : (8 : Int) < (n7 : Int) := by omega
                      go_enter Tryz.func58, Tryz.ntmps58
                      go_wp2_with (first | (go_at_call 91; first | ((with_reducible refine (v0.out _).mono ?_); rintro e w4 ⟨rfl, rfl⟩) | ((with_reducible refine (v1.out _).mono ?_); rintro e w4 ⟨rfl, rfl⟩) | ((with_reducible refine (v2.out _).mono ?_); rintro e w4 ⟨rfl, rfl⟩)) | (go_at_call 92; (with_reducible refine hpt.mono ?_); rintro e w4 ⟨rfl, rfl⟩) | (go_at_call 93; first | ((with_reducible refine ha6.mono ?_); rintro e w4 ⟨rfl, rfl⟩) | ((with_reducible refine ha7.mono ?_); rintro e w4 ⟨rfl, rfl⟩)) | (go_at_call 94; (with_reducible refine hst.out.mono ?_); rintro e w4 ⟨rfl, hb4⟩))
                      all_goals try (exfalso; omega)
                      all_goals
                        go_ret
                        exact ⟨rfl, hb0⟩
                    · rw [if_neg l6]
                      have l6i : ¬ (8 : Int) < (n7 : Int) := by omega
                      cases e6 : ascTo fs n6 with
                      | false =>
                        rw [if_pos rfl]
                        simp only [e6] at ha6
                        go_enter Tryz.func58, Tryz.ntmps58
                        go_wp2_with (first | (go_at_call 91; first | ((with_reducible refine (v0.out _).mono ?_); rintro e w4 ⟨rfl, rfl⟩) | ((with_reducible refine (v1.out _).mono ?_); rintro e w4 ⟨rfl, rfl⟩) | ((with_reducible refine (v2.out _).mono ?_); rintro e w4 ⟨rfl, rfl⟩)) | (go_at_call 92; (with_reducible refine hpt.mono ?_); rintro e w4 ⟨rfl, rfl⟩) | (go_at_call 93; first | ((with_reducible refine ha6.mono ?_); rintro e w4 ⟨rfl, rfl⟩) | ((with_reducible refine ha7.mono ?_); rintro e w4 ⟨rfl, rfl⟩)) | (go_at_call 94; (with_reducible refine hst.out.mono ?_); rintro e w4 ⟨rfl, hb4⟩))
                        all_goals try (exfalso; omega)
                        all_goals
                          go_ret
                          exact ⟨rfl, hb0⟩
                      | true =>
                        rw [if_neg (by simp)]
                        simp only [e6] at ha6
                        cases e7 : ascTo st n7 with
                        | false =>
                          rw [if_pos rfl]
                          simp only [e7] at ha7
                          go_enter Tryz.func58, Tryz.ntmps58
                          go_wp2_with (first | (go_at_call 91; first | ((with_reducible refine (v0.out _).mono ?_); rintro e w4 ⟨rfl, rfl⟩) | ((with_reducible refine (v1.out _).mono ?_); rintro e w4 ⟨rfl, rfl⟩) | ((with_reducible refine (v2.out _).mono ?_); rintro e w4 ⟨rfl, rfl⟩)) | (go_at_call 92; (with_reducible refine hpt.mono ?_); rintro e w4 ⟨rfl, rfl⟩) | (go_at_call 93; first | ((with_reducible refine ha6.mono ?_); rintro e w4 ⟨rfl, rfl⟩) | ((with_reducible refine ha7.mono ?_); rintro e w4 ⟨rfl, rfl⟩)) | (go_at_call 94; (with_reducible refine hst.out.mono ?_); rintro e w4 ⟨rfl, hb4⟩))
                          all_goals try (exfalso; omega)
                          all_goals
                            go_ret
                            exact ⟨rfl, hb0⟩
                        | true =>
                          rw [if_neg (by simp)]
                          simp only [e7] at ha7
                          by_cases l7 : 24 < n8
                          · rw [if_pos l7]
                            have l7i : (24 : Int) < (n8 : Int) := by omega
                            go_enter Tryz.func58, Tryz.ntmps58
                            go_wp2_with (first | (go_at_call 91; first | ((with_reducible refine (v0.out _).mono ?_); rintro e w4 ⟨rfl, rfl⟩) | ((with_reducible refine (v1.out _).mono ?_); rintro e w4 ⟨rfl, rfl⟩) | ((with_reducible refine (v2.out _).mono ?_); rintro e w4 ⟨rfl, rfl⟩)) | (go_at_call 92; (with_reducible refine hpt.mono ?_); rintro e w4 ⟨rfl, rfl⟩) | (go_at_call 93; first | ((with_reducible refine ha6.mono ?_); rintro e w4 ⟨rfl, rfl⟩) | ((with_reducible refine ha7.mono ?_); rintro e w4 ⟨rfl, rfl⟩)) | (go_at_call 94; (with_reducible refine hst.out.mono ?_); rintro e w4 ⟨rfl, hb4⟩))
                            all_goals try (exfalso; omega)
                            all_goals
                              go_ret
                              exact ⟨rfl, hb0⟩
                          · rw [if_neg l7]
                            have l7i : ¬ (24 : Int) < (n8 : Int) := by omega
                            have hst := hst0 ⟨by omega, by omega⟩
                            clear hst0
                            cases e8 : startsTo d sl n ss n8 with
                            | false =>
                              rw [if_pos rfl]
                              rw [e8] at hst
                              replace hst := hide hst
                              go_enter Tryz.func58, Tryz.ntmps58
                              go_wp2_with (first | (go_at_call 91; first | ((with_reducible refine (v0.out _).mono ?_); rintro e w4 ⟨rfl, rfl⟩) | ((with_reducible refine (v1.out _).mono ?_); rintro e w4 ⟨rfl, rfl⟩) | ((with_reducible refine (v2.out _).mono ?_); rintro e w4 ⟨rfl, rfl⟩)) | (go_at_call 92; (with_reducible refine hpt.mono ?_); rintro e w4 ⟨rfl, rfl⟩) | (go_at_call 93; first | ((with_reducible refine ha6.mono ?_); rintro e w4 ⟨rfl, rfl⟩) | ((with_reducible refine ha7.mono ?_); rintro e w4 ⟨rfl, rfl⟩)) | (go_at_call 94; (with_reducible refine hst.out.mono ?_); rintro e w4 ⟨rfl, hb4⟩))
                              all_goals try (exfalso; omega)
                              all_goals
                                go_ret
                                exact ⟨rfl, ext_trans hb0 hb4⟩
                            | true =>
                              rw [if_neg (by simp)]
                              rw [e8] at hst
                              replace hst := hide hst
                              go_enter Tryz.func58, Tryz.ntmps58
                              go_wp2_with (first | (go_at_call 91; first | ((with_reducible refine (v0.out _).mono ?_); rintro e w4 ⟨rfl, rfl⟩) | ((with_reducible refine (v1.out _).mono ?_); rintro e w4 ⟨rfl, rfl⟩) | ((with_reducible refine (v2.out _).mono ?_); rintro e w4 ⟨rfl, rfl⟩)) | (go_at_call 92; (with_reducible refine hpt.mono ?_); rintro e w4 ⟨rfl, rfl⟩) | (go_at_call 93; first | ((with_reducible refine ha6.mono ?_); rintro e w4 ⟨rfl, rfl⟩) | ((with_reducible refine ha7.mono ?_); rintro e w4 ⟨rfl, rfl⟩)) | (go_at_call 94; (with_reducible refine hst.out.mono ?_); rintro e w4 ⟨rfl, hb4⟩))
                              all_goals try (exfalso; omega)
                              all_goals
                                go_ret
                                exact ⟨rfl, ext_trans hb0 hb4⟩
            · rw [if_pos hp0]
              have hpi : ((pe : Int) != 0) = true := by simp; omega
              have hpj : ¬ (pe : Int) = 0 := by omega
              replace hp0 := hide hp0
              go_enter Tryz.func58, Tryz.ntmps58
              go_wp2_with (first | (go_at_call 91; first | ((with_reducible refine (v0.out _).mono ?_); rintro e w4 ⟨rfl, rfl⟩) | ((with_reducible refine (v1.out _).mono ?_); rintro e w4 ⟨rfl, rfl⟩) | ((with_reducible refine (v2.out _).mono ?_); rintro e w4 ⟨rfl, rfl⟩)) | (go_at_call 92; (with_reducible refine hpt.mono ?_); rintro e w4 ⟨rfl, rfl⟩) | (go_at_call 93; first | ((with_reducible refine ha6.mono ?_); rintro e w4 ⟨rfl, rfl⟩) | ((with_reducible refine ha7.mono ?_); rintro e w4 ⟨rfl, rfl⟩)) | (go_at_call 94; (with_reducible refine hst.out.mono ?_); rintro e w4 ⟨rfl, hb4⟩))
              all_goals try (exfalso; omega)
              all_goals
                go_ret
                exact ⟨rfl, hb0⟩
end Go.Proofs.YtimcdikeajbabaaGreatDoor

namespace Go.Proofs.YtimcdikeajbabaaGreatDoor
open Go.RowKit
set_option maxRecDepth 100000

theorem codesK_get {l : List Cls} {j : Nat} {x : Cls} (h : l[j]? = some x) : (codesK l)[j]? = some x.1 := by unfold codesK; rw [List.getElem?_map, h]; rfl
set_option maxHeartbeats 1000000 in
theorem khas1_walk (q : Nine) (t : ByteArray) (x : Nat) (w : World) (hc : w.cell? ⟨x, 0, none⟩ = some (.string t)) :
    Calls Tryz.prog 96 #[q.val, .pointer (some ⟨x, 0, none⟩)] w fun e w' => e = .returned (.bool (q.z.toList == t.toList)) ∧ Below w.heap.size w w' := by
  have hlt := World.block_lt_of_cell? _ _ hc
  unfold Nine.val
  go_enter Tryz.func96, Tryz.ntmps96
  go_wp2
  go_ret
  exact ⟨rfl, (by repeat (first | exact Below.refl _ _ | refine ext_alloc ?_ _ | refine ext_drewN ?_ _ | refine ext_drew ?_ | refine ext_trans ?_ (by assumption)))⟩
set_option maxHeartbeats 4000000 in
theorem kidx_walk (A : Option Addr) (l : List Cls) (c g : Nat) (code : ByteArray) (w : World) (hn : l.length ≤ 9223372036854775807) (h : At kCls AnyB w A l) (hc : w.cell? ⟨g, 0, none⟩ = some (.string code)) :
    Calls Tryz.prog 137 #[.slice A l.length c, .func (.func 96) #[] #[.pointer (some ⟨g, 0, none⟩)]] w fun e w' => e = .returned (.int .i64 (idxS code (codesK l))) ∧ Below w.heap.size w w' := by
  have eg : ∀ args w, (callFunc 96 args).run Tryz.prog w = .ok (.enter 96 args) w := enters_of Tryz.func96 (by kernel_rfl) rfl
  obtain ⟨N, hnn⟩ : ∃ N, l.length = N := ⟨_, rfl⟩
  have hnl : (codesK l).length = N := by rw [← hnn]; exact List.length_map _
  rw [hnn] at hn ⊢
  replace hnn := hide hnn
  replace hnl := hide hnl
  go_enter Tryz.func137, Tryz.ntmps137
  go_wp2
  go_loopw [5, 8] (fun _ i wr => ∃ j : Nat, j ≤ N ∧ i = .int .i64 j ∧ Hid (∀ y ∈ (codesK l).take j, (y.toList == code.toList) = false) ∧ Below w.heap.size w wr) (fun _ i _ => N - (intOf i).toNat)
  case atStart => exact ⟨0, Nat.zero_le _, rfl, hide (fun y hy => by simp at hy), Below.refl _ _⟩
  case round =>
    obtain ⟨j, hj, rfl, ho, hb⟩ := hrel
    by_cases hlt : j < N
    · obtain ⟨x, hx⟩ : ∃ x, l[j]? = some x := ⟨_, List.getElem?_eq_getElem (by rw [hnn.out]; exact hlt)⟩
      obtain ⟨b, off, A4, c4, A6, c6, A7, c7, A8, c8, rfl, -, hbb, hq9, -, -, -, -, -⟩ := (h.later hb).clsF hx
      have hxn := codesK_get hx
      have hcall := khas1_walk (nineOf x A4 c4 A6 c6 A7 c7 A8 c8) code g wr (cell_later hb hc)
      obtain ⟨q, hqq⟩ : ∃ q, nineOf x A4 c4 A6 c6 A7 c7 A8 c8 = q := ⟨_, rfl⟩
      have hz : q.z = x.1 := by rw [← hqq]; rfl
      rw [hqq] at hq9 hcall
      rw [← hz] at hxn
      clear hqq hz
      unfold Nine.val at hcall
      obtain ⟨q0, q1, q2, q3, q4, q5, q6, q7, q8⟩ := hq9
      have hj0 : (0 : Int) ≤ (j : Int) := by omega
      have hj1 : (j : Int) < (N : Int) := by omega
      cases hq : (q.z.toList == code.toList) with
      | true =>
        have hit := hide (idxS_hit hxn ho.out hq)
        rw [hq] at hcall
        clear hx h ho hxn hq hc
        go_wp2_with (go_at_fn 96; refine hcall.mono ?_; rintro e w' ⟨rfl, hb2⟩)
        go_ret
        exact ⟨by rw [hit.out]; rfl, ext_trans hb hb2⟩
      | false =>
        have miss := hide (take_miss hxn ho.out hq)
        rw [hq] at hcall
        clear hx h ho hxn hq hc
        go_wp2_with (go_at_fn 96; refine hcall.mono ?_; rintro e w' ⟨rfl, hb2⟩)
        go_roundw
        case rel => exact ⟨j + 1, by omega, by go_num, miss, ext_trans hb hb2⟩
        case measure => simp [intOf]; omega
    · obtain rfl : j = N := by omega
      have hall : Hid (idxS code (codesK l) = -1) := hide (idxS_none fun y hy => ho.out y (by rw [List.take_of_length_le (by rw [hnl.out]; exact Nat.le_refl _)]; exact hy))
      clear h
      go_wp2
      go_ret
      exact ⟨by rw [hall.out]; rfl, hb⟩
set_option maxHeartbeats 2000000 in
theorem kcon_walk (A : Option Addr) (l : List Cls) (c g : Nat) (code : ByteArray) (w : World) (hn : l.length ≤ 9223372036854775807) (h : At kCls AnyB w A l) (hc : w.cell? ⟨g, 0, none⟩ = some (.string code)) :
    Calls Tryz.prog 95 #[.slice A l.length c, .func (.func 96) #[] #[.pointer (some ⟨g, 0, none⟩)]] w fun e w' => e = .returned (.bool (decide (0 ≤ idxS code (codesK l)))) ∧ Below w.heap.size w w' := by
  have hcall := kidx_walk A l c g code w hn h hc
  clear h
  go_enter Tryz.func95, Tryz.ntmps95
  go_wp2_with fail
  refine hcall.mono ?_
  rintro e w' ⟨rfl, hb⟩
  go_wp2
  go_ret
  exact ⟨rfl, hb⟩
set_option maxHeartbeats 2000000 in
theorem khas_walk (A : Option Addr) (l : List Cls) (c : Nat) (code : ByteArray) (w : World) (hn : l.length ≤ 9223372036854775807) (h : At kCls AnyB w A l) :
    Calls Tryz.prog 59 #[.slice A l.length c, .string code] w fun e w' => e = .returned (.bool (decide (0 ≤ idxS code (codesK l)))) ∧ Below w.heap.size w w' := by
  have hb0 : Below w.heap.size w (w.alloc (.cells #[.string code] 9)) := ext_alloc (Below.refl _ _) _
  have hcall := kcon_walk A l c w.heap.size code _ hn (h.later hb0) (by simp)
  clear h
  go_enter Tryz.func59, Tryz.ntmps59
  go_wp2_with fail
  refine hcall.mono ?_
  rintro e w' ⟨rfl, hb⟩
  go_wp2
  go_ret
  exact ⟨rfl, ext_trans hb0 hb⟩
end Go.Proofs.YtimcdikeajbabaaGreatDoor

namespace Go.Proofs.YtimcdikeajbabaaGreatDoor
open Go.RowKit
set_option maxRecDepth 100000

theorem noted_or {pr0 : Option Prob} {line col a e : Int} : noted (orP pr0 (probOf line col a)) (decide (e ≠ 0)) (line, col, e) = orP pr0 (probOf line col (if a = 0 then e else a)) := by
  cases pr0 with
  | none => exact noted_prob line col a e
  | some p => rfl
/-- The error of doubles behind another. -/
def dupE (a : Int) (vs : List Int) (i : Nat) : Int := if a ≠ 0 then a else if freshTo (0 : Int) vs i = false then 11 else 0
theorem dupE_hit {a : Int} {vs : List Int} {i : Nat} {x : Int} (hx : vs[i]? = some x) (hm : x ∈ vs.take i) : dupE a vs (i + 1) = if dupE a vs i = 0 then 11 else dupE a vs i := by
  have hf : freshTo (0 : Int) vs (i + 1) = false := by
    rw [freshTo, List.getD_eq_getElem?_getD, hx]
    show (_ && !decide (x ∈ vs.take i)) = false
    rw [decide_eq_true hm]; simp
  unfold dupE
  rw [hf]
  by_cases ha : a = 0
  · subst ha
    rw [if_neg (show ¬ ((0 : Int) ≠ 0) from fun h => h rfl)]
    simp only [ne_eq, not_true_eq_false, if_false]
    cases freshTo (0 : Int) vs i <;> simp
  · rw [if_pos ha, if_pos ha, if_neg ha]
theorem dupE_miss {a : Int} {vs : List Int} {i : Nat} {x : Int} (hx : vs[i]? = some x) (hm : x ∉ vs.take i) : dupE a vs (i + 1) = dupE a vs i := by
  have hf : freshTo (0 : Int) vs (i + 1) = freshTo 0 vs i := by
    rw [freshTo, List.getD_eq_getElem?_getD, hx]
    show (_ && !decide (x ∈ vs.take i)) = _
    rw [decide_eq_false hm]; simp
  unfold dupE
  rw [hf]
theorem slashOf_len (s : ByteArray) : (slashOf s).length ≤ s.size + 1 := by
  unfold slashOf
  rw [splitB_len]
  have := Lib.countB_le ⟨#[47]⟩ (Nat.le_refl 1) _ s (Nat.le_refl _)
  omega
theorem slashOf_mem (s : ByteArray) : ∀ z ∈ slashOf s, z.size ≤ s.size := fun _ hz => splitB_mem rfl hz
def PatAny (g : Nat) (line : Int) (F : Option Addr) (fs : List Fld) (c k : Nat) (n : Int) (pr : Option Prob) (w : World) (e : Ending) (w' : World) : Prop :=
  ∃ (k' : Nat) (ps : List Int) (v : Value) (pr' : Option Prob), e = .returned v ∧ Own kInt 3 [] 0 w.heap.size w' v ps ∧ Scan w' g line F fs.length c k' pr' ∧ Only g w w' ∧ 1 ≤ k' ∧ k' ≤ k + 1 ∧
    (pr = none → k' = k + 1 ∧ ps = (slashOf (textAt fs k)).map (patV n) ∧ pr' = probOf line (colAt fs (k + 1)) (patsRE n (slashOf (textAt fs k)))) ∧ (∀ p, pr = some p → pr' = some p)
theorem Own.noteT {α : Type} {K : Kind α} {t : TypeId} {g B : Nat} {w w' : World} {v : Value} {l : List α} (h : Own K t [] 0 B w v l) (ho : Only g w w') (hg : g < B) : Own K t [] 0 B w' v l :=
  h.kept ho (by
    cases hv : v.ownBlock with
    | none => exact .inl rfl
    | some y => exact .inr fun e => by injection e with e; have := (h.lt y hv).1; omega) (fun y _ => ⟨Nat.zero_le _, fun h => by obtain ⟨-, cs, t', -, ht⟩ := h; simp at ht⟩)
/-- The walk from behind Next on: the text is known, a problem may be noted. -/
def PatLoop (n : Int) (zs : List ByteArray) (B : Nat) (w1 : World) (g : Nat) (line col : Int) (F : Option Addr) (q c k : Nat) (pr0 : Option Prob) (v i : Value) (wr : World) : Prop :=
  ∃ j : Nat, j ≤ zs.length ∧ i = .int .i64 j ∧ Own kInt 3 [] 0 B wr v ((zs.take j).map (patV n)) ∧ Scan wr g line F q c k (orP pr0 (probOf line col (firstE (patE n) (zs.take j)))) ∧ Only g w1 wr
def DupLoop (vs : List Int) (a : Int) (w2 : World) (g : Nat) (line col : Int) (F : Option Addr) (q c k : Nat) (pr0 : Option Prob) (i : Value) (wr : World) : Prop :=
  ∃ j : Nat, j ≤ vs.length ∧ i = .int .i64 j ∧ Scan wr g line F q c k (orP pr0 (probOf line col (dupE a vs j))) ∧ Only g w2 wr
theorem pats_total (n : Int) (zs : List ByteArray) : dupE (if 8 < zs.length then (if firstE (patE n) zs = 0 then 2 else firstE (patE n) zs) else firstE (patE n) zs) (zs.map (patV n)) zs.length = patsRE n zs := by
  unfold dupE patsRE
  by_cases h0 : firstE (patE n) zs = 0
  · by_cases h8 : 8 < zs.length
    · simp [h0, h8]
    · simp [h0, h8]
  · by_cases h8 : 8 < zs.length
    · simp [h0, h8]
    · simp [h0, h8]
theorem next_any (B g : Nat) (line : Int) (F : Option Addr) (fs : List Fld) (c k : Nat) (pr : Option Prob) (w : World) (h : Scan w g line F fs.length c k pr) (hF : FieldsAt B w F fs) (h2 : k < fs.length) (hm : fs.length ≤ 1000) (hB : B ≤ g) (h1 : ∀ p, pr = some p → 1 ≤ k) (hsz : (textAt fs k).size < 1073741824) :
    Calls Tryz.prog 101 #[.pointer (some ⟨g, 0, none⟩)] w fun e w' => ∃ (s : ByteArray) (k' : Nat), e = .returned (.string s) ∧ Scan w' g line F fs.length c k' pr ∧ Only g w w' ∧ 1 ≤ k' ∧ k' ≤ k + 1 ∧ s.size < 1073741824 ∧ (pr = none → k' = k + 1 ∧ s = textAt fs k) := by
  cases pr with
  | none => exact (fnext_go B g line F fs c k w h hF h2 hm hB).mono fun e w' ⟨he, hs, ho⟩ => ⟨_, _, he, hs, ho, by omega, Nat.le_refl _, hsz, fun _ => ⟨rfl, rfl⟩⟩
  | some p => exact (fnext_stop g line F fs.length c k p w h).mono fun e w' ⟨he, hw⟩ => ⟨_, k, he, hw ▸ h, hw ▸ Only.refl g w, h1 p rfl, by omega, by decide, fun hp => by cases hp⟩
theorem apd_intsP : Apd Tryz.prog 36 3 1 8 := apd Tryz.underlying36 (z := .int .i64 0) (by kernel_rfl) rfl
set_option maxHeartbeats 4000000 in
theorem readPats_walk (B g : Nat) (line : Int) (F : Option Addr) (fs : List Fld) (c k : Nat) (n : Int) (pr : Option Prob) (w : World) (hS : Std w) (h : Scan w g line F fs.length c k pr) (hF : FieldsAt B w F fs) (h2 : k < fs.length) (hm : fs.length ≤ 1000) (hB : B ≤ g) (hG : 12 ≤ B) (h1 : ∀ p, pr = some p → 1 ≤ k) (hsz : (textAt fs k).size < 1073741824) :
    Calls Tryz.prog 69 #[.pointer (some ⟨g, 0, none⟩), .int .i64 n] w fun e w' => PatAny g line F fs c k n pr w e w' := by
  have hgl := h.lt
  go_enter Tryz.func69, Tryz.ntmps69
  go_wp2_with fail
  refine (next_any B g line F fs c k pr w h hF h2 hm hB h1 hsz).mono ?_
  rintro e w1 ⟨s, k1, rfl, hs1, ho1, i1, j1, hs30, hnone⟩
  obtain ⟨zs, hz⟩ : ∃ zs, slashOf s = zs := ⟨_, rfl⟩
  have hzl : zs.length ≤ 1073741825 := by have := slashOf_len s; rw [hz] at this; omega
  have hzm : ∀ z ∈ zs, z.size < 1073741824 := by have := slashOf_mem s; rw [hz] at this; intro z hh; have := this z hh; omega
  have hS1 := ho1.std hS (by omega)
  have hF1 := hF.only ho1 hB (by omega)
  have hz1 := ho1.size
  clear h hF hS
  go_wp2_with fail
  refine (split_walk' 47 s zs hz (by omega) w1 hS1).mono ?_
  rintro e w2 ⟨rfl, hb2, hcl⟩
  have hs2 := hs1.later hb2
  have ho2 : Only g w w2 := Only.later ho1 hb2
  have hS2 := hS1.after hb2
  have hF2 := hF1.below (hb2.mono (by omega))
  obtain ⟨pb, hpb⟩ : ∃ pb, w1.heap.size = pb := ⟨_, rfl⟩
  rw [hpb] at hcl ⊢
  have hz2 := hb2.size
  obtain ⟨len, hlen⟩ : ∃ len, zs.length = len := ⟨_, rfl⟩
  rw [hlen] at hzl ⊢
  obtain ⟨col, hcol⟩ : ∃ col, colAt fs k1 = col := ⟨_, rfl⟩
  have hgb : g < pb := by omega
  have hpl : 0 < len → pb < w2.heap.size := fun hl => by
    obtain ⟨z, hzz⟩ : ∃ z, zs[0]? = some z := ⟨_, List.getElem?_eq_getElem (by omega)⟩
    exact World.block_lt_of_cell? _ _ (hcl 0 z hzz)
  replace hlen := hide hlen
  replace hcol := hide hcol
  replace hz := hide hz
  replace hzm := hide hzm
  replace hcl := hide hcl
  replace hpb := hide hpb
  replace hnone := hide hnone
  clear hs1 ho1 hS1 hF1 hb2
  go_wp2_with fail
  go_loopw [5, 16] (fun v i wr => PatLoop n zs w2.heap.size w2 g line col F fs.length c k1 pr v i wr) (fun _ i _ => len - (intOf i).toNat)
  case atStart => exact ⟨0, Nat.zero_le _, rfl, Own.nil, by rw [List.take_zero]; show Scan w2 g line F fs.length c k1 (orP pr (probOf line col 0)); cases pr <;> exact hs2, World.grownBy.refl _ _⟩
  case round =>
    obtain ⟨j, hj, rfl, hown, hsr, hor⟩ := hrel
    rw [hlen.out] at hj
    by_cases hlt : j < len
    · obtain ⟨z, hzj⟩ : ∃ z, zs[j]? = some z := ⟨_, List.getElem?_eq_getElem (by rw [hlen.out]; exact hlt)⟩
      have hzz := hzm.out z (List.mem_of_getElem? hzj)
      have hpw : pb < w2.heap.size := hpl (by omega)
      have hcj := (hor.cell hpw (by omega)).trans (hcl.out j z hzj)
      have hSr := hor.std hS2 (by omega)
      have hFr := hF2.only hor hB (by omega)
      have hwr := hor.size
      have hpr : pb < wr.heap.size := by omega
      have hj0 : (0 : Int) ≤ (j : Int) := by omega
      have hj1 : (j : Int) < (len : Int) := by omega
      obtain ⟨p, hp⟩ : ∃ p, (parseV z n).1 = p := ⟨_, rfl⟩
      obtain ⟨er, her⟩ : ∃ er, (parseV z n).2 = er := ⟨_, rfl⟩
      have hts : Hid ((zs.take (j + 1)).map (patV n) = (zs.take j).map (patV n) ++ [(p : Int)]) := hide ((take_map _ zs j z hzj).trans (by unfold patV; rw [hp]))
      have hes : Hid (firstE (patE n) (zs.take (j + 1)) = if firstE (patE n) (zs.take j) = 0 then (er : Int) else firstE (patE n) (zs.take j)) := hide ((take_first _ zs j z hzj).trans (by unfold patE; rw [her]))
      have hcall := wsParse_walk z n hzz wr hSr
      rw [hp, her] at hcall
      obtain ⟨ps, hps⟩ : ∃ ps, (zs.take j).map (patV n) = ps := ⟨_, rfl⟩
      have htl : ps.length ≤ j := by rw [← hps, List.length_map]; exact List.length_take_le _ _
      rw [hps] at hown hts
      obtain ⟨e0, he0⟩ : ∃ e0, firstE (patE n) (zs.take j) = e0 := ⟨_, rfl⟩
      rw [he0] at hsr hes
      clear hps he0 hzj hp her
      go_wp2_with fail
      refine hcall.mono ?_
      rintro e w3 ⟨rfl, hb3⟩
      have hs3 := hsr.later hb3
      have hF3 := hFr.below (hb3.mono (by omega))
      have hown3 := hown.later hb3
      have ho3 := hor.later hb3
      have hz3 := hb3.size
      clear hcall hown hsr hor hFr hSr hb3 hcj
      go_wp2_with fail
      refine (fail_walk B g line F fs c k1 _ er w3 hs3 hF3 i1 (by omega) hm).mono ?_
      rintro e w4 ⟨rfl, hs4, ho4⟩
      rw [hcol.out, noted_or] at hs4
      have hown4 := hown3.noteT ho4 (by omega)
      have ho4' := ho3.trans ho4
      have hz4 := ho4.size
      clear hown3 hs3 ho3 ho4 hF3
      go_wp2_with (at_builtin; refine wpList_own (K := kInt) (t := 3) (ts := []) (B0 := 0) (B := w2.heap.size) rfl _ _ rfl apd_intsP (by decide) rfl (hown4.alloc _) (by omega) (by decide) ⟨w4.heap.size, 0, none⟩ 1 rfl (p : Int) [.int .i64 (p : Int)] rfl (World.news_of_block (cs := #[.int .i64 (p : Int)]) (t := 3) (fr := (0, 0)) (heap_alloc_new _ _)) (by decide) (Nat.zero_le _) (by rw [World.size_alloc]; omega) ?_; intro v' w5 hown5 hgrow)
      have hfar : some g ≠ u5.ownBlock := fun e => by have := (hown4.lt g e.symm).1; omega
      have hs5 : Scan w5 g line F fs.length c k1 (orP pr (probOf line col (if e0 = 0 then (er : Int) else e0))) := by
        obtain ⟨vss, e1, e2, e3⟩ := hown4
        exact (hs4.later (ext_alloc (Below.refl _ _) _)).grown (e2.alloc _) hgrow hfar (by decide)
      have ho5 : Only g w2 w5 := (Only.later ho4' (ext_alloc (Below.refl _ _) _)).trans_own hgrow (fun x e => (hown4.lt x e).1)
      clear hown4 hs4 ho4' hgrow hfar
      go_wp2
      go_roundw
      case rel => exact ⟨j + 1, by rw [hlen.out]; omega, by go_num, by rw [hts.out]; exact hown5, by rw [hes.out]; exact hs5, ho5⟩
      case measure => simp [intOf]; omega
    · obtain rfl : j = len := by omega
      have hall : zs.take j = zs := by rw [← hlen.out]; exact List.take_length
      rw [hall] at hown hsr
      have htot0 := pats_total n zs
      obtain ⟨E0, hE0⟩ : ∃ E0, firstE (patE n) zs = E0 := ⟨_, rfl⟩
      obtain ⟨vs, hvs⟩ : ∃ vs, zs.map (patV n) = vs := ⟨_, rfl⟩
      have hvl : vs.length = j := by rw [← hvs, List.length_map]; exact hlen.out
      rw [hE0] at hsr htot0
      rw [hvs] at hown htot0
      rw [hlen.out] at htot0
      have hFr := hF2.only hor hB (by omega)
      have how := ho2.trans hor
      have hwr := hor.size
      obtain ⟨A6, c6, rfl, hcap, -⟩ := hown.any
      rw [hvl] at hown hcap ⊢
      have hvs' : vs = (slashOf s).map (patV n) := by rw [hz.out, hvs]
      replace hvs := hide hvs'
      replace hvl := hide hvl
      clear hvs' hall hE0 hcl hzm
      by_cases h8 : 8 < j
      · have h8i : (8 : Int) < (j : Int) := by omega
        rw [if_pos h8] at htot0
        go_wp2_with fail
        refine (fail_walk B g line F fs c k1 _ 2 _ hsr hFr i1 (by omega) hm).mono ?_
        rintro e wq ⟨rfl, hsq, ho3⟩
        rw [hcol.out, noted_or] at hsq
        have hoq := how.trans ho3
        have hownq := hown.noteT ho3 (by omega)
        have hFq := hFr.only ho3 hB (by omega)
        have hzq := ho3.size
        obtain ⟨a, ha⟩ : ∃ a, (if E0 = 0 then 2 else E0) = a := ⟨_, rfl⟩
        rw [ha] at hsq htot0
        have htot := hide htot0
        clear hown hsr hFr how ho3 ha htot0 hor
        go_wp2_with fail
        (
              go_loopw [41] (fun i W => DupLoop vs a wq g line col F fs.length c k1 pr i W) (fun i _ => j - (intOf i).toNat)
              case atStart => exact ⟨0, Nat.zero_le _, rfl, by
                have e : dupE a vs 0 = a := by unfold dupE; by_cases ha : a = 0; · rw [if_neg (by simp [ha])]; simp [freshTo, ha]
                                               · rw [if_pos ha]
                rw [e]; exact hsq, World.grownBy.refl _ _⟩
              case round =>
                obtain ⟨i, hi, rfl, hsr, hor⟩ := hrel
                rw [hvl.out] at hi
                have hFr := hFq.only hor hB (by omega)
                have hwr := hor.size
                by_cases hlt2 : i < j
                · obtain ⟨x, hx⟩ : ∃ x, vs[i]? = some x := ⟨_, List.getElem?_eq_getElem (by rw [hvl.out]; exact hlt2)⟩
                  have hatr := (hownq.noteT hor (by omega)).any'
                  obtain ⟨vb, vo, rfl, hvg, hvb, x0⟩ := hatr.int hx
                  have hj0 : (0 : Int) ≤ (i : Int) := by omega
                  have hj1 : (i : Int) < (j : Int) := by omega
                  have hic : (i : Int) ≤ (c6 : Int) := by omega
                  have hcon := icontains_walk (some ⟨vb, vo, none⟩) (vs.take i) c6 x wr (by rw [List.length_take]; omega) hatr.take.any
                  rw [List.length_take, hvl.out, Nat.min_eq_left hi] at hcon
                  by_cases hmm : x ∈ vs.take i
                  · have hd := hide (dupE_hit (a := a) hx hmm)
                    rw [decide_eq_true hmm] at hcon
                    clear hx hmm
                    go_wp2_with fail
                    refine hcon.mono ?_
                    rintro e W2 ⟨rfl, rfl⟩
                    go_wp2_with fail
                    refine (fail_walk B g line F fs c k1 _ 11 _ hsr hFr i1 (by omega) hm).mono ?_
                    rintro e W3 ⟨rfl, hs3, ho3⟩
                    rw [hcol.out, noted_or] at hs3
                    have ho4 := hor.trans ho3
                    clear hcon hsr hor ho3
                    go_wp2
                    go_roundw
                    case rel => exact ⟨i + 1, by rw [hvl.out]; omega, by go_num, by rw [hd.out]; exact hs3, ho4⟩
                    case measure => simp [intOf]; omega
                  · have hd := hide (dupE_miss (a := a) hx hmm)
                    rw [decide_eq_false hmm] at hcon
                    clear hx hmm
                    go_wp2_with fail
                    refine hcon.mono ?_
                    rintro e W2 ⟨rfl, rfl⟩
                    go_wp2
                    go_roundw
                    case rel => exact ⟨i + 1, by rw [hvl.out]; omega, by go_num, by rw [hd.out]; exact hsr, hor⟩
                    case measure => simp [intOf]; omega
                · obtain rfl : i = j := by omega
                  have howne := hownq.noteT hor (by omega)
                  have hoe := hoq.trans hor
                  clear hFr hFq
                  go_wp2
                  go_ret
                  exact ⟨k1, vs, _, _, rfl, howne.lower (by omega), hsr, hoe, i1, j1, (fun hp => by
                    obtain ⟨e1, e2⟩ := hnone.out hp
                    subst hp
                    refine ⟨e1, by rw [← e2]; exact hvs.out, ?_⟩
                    rw [← e2, ← e1, hcol.out]
                    show probOf line col (dupE a vs i) = _
                    rw [htot.out, hz.out]), fun p hp => by subst hp; rfl⟩)
      · have h8i : ¬ (8 : Int) < (j : Int) := by omega
        rw [if_neg h8] at htot0
        have hsq := hsr
        have hoq := how
        have hownq := hown
        have hFq := hFr
        obtain ⟨a, ha⟩ : ∃ a, E0 = a := ⟨_, rfl⟩
        rw [ha] at hsq htot0
        have htot := hide htot0
        clear hown hsr hFr how ha htot0 hor
        rename World => wq
        go_wp2_with fail
        (
              go_loopw [41] (fun i W => DupLoop vs a wq g line col F fs.length c k1 pr i W) (fun i _ => j - (intOf i).toNat)
              case atStart => exact ⟨0, Nat.zero_le _, rfl, by
                have e : dupE a vs 0 = a := by unfold dupE; by_cases ha : a = 0; · rw [if_neg (by simp [ha])]; simp [freshTo, ha]
                                               · rw [if_pos ha]
                rw [e]; exact hsq, World.grownBy.refl _ _⟩
              case round =>
                obtain ⟨i, hi, rfl, hsr, hor⟩ := hrel
                rw [hvl.out] at hi
                have hFr := hFq.only hor hB (by omega)
                have hwr := hor.size
                by_cases hlt2 : i < j
                · obtain ⟨x, hx⟩ : ∃ x, vs[i]? = some x := ⟨_, List.getElem?_eq_getElem (by rw [hvl.out]; exact hlt2)⟩
                  have hatr := (hownq.noteT hor (by omega)).any'
                  obtain ⟨vb, vo, rfl, hvg, hvb, x0⟩ := hatr.int hx
                  have hj0 : (0 : Int) ≤ (i : Int) := by omega
                  have hj1 : (i : Int) < (j : Int) := by omega
                  have hic : (i : Int) ≤ (c6 : Int) := by omega
                  have hcon := icontains_walk (some ⟨vb, vo, none⟩) (vs.take i) c6 x wr (by rw [List.length_take]; omega) hatr.take.any
                  rw [List.length_take, hvl.out, Nat.min_eq_left hi] at hcon
                  by_cases hmm : x ∈ vs.take i
                  · have hd := hide (dupE_hit (a := a) hx hmm)
                    rw [decide_eq_true hmm] at hcon
                    clear hx hmm
                    go_wp2_with fail
                    refine hcon.mono ?_
                    rintro e W2 ⟨rfl, rfl⟩
                    go_wp2_with fail
                    refine (fail_walk B g line F fs c k1 _ 11 _ hsr hFr i1 (by omega) hm).mono ?_
                    rintro e W3 ⟨rfl, hs3, ho3⟩
                    rw [hcol.out, noted_or] at hs3
                    have ho4 := hor.trans ho3
                    clear hcon hsr hor ho3
                    go_wp2
                    go_roundw
                    case rel => exact ⟨i + 1, by rw [hvl.out]; omega, by go_num, by rw [hd.out]; exact hs3, ho4⟩
                    case measure => simp [intOf]; omega
                  · have hd := hide (dupE_miss (a := a) hx hmm)
                    rw [decide_eq_false hmm] at hcon
                    clear hx hmm
                    go_wp2_with fail
                    refine hcon.mono ?_
                    rintro e W2 ⟨rfl, rfl⟩
                    go_wp2
                    go_roundw
                    case rel => exact ⟨i + 1, by rw [hvl.out]; omega, by go_num, by rw [hd.out]; exact hsr, hor⟩
                    case measure => simp [intOf]; omega
                · obtain rfl : i = j := by omega
                  have howne := hownq.noteT hor (by omega)
                  have hoe := hoq.trans hor
                  clear hFr hFq
                  go_wp2
                  go_ret
                  exact ⟨k1, vs, _, _, rfl, howne.lower (by omega), hsr, hoe, i1, j1, (fun hp => by
                    obtain ⟨e1, e2⟩ := hnone.out hp
                    subst hp
                    refine ⟨e1, by rw [← e2]; exact hvs.out, ?_⟩
                    rw [← e2, ← e1, hcol.out]
                    show probOf line col (dupE a vs i) = _
                    rw [htot.out, hz.out]), fun p hp => by subst hp; rfl⟩)
end Go.Proofs.YtimcdikeajbabaaGreatDoor
