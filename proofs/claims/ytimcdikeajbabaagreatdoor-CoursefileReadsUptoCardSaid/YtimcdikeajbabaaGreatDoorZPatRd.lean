/- Classes as data, whole; what is wrong with classes (plain). No walk. Walks of coursefile.possible, order, timetableref10.possible, less, and cmp.Compare at numbers. Conditions: bounds. Plain: data put in order one by one, whatever the order; the same in order once only; lists without doubles. No walk. Plain: what is read of the sets of weeks and of the starts of a class. No walk. Walk of timetableref10.number: where a number stands in a list. Conditions: the cells. Walk of coursefile.readPatterns, whether a problem is noted or not. Conditions: the scanner's cells are as Scan says; a text shorter than 2^30 bytes. -/
import Derived.Test.YtimcdikeajbabaaGreatDoorShelfS
import Derived.Test.YtimcdikeajbabaaGreatDoorRows
import Derived.WalkKit
import Derived.WalkSpells
import Derived.WalkLawsBesides
import Derived.BigGuardPart
import Derived.Lib.Hide
import Derived.Laws.BitsAllLaws
import Derived.Laws.BitsLemmas
import Derived.Lib.LaidTab
import Derived.Test.YtimcdikeajbabaaGreatDoorShelf
import Derived.Lib.ConvBytes
import Derived.Deep.QuietTactic
import Derived.BigQuiet
import Derived.Laws.ResultCell
import Derived.RegionTactic
import Derived.BigRegion
import Derived.Deep.RegionHeld3
import Derived.Deep.DeepCutAuto
import Derived.Lib.SmallJoins
import Derived.Lib.SplitLaws
import Derived.Lib.CountLaws
import Derived.Lib.IndexMore
import Derived.Lib.Split
import Derived.Lib.Join
import Derived.Lib.ItoaNum
import Derived.Laws.AppendOwn
import Derived.Test.YtimcdikeajbabaaGreatDoorShelfT
import Derived.Lib.ItoaLen
import Derived.Lib.AppendIntMem
import Derived.Deep.AppendLies
import Derived.Lib.PathFns
import Derived.Maps.Range
import Derived.Lib.OwnBridge
import Derived.Sort.OwnSorted
import Derived.Sort.Walk0
import Derived.Test.YtimcdikeajbabaaGreatDoorCards
import Derived.Test.YtimcdikeajbabaaGreatDoorTie
import Derived.ProofKit
import Derived.OpenShut
import Derived.LaidMore
import Derived.Lay
import Derived.SevenTiedAt
import Derived.Stop.Joined
import Derived.Stop.LaidErr
import Derived.Deep.DeepHandedRow
import Derived.Lib.LaidU8
import Derived.LaidSub
import Derived.Deep.Slices
import Derived.Deep.Fields
import Derived.ChangeSame
import Derived.Test.YtimcdikeajbabaaGreatDoorZTgB
import Derived.Test.YtimcdikeajbabaaGreatDoorZCells18
import Derived.Test.YtimcdikeajbabaaGreatDoorZSameL
import Derived.Test.YtimcdikeajbabaaGreatDoorZCmpB
import Derived.Test.YtimcdikeajbabaaGreatDoorZWsD
import Derived.Test.YtimcdikeajbabaaGreatDoorZNumS
import Derived.Test.YtimcdikeajbabaaGreatDoorZIdxS
import Derived.Test.YtimcdikeajbabaaGreatDoorZROneP
namespace Go.Proofs.YtimcdikeajbabaaGreatDoor
open Go.RowKit
set_option maxRecDepth 100000

def codesK (l : List Cls) : List ByteArray := l.map fun x => x.1
/-- The nine values of a class whose rows lie there. -/
def nineOf (x : Cls) (A4 : Option Addr) (c4 : Nat) (A6 : Option Addr) (c6 : Nat) (A7 : Option Addr) (c7 : Nat) (A8 : Option Addr) (c8 : Nat) : Nine :=
  ⟨x.1, x.2.1, x.2.2.1, x.2.2.2.1, A4, x.2.2.2.2.1.length, c4, x.2.2.2.2.2.1, A6, x.2.2.2.2.2.2.1.length, c6, A7, x.2.2.2.2.2.2.2.1.length, c7, A8, x.2.2.2.2.2.2.2.2.length, c8⟩
theorem At.clsF {S : Nat → Prop} {w : World} {A : Option Addr} {l : List Cls} {j : Nat} {x : Cls} (h : At kCls S w A l) (hj : l[j]? = some x) :
    ∃ b off A4 c4 A6 c6 A7 c7 A8 c8, A = some ⟨b, off, none⟩ ∧ S b ∧ b < w.heap.size ∧ NineAt w b (off + j * 9) (nineOf x A4 c4 A6 c6 A7 c7 A8 c8) ∧
      (x.2.2.2.2.1.length ≤ c4 ∧ x.2.2.2.2.2.2.1.length ≤ c6 ∧ x.2.2.2.2.2.2.2.1.length ≤ c7 ∧ x.2.2.2.2.2.2.2.2.length ≤ c8) ∧
      At kInt S w A4 x.2.2.2.2.1 ∧ At kStr S w A6 x.2.2.2.2.2.2.1 ∧ At kStr S w A7 x.2.2.2.2.2.2.2.1 ∧ At kStart S w A8 x.2.2.2.2.2.2.2.2 := by
  obtain ⟨b, off, vs, e, hs, hlt, hr, hc⟩ := h.get hj
  obtain ⟨u0, r0, e0, h0, hr⟩ := hr
  obtain ⟨u1, r1, e1, h1, hr⟩ := hr
  obtain ⟨u2, r2, e2, h2, hr⟩ := hr
  obtain ⟨u3, r3, e3, h3, hr⟩ := hr
  obtain ⟨u4, r4, e4, h4, hr⟩ := hr
  obtain ⟨u5, r5, e5, h5, hr⟩ := hr
  obtain ⟨u6, r6, e6, h6, hr⟩ := hr
  obtain ⟨u7, u8, e7, h7, h8⟩ := hr
  obtain ⟨A4, c4, rfl, l4, a4⟩ := h4
  obtain ⟨A6, c6, rfl, l6, a6⟩ := h6
  obtain ⟨A7, c7, rfl, l7, a7⟩ := h7
  obtain ⟨A8, c8, rfl, l8, a8⟩ := h8
  have h0 : u0 = [.string x.1] := h0
  have h1 : u1 = [.string x.2.1] := h1
  have h2 : u2 = [.string x.2.2.1] := h2
  have h3 : u3 = [.int .i64 x.2.2.2.1] := h3
  have h5 : u5 = [.int .i64 x.2.2.2.2.2.1] := h5
  subst h0 h1 h2 h3 h5 e7 e6 e5 e4 e3 e2 e1 e0
  have hk : ∀ i u, ([Value.string x.1, .string x.2.1, .string x.2.2.1, .int .i64 x.2.2.2.1, .slice A4 x.2.2.2.2.1.length c4, .int .i64 x.2.2.2.2.2.1, .slice A6 x.2.2.2.2.2.2.1.length c6, .slice A7 x.2.2.2.2.2.2.2.1.length c7, .slice A8 x.2.2.2.2.2.2.2.2.length c8] : List Value)[i]? = some u → w.cell? ⟨b, off + j * 9 + i, none⟩ = some u := hc
  exact ⟨b, off, A4, c4, A6, c6, A7, c7, A8, c8, e, hs, hlt,
    ⟨hk 0 _ rfl, hk 1 _ rfl, hk 2 _ rfl, hk 3 _ rfl, hk 4 _ rfl, hk 5 _ rfl, hk 6 _ rfl, hk 7 _ rfl, hk 8 _ rfl⟩, ⟨l4, l6, l7, l8⟩, a4, a6, a7, a8⟩
/-! What is wrong with the sets of weeks of a class. -/
/-! What is wrong with the starts of a class. -/
def possB (d sl len : Int) (s : Int × Int) : Bool := decide (0 ≤ s.1 ∧ s.1 < d ∧ 0 ≤ s.2 ∧ s.2 ≤ sl - len)
def lessB (a b : Int × Int) : Bool := decide (a.1 < b.1 ∨ (a.1 = b.1 ∧ a.2 < b.2))
theorem week_bd {d sl b m n : Int} (h : weekB d sl b m n = true) : 1 ≤ d ∧ d ≤ 7 ∧ 1 ≤ sl ∧ sl ≤ 24 ∧ 1 ≤ n ∧ n ≤ 20 := by
  unfold weekB gridV at h
  rw [Bool.and_eq_true, decide_eq_true_eq, decide_eq_true_eq] at h
  obtain ⟨h1, h2⟩ := h
  split at h1
  · omega
  · omega
end Go.Proofs.YtimcdikeajbabaaGreatDoor

namespace Go.Proofs.YtimcdikeajbabaaGreatDoor
open Go.RowKit
set_option maxRecDepth 100000

theorem possB_yes {d sl len a c : Int} (h : 0 ≤ a ∧ a < d ∧ 0 ≤ c ∧ c ≤ sl - len) : possB d sl len (a, c) = true := by unfold possB; simpa using h
theorem possB_no {d sl len a c : Int} (h : ¬ (0 ≤ a ∧ a < d ∧ 0 ≤ c ∧ c ≤ sl - len)) : possB d sl len (a, c) = false := by unfold possB; simpa using h
-- <poss>
set_option maxHeartbeats 1000000 in
theorem cposs_walk (a c len d sl b m : Int) (hl : -100000 ≤ len ∧ len ≤ 100000) (hs : -100000 ≤ sl ∧ sl ≤ 100000) (w : World) :
    Calls Tryz.prog 136 #[.agg #[.int .i64 a, .int .i64 c], .int .i64 len, .agg #[.int .i64 d, .int .i64 sl, .int .i64 b, .int .i64 m]] w fun e w' => e = .returned (.bool (possB d sl len (a, c))) ∧ Below w.heap.size w w' := by
  have e1 : IntKind.i64.wrap (sl - len) = sl - len := IntWalk.i64_in _ (by omega)
  by_cases h1 : 0 ≤ a
  · by_cases h2 : a < d
    · by_cases h3 : 0 ≤ c
      · by_cases h4 : c ≤ sl - len
        · rw [possB_yes ⟨h1, h2, h3, h4⟩]
          go_enter Tryz.func136, Tryz.ntmps136
          go_wp2
          go_ret
          exact ⟨rfl, (by repeat (first | exact Below.refl _ _ | refine ext_alloc ?_ _ | refine ext_drewN ?_ _ | refine ext_drew ?_ | refine ext_trans ?_ (by assumption)))⟩
        · rw [possB_no (fun h => h4 h.2.2.2)]
          go_enter Tryz.func136, Tryz.ntmps136
          go_wp2
          go_ret
          exact ⟨rfl, (by repeat (first | exact Below.refl _ _ | refine ext_alloc ?_ _ | refine ext_drewN ?_ _ | refine ext_drew ?_ | refine ext_trans ?_ (by assumption)))⟩
      · rw [possB_no (fun h => h3 h.2.2.1)]
        go_enter Tryz.func136, Tryz.ntmps136
        go_wp2
        go_ret
        exact ⟨rfl, (by repeat (first | exact Below.refl _ _ | refine ext_alloc ?_ _ | refine ext_drewN ?_ _ | refine ext_drew ?_ | refine ext_trans ?_ (by assumption)))⟩
    · rw [possB_no (fun h => h2 h.2.1)]
      go_enter Tryz.func136, Tryz.ntmps136
      go_wp2
      go_ret
      exact ⟨rfl, (by repeat (first | exact Below.refl _ _ | refine ext_alloc ?_ _ | refine ext_drewN ?_ _ | refine ext_drew ?_ | refine ext_trans ?_ (by assumption)))⟩
  · rw [possB_no (fun h => h1 h.1)]
    go_enter Tryz.func136, Tryz.ntmps136
    go_wp2
    go_ret
    exact ⟨rfl, (by repeat (first | exact Below.refl _ _ | refine ext_alloc ?_ _ | refine ext_drewN ?_ _ | refine ext_drew ?_ | refine ext_trans ?_ (by assumption)))⟩
-- </poss>
set_option maxHeartbeats 1000000 in
theorem r10poss_walk (a c len d sl b m : Int) (hl : -100000 ≤ len ∧ len ≤ 100000) (hs : -100000 ≤ sl ∧ sl ≤ 100000) (w : World) :
    Calls Tryz.prog 99 #[.agg #[.int .i64 a, .int .i64 c], .int .i64 len, .agg #[.int .i64 d, .int .i64 sl, .int .i64 b, .int .i64 m]] w fun e w' => e = .returned (.bool (possB d sl len (a, c))) ∧ Below w.heap.size w w' := by
  have e1 : IntKind.i64.wrap (sl - len) = sl - len := IntWalk.i64_in _ (by omega)
  by_cases h1 : 0 ≤ a
  · by_cases h2 : a < d
    · by_cases h3 : 0 ≤ c
      · by_cases h4 : c ≤ sl - len
        · rw [possB_yes ⟨h1, h2, h3, h4⟩]
          go_enter Tryz.func99, Tryz.ntmps99
          go_wp2
          go_ret
          exact ⟨rfl, (by repeat (first | exact Below.refl _ _ | refine ext_alloc ?_ _ | refine ext_drewN ?_ _ | refine ext_drew ?_ | refine ext_trans ?_ (by assumption)))⟩
        · rw [possB_no (fun h => h4 h.2.2.2)]
          go_enter Tryz.func99, Tryz.ntmps99
          go_wp2
          go_ret
          exact ⟨rfl, (by repeat (first | exact Below.refl _ _ | refine ext_alloc ?_ _ | refine ext_drewN ?_ _ | refine ext_drew ?_ | refine ext_trans ?_ (by assumption)))⟩
      · rw [possB_no (fun h => h3 h.2.2.1)]
        go_enter Tryz.func99, Tryz.ntmps99
        go_wp2
        go_ret
        exact ⟨rfl, (by repeat (first | exact Below.refl _ _ | refine ext_alloc ?_ _ | refine ext_drewN ?_ _ | refine ext_drew ?_ | refine ext_trans ?_ (by assumption)))⟩
    · rw [possB_no (fun h => h2 h.2.1)]
      go_enter Tryz.func99, Tryz.ntmps99
      go_wp2
      go_ret
      exact ⟨rfl, (by repeat (first | exact Below.refl _ _ | refine ext_alloc ?_ _ | refine ext_drewN ?_ _ | refine ext_drew ?_ | refine ext_trans ?_ (by assumption)))⟩
  · rw [possB_no (fun h => h1 h.1)]
    go_enter Tryz.func99, Tryz.ntmps99
    go_wp2
    go_ret
    exact ⟨rfl, (by repeat (first | exact Below.refl _ _ | refine ext_alloc ?_ _ | refine ext_drewN ?_ _ | refine ext_drew ?_ | refine ext_trans ?_ (by assumption)))⟩

set_option maxHeartbeats 1000000 in
theorem r10less_walk (a1 a2 b1 b2 : Int) (w : World) :
    Calls Tryz.prog 100 #[.agg #[.int .i64 a1, .int .i64 a2], .agg #[.int .i64 b1, .int .i64 b2]] w fun e w' => e = .returned (.bool (lessB (a1, a2) (b1, b2))) ∧ Below w.heap.size w w' := by
  unfold lessB
  dsimp only
  by_cases h1 : a1 < b1
  · rw [decide_eq_true (Or.inl h1)]
    go_enter Tryz.func100, Tryz.ntmps100
    go_wp2
    all_goals try (exfalso; omega)
    all_goals
      go_ret
      exact ⟨rfl, (by repeat (first | exact Below.refl _ _ | refine ext_alloc ?_ _ | refine ext_drewN ?_ _ | refine ext_drew ?_ | refine ext_trans ?_ (by assumption)))⟩
  · by_cases h2 : a1 = b1
    · have e2 : (a1 == b1) = true := by simpa using h2
      by_cases h3 : a2 < b2
      · rw [decide_eq_true (Or.inr ⟨h2, h3⟩)]
        replace h2 := hide h2
        go_enter Tryz.func100, Tryz.ntmps100
        go_wp2
        all_goals try (exfalso; omega)
        all_goals
          go_ret
          exact ⟨rfl, (by repeat (first | exact Below.refl _ _ | refine ext_alloc ?_ _ | refine ext_drewN ?_ _ | refine ext_drew ?_ | refine ext_trans ?_ (by assumption)))⟩
      · rw [decide_eq_false (fun h => by rcases h with h | h; exact h1 h; exact h3 h.2)]
        replace h2 := hide h2
        go_enter Tryz.func100, Tryz.ntmps100
        go_wp2
        all_goals try (exfalso; omega)
        all_goals
          go_ret
          exact ⟨rfl, (by repeat (first | exact Below.refl _ _ | refine ext_alloc ?_ _ | refine ext_drewN ?_ _ | refine ext_drew ?_ | refine ext_trans ?_ (by assumption)))⟩
    · have e2 : (a1 == b1) = false := by simpa using h2
      rw [decide_eq_false (fun h => by rcases h with h | h; exact h1 h; exact h2 h.1)]
      go_enter Tryz.func100, Tryz.ntmps100
      go_wp2
      all_goals try (exfalso; omega)
      all_goals
        go_ret
        exact ⟨rfl, (by repeat (first | exact Below.refl _ _ | refine ext_alloc ?_ _ | refine ext_drewN ?_ _ | refine ext_drew ?_ | refine ext_trans ?_ (by assumption)))⟩
/-! cmp.Compare at numbers. -/
def cmpI (x y : Int) : Int := if x < y then -1 else if y < x then 1 else 0
set_option maxHeartbeats 1000000 in
theorem isnanI_walk (x : Int) (w : World) : Calls Tryz.prog 198 #[.int .i64 x] w fun e w' => e = .returned (.bool false) ∧ w = w' := by
  have hq : (x == x) = true := by simp
  go_enter Tryz.func198, Tryz.ntmps198
  go_wp2
  go_ret
  exact ⟨rfl, rfl⟩
set_option maxHeartbeats 1000000 in
theorem compI_walk (x y : Int) (w : World) : Calls Tryz.prog 155 #[.int .i64 x, .int .i64 y] w fun e w' => e = .returned (.int .i64 (cmpI x y)) ∧ w = w' := by
  unfold cmpI
  by_cases h1 : x < y
  · rw [if_pos h1]
    go_enter Tryz.func155, Tryz.ntmps155
    go_wp2_with fail
    refine (isnanI_walk x _).mono ?_
    rintro e w2 ⟨rfl, rfl⟩
    go_wp2_with fail
    refine (isnanI_walk y _).mono ?_
    rintro e w2 ⟨rfl, rfl⟩
    go_wp2
    go_ret
    exact ⟨rfl, rfl⟩
  · rw [if_neg h1]
    by_cases h2 : y < x
    · rw [if_pos h2]
      go_enter Tryz.func155, Tryz.ntmps155
      go_wp2_with fail
      refine (isnanI_walk x _).mono ?_
      rintro e w2 ⟨rfl, rfl⟩
      go_wp2_with fail
      refine (isnanI_walk y _).mono ?_
      rintro e w2 ⟨rfl, rfl⟩
      go_wp2
      go_ret
      exact ⟨rfl, rfl⟩
    · rw [if_neg h2]
      go_enter Tryz.func155, Tryz.ntmps155
      go_wp2_with fail
      refine (isnanI_walk x _).mono ?_
      rintro e w2 ⟨rfl, rfl⟩
      go_wp2_with fail
      refine (isnanI_walk y _).mono ?_
      rintro e w2 ⟨rfl, rfl⟩
      go_wp2
      go_ret
      exact ⟨rfl, rfl⟩
/-! The order of starts. -/
def ordP (a b : Int × Int) : Int := if cmpI a.1 b.1 ≠ 0 then cmpI a.1 b.1 else cmpI a.2 b.2
theorem cmpI_zero {x y : Int} : cmpI x y = 0 ↔ x = y := by
  unfold cmpI
  repeat' split
  all_goals omega
theorem cmpI_neg {x y : Int} : cmpI x y < 0 ↔ x < y := by
  unfold cmpI
  repeat' split
  all_goals omega
theorem ordP_neg (a b : Int × Int) : ordP a b < 0 ↔ lessB a b = true := by
  rw [lessB, decide_eq_true_eq]
  unfold ordP
  by_cases h : cmpI a.1 b.1 = 0
  · rw [if_neg (by simp [h]), cmpI_neg]
    rw [cmpI_zero] at h
    omega
  · rw [if_pos h, cmpI_neg]
    have : ¬ a.1 = b.1 := fun e => h (cmpI_zero.2 e)
    omega
/-- Blocks and draws behind a world. -/
def GrowOf (w w' : World) : Prop := ∃ (q : Nat) (os : Array Obj), w' = Sort.grow (w.drewN q) os
theorem GrowOf.refl (w : World) : GrowOf w w := ⟨0, #[], by rw [Sort.grow_empty]; rfl⟩
theorem GrowOf.alloc {w w' : World} (h : GrowOf w w') (o : Obj) : GrowOf w (w'.alloc o) := by
  obtain ⟨q, os, rfl⟩ := h
  exact ⟨q, os ++ #[o], by rw [Sort.alloc_eq_grow, Sort.grow_grow]⟩
theorem GrowOf.drew {w w' : World} (h : GrowOf w w') : GrowOf w w'.drew := by
  obtain ⟨q, os, rfl⟩ := h
  exact ⟨q + 1, os, rfl⟩
set_option maxHeartbeats 4000000 in
theorem corder_grow (a1 a2 b1 b2 : Int) (w : World) :
    Calls Tryz.prog 112 #[.agg #[.int .i64 a1, .int .i64 a2], .agg #[.int .i64 b1, .int .i64 b2]] w fun e w' => e = .returned (.int .i64 (ordP (a1, a2) (b1, b2))) ∧ GrowOf w w' := by
  have c1 := fun (V : World) => compI_walk a1 b1 V
  have c2 := fun (V : World) => compI_walk a2 b2 V
  obtain ⟨i1, h1⟩ : ∃ i, cmpI a1 b1 = i := ⟨_, rfl⟩
  obtain ⟨i2, h2⟩ : ∃ i, cmpI a2 b2 = i := ⟨_, rfl⟩
  have hv : ordP (a1, a2) (b1, b2) = if i1 ≠ 0 then i1 else i2 := by unfold ordP; rw [h1, h2]
  obtain ⟨V, hV⟩ : ∃ V, ordP (a1, a2) (b1, b2) = V := ⟨_, rfl⟩
  rw [hV] at hv ⊢
  rw [h1] at c1
  rw [h2] at c2
  have hor := hide (fun (U : World) => (or_walk U.heap.size i1 i2 (U.alloc (.cells #[.int .i64 i1, .int .i64 i2] 3)) (by simp) (by simp)).mono fun e w' ⟨he, hw⟩ => (⟨he.trans (by rw [hv]), hw⟩ : e = Ending.returned (.int .i64 V) ∧ _ = w'))
  have hord := hide (fun (U : World) => (or_walk U.heap.size i1 i2 (U.alloc (.cells #[.int .i64 i1, .int .i64 i2] 3)).drew (show (U.alloc (.cells #[.int .i64 i1, .int .i64 i2] 3)).cell? ⟨U.heap.size, 0, none⟩ = _ by simp) (show (U.alloc (.cells #[.int .i64 i1, .int .i64 i2] 3)).cell? ⟨U.heap.size, 1, none⟩ = _ by simp)).mono fun e w' ⟨he, hw⟩ => (⟨he.trans (by rw [hv]), hw⟩ : e = Ending.returned (.int .i64 V) ∧ _ = w'))
  have hb0 : GrowOf w ((w.alloc (.cells #[.int .i64 a1, .int .i64 a2] 70)).alloc (.cells #[.int .i64 b1, .int .i64 b2] 70)) := (GrowOf.refl w).alloc _ |>.alloc _
  have hz : (w.alloc (.cells #[.int .i64 a1, .int .i64 a2] 70)).heap.size = w.heap.size + 1 := World.size_alloc _ _
  have hC : Cn4 w.heap.size 0 (.int .i64 a1) w.heap.size 1 (.int .i64 a2) ((w.heap.size + 1)) 0 (.int .i64 b1) ((w.heap.size + 1)) 1 (.int .i64 b2) ((w.alloc (.cells #[.int .i64 a1, .int .i64 a2] 70)).alloc (.cells #[.int .i64 b1, .int .i64 b2] 70)) := by
    refine ⟨?_, ?_, ?_, ?_⟩
    · exact cell_alloc_of (by simp) _
    · exact cell_alloc_of (by simp) _
    · rw [← hz]; simp
    · rw [← hz]; simp
  obtain ⟨W, hW⟩ : ∃ W, (w.alloc (.cells #[.int .i64 a1, .int .i64 a2] 70)).alloc (.cells #[.int .i64 b1, .int .i64 b2] 70) = W := ⟨_, rfl⟩
  rw [hW] at hb0 hC
  have hCd := hC.drew
  obtain ⟨q1, q2, q3, q4⟩ := id hC
  replace c1 := hide c1
  replace c2 := hide c2
  replace hW := hide hW
  clear h1 h2 hv hV hz
  go_enter Tryz.func112, Tryz.ntmps112
  go_wp2_with fail
  rw [hW.out]
  go_region_held3 (fun W' => W'.cell? ⟨w.heap.size, 0, none⟩ = some (.int .i64 a1) ∧ W'.cell? ⟨w.heap.size, 1, none⟩ = some (.int .i64 a2) ∧ W'.cell? ⟨(w.heap.size + 1), 0, none⟩ = some (.int .i64 b1) ∧ W'.cell? ⟨(w.heap.size + 1), 1, none⟩ = some (.int .i64 b2)) (first | ((repeat (first | (with_reducible assumption) | (with_reducible refine Cn4.alloc ?_ _) | (with_reducible refine Cn4.drew ?_) | (with_reducible refine Cn4.set ?_ ?_ ?_ ?_ ?_ _) | omega)); done)) (first | (go_at_call 155; first | ((with_reducible refine (c1.out _).mono ?_); rintro e w' ⟨rfl, rfl⟩) | ((with_reducible refine (c2.out _).mono ?_); rintro e w' ⟨rfl, rfl⟩)) | (go_at_call 154; first | ((with_reducible refine (hor.out _).mono ?_); rintro e w' ⟨rfl, rfl⟩) | ((with_reducible refine (hord.out _).mono ?_); rintro e w' ⟨rfl, rfl⟩)))
  all_goals
    go_wp2
    go_ret
    exact ⟨rfl, by repeat (first | with_reducible assumption | with_reducible refine GrowOf.alloc ?_ _ | with_reducible refine GrowOf.drew ?_)⟩
end Go.Proofs.YtimcdikeajbabaaGreatDoor

namespace Go.Proofs.YtimcdikeajbabaaGreatDoor
open Go.RowKit
set_option maxRecDepth 100000

section
variable {α : Type} (less : α → α → Bool) (dflt : α)
/-- Where x goes among the first k. -/
def posG (x : α) (out : List α) : Nat → Nat
  | 0 => 0
  | k + 1 => if less x (out.getD k dflt) = true then posG x out k else k + 1
def insG (out : List α) (x : α) : List α := out.take (posG less dflt x out out.length) ++ x :: out.drop (posG less dflt x out out.length)
def ascG (zs : List α) : List α := zs.foldl (insG less dflt) []
end
section
variable {α : Type} {less : α → α → Bool} {dflt : α}
theorem posG_le (x : α) (out : List α) : ∀ k, posG less dflt x out k ≤ k
  | 0 => Nat.le_refl _
  | k + 1 => by rw [posG]; split; exact Nat.le_trans (posG_le x out k) (Nat.le_succ k); exact Nat.le_refl _
theorem posG_above (x : α) (out : List α) : ∀ k j, posG less dflt x out k ≤ j → j < k → less x (out.getD j dflt) = true
  | 0, j, _, h => by omega
  | k + 1, j, h1, h2 => by
    rw [posG] at h1
    by_cases hl : less x (out.getD k dflt) = true
    · rw [if_pos hl] at h1
      by_cases e : j = k
      · rw [e]; exact hl
      · exact posG_above x out k j h1 (by omega)
    · rw [if_neg hl] at h1; omega
theorem posG_below (x : α) (out : List α) : ∀ k, 0 < posG less dflt x out k → less x (out.getD (posG less dflt x out k - 1) dflt) = false
  | 0, h => by simp [posG] at h
  | k + 1, h => by
    rw [posG] at h ⊢
    by_cases hl : less x (out.getD k dflt) = true
    · rw [if_pos hl] at h ⊢; exact posG_below x out k h
    · rw [if_neg hl] at h ⊢; simpa using hl
theorem insG_len (out : List α) (x : α) : (insG less dflt out x).length = out.length + 1 := by
  unfold insG
  have := posG_le (less := less) (dflt := dflt) x out out.length
  simp only [List.length_append, List.length_take, List.length_cons, List.length_drop]
  omega
theorem ascG_len (zs : List α) : (ascG less dflt zs).length = zs.length := by
  unfold ascG
  have key : ∀ (zs out : List α), (zs.foldl (insG less dflt) out).length = out.length + zs.length := by
    intro zs
    induction zs with
    | nil => intro out; rfl
    | cons z zs ih => intro out; rw [List.foldl_cons, ih, insG_len, List.length_cons]; omega
  simpa using key zs []
theorem ascG_snoc (zs : List α) (x : α) : ascG less dflt (zs ++ [x]) = insG less dflt (ascG less dflt zs) x := by
  unfold ascG
  rw [List.foldl_append]; rfl
theorem ascG_take {zs : List α} {i : Nat} {x : α} (h : zs[i]? = some x) : ascG less dflt (zs.take (i + 1)) = insG less dflt (ascG less dflt (zs.take i)) x := by
  rw [List.take_add_one, h]
  exact ascG_snoc _ _
theorem insG_perm (out : List α) (x : α) : (insG less dflt out x).Perm (x :: out) := by
  unfold insG
  refine List.perm_middle.trans ?_
  rw [List.take_append_drop]
theorem getD_atG {out : List α} {j : Nat} (h : j < out.length) : out.getD j dflt = out[j] := by rw [List.getD_eq_getElem?_getD, List.getElem?_eq_getElem h]; rfl
/-- x does not come behind y. -/
def LeG (less : α → α → Bool) (x y : α) : Prop := less y x = false
theorem insG_sorted (htr : ∀ x y z, less y x = false → less z y = false → less z x = false) (hof : ∀ x y, less x y = true → less y x = false) {out : List α} {x : α} (h : out.Pairwise (LeG less)) : (insG less dflt out x).Pairwise (LeG less) := by
  obtain ⟨k, hk⟩ : ∃ k, posG less dflt x out out.length = k := ⟨_, rfl⟩
  have hkl : k ≤ out.length := by rw [← hk]; exact posG_le _ _ _
  unfold insG
  rw [hk, List.pairwise_append, List.pairwise_cons]
  have hlow : ∀ y ∈ out.take k, LeG less y x := by
    intro y hy
    obtain ⟨j, hj⟩ := List.getElem?_of_mem hy
    rw [List.getElem?_take] at hj
    split at hj
    · rename_i hjk
      obtain ⟨hjl, e⟩ := List.getElem?_eq_some_iff.1 hj
      have hb := posG_below (less := less) (dflt := dflt) x out out.length (by rw [hk]; omega)
      rw [hk, getD_atG (by omega)] at hb
      by_cases e2 : j = k - 1
      · subst e2; rw [← e]; exact hb
      · refine htr y _ x (?_ : LeG less y _) hb
        rw [← e]
        exact List.pairwise_iff_getElem.1 h j (k - 1) hjl (by omega) (by omega)
    · cases hj
  refine ⟨h.sublist (List.take_sublist _ _), ⟨fun y hy => ?_, h.sublist (List.drop_sublist _ _)⟩, fun a ha b hb => ?_⟩
  · obtain ⟨j, hj⟩ := List.getElem?_of_mem hy
    rw [List.getElem?_drop] at hj
    obtain ⟨hjl, e⟩ := List.getElem?_eq_some_iff.1 hj
    have ha := posG_above (less := less) (dflt := dflt) x out out.length (k + j) (by rw [hk]; omega) hjl
    rw [getD_atG hjl, e] at ha
    exact hof _ _ ha
  · rcases List.mem_cons.1 hb with rfl | hb
    · exact hlow a ha
    · rw [← List.take_append_drop k out, List.pairwise_append] at h
      exact h.2.2 a ha b hb
theorem ascG_perm (zs : List α) : (ascG less dflt zs).Perm zs := by
  have key : ∀ (zs out : List α), (zs.foldl (insG less dflt) out).Perm (zs ++ out) := by
    intro zs
    induction zs with
    | nil => intro out; exact List.Perm.refl _
    | cons z zs ih =>
      intro out
      rw [List.foldl_cons]
      refine (ih _).trans ?_
      exact ((insG_perm out z).append_left zs).trans List.perm_middle
  have := key zs []
  rwa [List.append_nil] at this
theorem ascG_sorted (htr : ∀ x y z, less y x = false → less z y = false → less z x = false) (hof : ∀ x y, less x y = true → less y x = false) (zs : List α) : (ascG less dflt zs).Pairwise (LeG less) := by
  have key : ∀ (zs out : List α), out.Pairwise (LeG less) → (zs.foldl (insG less dflt) out).Pairwise (LeG less) := by
    intro zs
    induction zs with
    | nil => intro out h; exact h
    | cons z zs ih => intro out h; rw [List.foldl_cons]; exact ih _ (insG_sorted htr hof h)
  exact key zs [] .nil
/-- Two lists of the same data in order are one, where nothing but itself is level with a datum. -/
theorem sorted_eqG (ha : ∀ x y, less y x = false → less x y = false → x = y) {l m : List α} (hp : l.Perm m) (hl : l.Pairwise (LeG less)) (hm : m.Pairwise (LeG less)) : l = m :=
  List.Perm.eq_of_pairwise (le := LeG less) (fun a b _ _ h1 h2 => ha a b h1 h2) hl hm hp
end
/-! Lists without doubles. -/
section
variable {α : Type} [DecidableEq α] (dflt : α)
/-- The first k differ. -/
def freshTo (l : List α) : Nat → Bool
  | 0 => true
  | k + 1 => freshTo l k && !decide (l.getD k dflt ∈ l.take k)
variable {dflt}
theorem freshTo_false {l : List α} {k : Nat} (h : freshTo dflt l k = false) : ∀ m, k ≤ m → freshTo dflt l m = false
  | 0, hk => by
    have e : k = 0 := by omega
    rw [e] at h; exact h
  | m + 1, hk => by
    by_cases e : k = m + 1
    · rw [← e]; exact h
    · rw [freshTo, freshTo_false h m (by omega), Bool.false_and]
theorem freshTo_iff (l : List α) : ∀ k, k ≤ l.length → (freshTo dflt l k = true ↔ (l.take k).Nodup)
  | 0, _ => by simp [freshTo]
  | k + 1, h => by
    have e : l.take (k + 1) = l.take k ++ [l.getD k dflt] := by
      rw [List.take_add_one, List.getElem?_eq_getElem (by omega), getD_atG (by omega)]; rfl
    rw [freshTo, e, Bool.and_eq_true, freshTo_iff l k (by omega), List.nodup_append]
    simp only [Bool.not_eq_true', decide_eq_false_iff_not, List.nodup_cons, List.not_mem_nil, not_false_eq_true, List.nodup_nil, and_self, List.mem_singleton, true_and]
    constructor
    · rintro ⟨h1, h2⟩
      exact ⟨h1, fun a ha b hb e => h2 (by rw [← hb, ← e]; exact ha)⟩
    · rintro ⟨h1, h2⟩
      exact ⟨h1, fun hm => h2 _ hm _ rfl rfl⟩
theorem freshTo_all (l : List α) : freshTo dflt l l.length = true ↔ l.Nodup := by
  rw [freshTo_iff l l.length (Nat.le_refl _), List.take_length]
/-- Neighbours differ. -/
def nextDiff : List α → Bool
  | [] => true
  | [_] => true
  | a :: b :: r => !decide (a = b) && nextDiff (b :: r)
/-- Where the data stand in order, neighbours differ exactly if all do. -/
theorem nextDiff_iff {R : α → α → Prop} (ha : ∀ x y, R x y → R y x → x = y) : ∀ (l : List α), l.Pairwise R → (nextDiff l = true ↔ l.Nodup)
  | [], _ => by simp [nextDiff]
  | [a], _ => by simp [nextDiff]
  | a :: b :: r, h => by
    have ih := nextDiff_iff ha (b :: r) (List.pairwise_cons.1 h).2
    rw [nextDiff, Bool.and_eq_true, ih, show (a :: b :: r).Nodup ↔ a ∉ b :: r ∧ (b :: r).Nodup from List.nodup_cons]
    simp only [Bool.not_eq_true', decide_eq_false_iff_not]
    constructor
    · rintro ⟨h1, h2⟩
      refine ⟨fun hm => ?_, h2⟩
      rcases List.mem_cons.1 hm with e | hm
      · exact h1 e
      · have hab := (List.pairwise_cons.1 h).1 b (by simp)
        have hba := (List.pairwise_cons.1 (List.pairwise_cons.1 h).2).1 a hm
        exact h1 (ha a b hab hba)
    · rintro ⟨h1, h2⟩
      exact ⟨fun e => h1 (by rw [e]; simp), h2⟩
end
end Go.Proofs.YtimcdikeajbabaaGreatDoor

namespace Go.Proofs.YtimcdikeajbabaaGreatDoor
open Go.RowKit
set_option maxRecDepth 100000

theorem zeroS_list (s : ByteArray) : zeroS s = (match s.data.toList with | [] => false | a :: _ => decide (a.toNat = 48)) := by
  unfold zeroS
  by_cases h : 0 < s.size
  · have h0 := ba_at0 s h
    rw [dif_pos h]
    cases hl : s.data.toList with
    | nil => rw [hl] at h0; cases h0
    | cons a r => rw [hl] at h0; injection h0 with h0; rw [h0]
  · rw [dif_neg h]
    have : s.data.toList = [] := List.eq_nil_of_length_eq_zero (by rw [ba_len]; omega)
    rw [this]
/-- The two readings of a number below 100 agree. -/
theorem numS_numL (s : ByteArray) : numS 2 s = numL s.data.toList := by
  unfold numS numE digS valS
  rw [zeroS_list, ← ba_len s]
  generalize s.data.toList = l
  match l with
  | [] => rfl
  | [a] =>
    by_cases h : 48 ≤ a.toNat ∧ a.toNat ≤ 57
    · by_cases h0 : a.toNat = 48
      · simp [numL, h0]
      · have : 49 ≤ a.toNat ∧ a.toNat ≤ 57 := by omega
        simp [numL, h0, this, digN, h, Lib.decFrom, Lib.digitVal]
    · have h0 : ¬ a.toNat = 48 := by omega
      have h1 : ¬ (49 ≤ a.toNat ∧ a.toNat ≤ 57) := by omega
      simp [numL, h0, h1, digN, h]
  | [a, b] =>
    by_cases h : 48 ≤ a.toNat ∧ a.toNat ≤ 57
    · by_cases h0 : a.toNat = 48
      · simp [numL, h0]
      · have h1 : 49 ≤ a.toNat ∧ a.toNat ≤ 57 := by omega
        by_cases hb : 48 ≤ b.toNat ∧ b.toNat ≤ 57
        · simp [numL, h0, h1, digN, h, hb, Lib.decFrom, Lib.digitVal]
          omega
        · simp [numL, h0, h1, digN, h, hb]
    · have h0 : ¬ a.toNat = 48 := by omega
      have h1 : ¬ (49 ≤ a.toNat ∧ a.toNat ≤ 57) := by omega
      simp [numL, h0, digN, h]
      intro h2 h3
      exact absurd ⟨h2, h3⟩ h1
  | a :: b :: c :: r =>
    simp [numL]
/-! Sets of weeks between strokes. -/
def slashOf (s : ByteArray) : List ByteArray := Lib.splitB ⟨#[47]⟩ 0 (Lib.countB s ⟨#[47]⟩) s
def patV (n : Int) (z : ByteArray) : Int := ((parseV z n).1 : Int)
def patE (n : Int) (z : ByteArray) : Int := ((parseV z n).2 : Int)
/-- The error of sets of weeks. -/
def patsRE (n : Int) (zs : List ByteArray) : Int :=
  if firstE (patE n) zs ≠ 0 then firstE (patE n) zs else if 8 < zs.length then 2 else if freshTo (0 : Int) (zs.map (patV n)) zs.length = false then 11 else 0
/-! Starts. -/
def spOf (z : ByteArray) : ByteArray := ⟨(Lib.cut z.data.toList [32]).1.toArray⟩
def spBehind (z : ByteArray) : ByteArray := ⟨(Lib.cut z.data.toList [32]).2.1.toArray⟩
def spTwo (z : ByteArray) : Bool := (Lib.cut z.data.toList [32]).2.2
/-- A start and its error. -/
def startV (d sl len : Int) (z : ByteArray) : (Int × Int) × Int :=
  if spTwo z = false ∨ dayI (spOf z) < 0 ∨ numS 2 (spBehind z) = none then ((0, 0), 4) else
  if possB d sl len (dayI (spOf z), (((numS 2 (spBehind z)).getD 0 : Nat) : Int) - 1) = true then ((dayI (spOf z), (((numS 2 (spBehind z)).getD 0 : Nat) : Int) - 1), 0) else ((0, 0), 14)
def startP (d sl len : Int) (z : ByteArray) : Int × Int := (startV d sl len z).1
def startE (d sl len : Int) (z : ByteArray) : Int := (startV d sl len z).2
/-- The error of starts. -/
def startsRE (d sl len : Int) (zs : List ByteArray) : Int :=
  if firstE (startE d sl len) zs ≠ 0 then firstE (startE d sl len) zs else if 24 < zs.length then 2 else if freshTo (0, 0) (zs.map (startP d sl len)) zs.length = false then 11 else 0
abbrev ascP (l : List (Int × Int)) : List (Int × Int) := ascG lessB (0, 0) l
theorem lessB_iff (a b : Int × Int) : lessB a b = true ↔ a.1 < b.1 ∨ (a.1 = b.1 ∧ a.2 < b.2) := by unfold lessB; simp
theorem lessB_no (a b : Int × Int) : lessB a b = false ↔ b.1 < a.1 ∨ (a.1 = b.1 ∧ b.2 ≤ a.2) := by unfold lessB; simp; omega
theorem lessB_trans (x y z : Int × Int) (h1 : lessB y x = false) (h2 : lessB z y = false) : lessB z x = false := by
  rw [lessB_no] at *; omega
theorem lessB_of (x y : Int × Int) (h : lessB x y = true) : lessB y x = false := by
  rw [lessB_iff] at h; rw [lessB_no]; omega
theorem lessB_anti (x y : Int × Int) (h1 : lessB y x = false) (h2 : lessB x y = false) : x = y := by
  rw [lessB_no] at h1 h2
  exact Prod.ext (by omega) (by omega)
theorem ascP_sorted (l : List (Int × Int)) : (ascP l).Pairwise (LeG lessB) := ascG_sorted lessB_trans lessB_of l
theorem ascP_eq {l m : List (Int × Int)} (hp : m.Perm l) (hm : m.Pairwise (LeG lessB)) : m = ascP l :=
  sorted_eqG lessB_anti (hp.trans (ascG_perm l).symm) hm (ascP_sorted l)
theorem ascP_next (l : List (Int × Int)) : nextDiff (ascP l) = freshTo (0, 0) l l.length := by
  rw [Bool.eq_iff_iff, nextDiff_iff (R := LeG lessB) (fun x y h1 h2 => lessB_anti x y h1 h2) _ (ascP_sorted l), freshTo_all]
  exact (ascG_perm l).nodup_iff
end Go.Proofs.YtimcdikeajbabaaGreatDoor

namespace Go.Proofs.YtimcdikeajbabaaGreatDoor
open Go.RowKit
set_option maxRecDepth 100000

/-- Where a number stands first; behind all, if it does not. -/
def numI (n : Int) : List Int → Nat
  | [] => 0
  | x :: r => if x = n then 0 else numI n r + 1
theorem numI_hit {n : Int} : ∀ {l : List Int} {j : Nat}, l[j]? = some n → n ∉ l.take j → numI n l = j
  | [], j, h, _ => by simp at h
  | x :: r, 0, h, _ => by
    simp at h
    rw [numI, if_pos h]
  | x :: r, j + 1, h, hn => by
    rw [List.take_succ_cons, List.mem_cons, not_or] at hn
    rw [numI, if_neg (fun e => hn.1 e.symm), numI_hit (l := r) (j := j) (by simpa using h) hn.2]
theorem numI_none {n : Int} : ∀ {l : List Int}, n ∉ l → numI n l = l.length
  | [], _ => rfl
  | x :: r, h => by
    rw [List.mem_cons, not_or] at h
    rw [numI, if_neg (fun e => h.1 e.symm), numI_none h.2]; rfl
theorem numI_lt {n : Int} : ∀ {l : List Int} {i : Nat}, i ≤ l.length → (numI n l < i ↔ n ∈ l.take i)
  | [], i, h => by
    have : i = 0 := by simpa using h
    subst this; simp [numI]
  | x :: r, 0, _ => by simp
  | x :: r, i + 1, h => by
    rw [List.take_succ_cons, List.mem_cons, numI]
    by_cases e : x = n
    · rw [if_pos e]; simp [e]
    · rw [if_neg e]
      have := numI_lt (n := n) (l := r) (i := i) (by simpa using h)
      constructor
      · intro h2; exact Or.inr (this.1 (by omega))
      · rintro (h2 | h2)
        · exact absurd h2.symm e
        · have := this.2 h2; omega
theorem At.start {S : Nat → Prop} {w : World} {A : Option Addr} {l : List (Int × Int)} {j : Nat} {x : Int × Int} (h : At kStart S w A l) (hj : l[j]? = some x) :
    ∃ b off, A = some ⟨b, off, none⟩ ∧ S b ∧ b < w.heap.size ∧ w.cell? ⟨b, off + j * 2, none⟩ = some (.int .i64 x.1) ∧ w.cell? ⟨b, off + j * 2 + 1, none⟩ = some (.int .i64 x.2) := by
  obtain ⟨b, off, vs, e, hs, hlt, ⟨us, ts, rfl, h1, h2⟩, hc⟩ := h.get hj
  have h1 : us = [.int .i64 x.1] := h1
  have h2 : ts = [.int .i64 x.2] := h2
  subst h1 h2
  exact ⟨b, off, e, hs, hlt, hc 0 _ rfl, hc 1 _ rfl⟩
theorem take_mem {l : List Int} {j : Nat} {x n : Int} (hx : l[j]? = some x) (h : n ∉ l.take j) (hne : x ≠ n) : n ∉ l.take (j + 1) := by
  rw [List.take_add_one, hx, List.mem_append, not_or]
  exact ⟨h, by simpa using fun e => hne e.symm⟩
set_option maxHeartbeats 2000000 in
theorem r10number_walk (A : Option Addr) (l : List Int) (c : Nat) (n : Int) (w : World) (hn : l.length ≤ 9223372036854775807) (h : At kInt AnyB w A l) :
    Calls Tryz.prog 97 #[.slice A l.length c, .int .i64 n] w fun e w' => e = .returned (.int .i64 (numI n l)) ∧ w = w' := by
  obtain ⟨N, hnn⟩ : ∃ N, l.length = N := ⟨_, rfl⟩
  rw [hnn] at hn ⊢
  replace hnn := hide hnn
  go_enter Tryz.func97, Tryz.ntmps97
  go_wp2
  go_loop [5] (fun i => ∃ j : Nat, j ≤ N ∧ i = .int .i64 j ∧ Hid (n ∉ l.take j)) (fun i => N - (intOf i).toNat)
  case atStart => exact ⟨0, Nat.zero_le _, rfl, hide (by simp)⟩
  case round =>
    obtain ⟨j, hj, rfl, ho⟩ := hrel
    by_cases hlt : j < N
    · obtain ⟨x, hx⟩ : ∃ x, l[j]? = some x := ⟨_, List.getElem?_eq_getElem (by rw [hnn.out]; exact hlt)⟩
      obtain ⟨b, off, rfl, -, hbb, q0⟩ := h.int hx
      have hj0 : (0 : Int) ≤ (j : Int) := by omega
      have hj1 : (j : Int) < (N : Int) := by omega
      by_cases hq : x = n
      · have hit := hide (numI_hit (hq ▸ hx) ho.out)
        have hq2 : (x == n) = true := by simpa using hq
        replace hq := hide hq
        clear hx h ho
        go_wp2
        go_ret
        exact ⟨by rw [hit.out]; rfl, rfl⟩
      · have miss := hide (take_mem hx ho.out hq)
        have hq2 : (x == n) = false := by simpa using hq
        clear hx h ho
        go_wp2
        go_round
        case rel => exact ⟨j + 1, by omega, by go_num, miss⟩
        case measure => simp [intOf]; omega
    · obtain rfl : j = N := by omega
      have hall : Hid (numI n l = j) := hide (by
        have := ho.out
        rw [List.take_of_length_le (by rw [hnn.out]; exact Nat.le_refl _)] at this
        rw [numI_none this, hnn.out])
      clear h
      go_wp2
      go_ret
      exact ⟨by rw [hall.out]; rfl, rfl⟩
/-! slices.Index and Contains at numbers. -/
def posI (n : Int) (l : List Int) : Int := if numI n l < l.length then (numI n l : Int) else -1
theorem posI_hit {n : Int} {l : List Int} {j : Nat} (h : l[j]? = some n) (hn : n ∉ l.take j) : posI n l = (j : Int) := by
  have hj := (List.getElem?_eq_some_iff.1 h).1
  unfold posI
  rw [numI_hit h hn, if_pos hj]
theorem posI_none {n : Int} {l : List Int} (h : n ∉ l) : posI n l = -1 := by
  unfold posI
  rw [numI_none h, if_neg (Nat.lt_irrefl _)]
theorem posI_mem {n : Int} {l : List Int} : 0 ≤ posI n l ↔ n ∈ l := by
  unfold posI
  have h := numI_lt (n := n) (l := l) (Nat.le_refl _)
  rw [List.take_length] at h
  by_cases hl : numI n l < l.length
  · rw [if_pos hl]
    exact ⟨fun _ => h.1 hl, fun _ => by omega⟩
  · rw [if_neg hl]
    exact ⟨fun h2 => absurd h2 (by decide), fun h2 => absurd (h.2 h2) hl⟩
set_option maxHeartbeats 2000000 in
theorem iindex_walk (A : Option Addr) (xs : List Int) (c : Nat) (z : Int) (w : World) (hn : xs.length ≤ 9223372036854775807) (h : At kInt AnyB w A xs) :
    Calls Tryz.prog 143 #[.slice A xs.length c, .int .i64 z] w fun e w' => e = .returned (.int .i64 (posI z xs)) ∧ w = w' := by
  obtain ⟨n, hnn⟩ : ∃ n, xs.length = n := ⟨_, rfl⟩
  rw [hnn] at hn ⊢
  replace hnn := hide hnn
  go_enter Tryz.func143, Tryz.ntmps143
  go_wp2
  go_loop [5, 8] (fun _ i => ∃ j : Nat, j ≤ n ∧ i = .int .i64 j ∧ Hid (z ∉ xs.take j)) (fun _ i => n - (intOf i).toNat)
  case atStart => exact ⟨0, Nat.zero_le _, rfl, hide (by simp)⟩
  case round =>
    obtain ⟨j, hj, rfl, ho⟩ := hrel
    by_cases hlt : j < n
    · obtain ⟨x, hx⟩ : ∃ x, xs[j]? = some x := ⟨_, List.getElem?_eq_getElem (by rw [hnn.out]; exact hlt)⟩
      obtain ⟨b, off, rfl, -, hb, k0⟩ := h.int hx
      have hj0 : (0 : Int) ≤ (j : Int) := by omega
      have hj1 : (j : Int) < (n : Int) := by omega
      by_cases hq : x = z
      · have hit := hide (posI_hit (hq ▸ hx) ho.out)
        have hq1 : (z == x) = true := by simpa using hq.symm
        have hq2 : (x == z) = true := by simpa using hq
        replace hq := hide hq
        clear hx h ho
        go_wp2
        go_ret
        exact ⟨by rw [hit.out]; rfl, rfl⟩
      · have miss := hide (take_mem hx ho.out hq)
        have hq1 : (z == x) = false := by simpa using fun e => hq e.symm
        have hq2 : (x == z) = false := by simpa using hq
        have hq3 : ¬ z = x := fun e => hq e.symm
        clear hx h ho
        go_wp2
        go_round
        case rel => exact ⟨j + 1, by omega, by go_num, miss⟩
        case measure => simp [intOf]; omega
    · obtain rfl : j = n := by omega
      have hall : Hid (posI z xs = -1) := hide (posI_none (by have := ho.out; rwa [List.take_of_length_le (by rw [hnn.out]; exact Nat.le_refl _)] at this))
      clear h
      go_wp2
      go_ret
      exact ⟨by rw [hall.out]; rfl, rfl⟩
theorem icontains_walk (A : Option Addr) (xs : List Int) (c : Nat) (z : Int) (w : World) (hn : xs.length ≤ 9223372036854775807) (h : At kInt AnyB w A xs) :
    Calls Tryz.prog 105 #[.slice A xs.length c, .int .i64 z] w fun e w' => e = .returned (.bool (decide (z ∈ xs))) ∧ w = w' := by
  have hm : decide (0 ≤ posI z xs) = decide (z ∈ xs) := decide_eq_decide.2 posI_mem
  rw [← hm]
  clear hm
  go_enter Tryz.func105, Tryz.ntmps105
  go_wp2_with fail
  refine (iindex_walk A xs c z w hn h).mono ?_
  rintro e w' ⟨rfl, rfl⟩
  go_wp2
  go_ret
  exact ⟨rfl, rfl⟩
end Go.Proofs.YtimcdikeajbabaaGreatDoor

namespace Go.Proofs.YtimcdikeajbabaaGreatDoor
open Go.RowKit
set_option maxRecDepth 100000

theorem noted_or {pr0 : Option Prob} {line col a e : Int} : noted (orP pr0 (probOf line col a)) (decide (e ≠ 0)) (line, col, e) = orP pr0 (probOf line col (if a = 0 then e else a)) := by
  cases pr0 with
  | none => exact noted_prob line col a e
  | some p => rfl
/-- The error of doubles behind another. -/
def dupE (a : Int) (vs : List Int) (i : Nat) : Int := if a ≠ 0 then a else if freshTo (0 : Int) vs i = false then 11 else 0
theorem dupE_hit {a : Int} {vs : List Int} {i : Nat} {x : Int} (hx : vs[i]? = some x) (hm : x ∈ vs.take i) : dupE a vs (i + 1) = if dupE a vs i = 0 then 11 else dupE a vs i := by
  have hf : freshTo (0 : Int) vs (i + 1) = false := by
    rw [freshTo, List.getD_eq_getElem?_getD, hx]
    show (_ && !decide (x ∈ vs.take i)) = false
    rw [decide_eq_true hm]; simp
  unfold dupE
  rw [hf]
  by_cases ha : a = 0
  · subst ha
    rw [if_neg (show ¬ ((0 : Int) ≠ 0) from fun h => h rfl)]
    simp only [ne_eq, not_true_eq_false, if_false]
    cases freshTo (0 : Int) vs i <;> simp
  · rw [if_pos ha, if_pos ha, if_neg ha]
theorem dupE_miss {a : Int} {vs : List Int} {i : Nat} {x : Int} (hx : vs[i]? = some x) (hm : x ∉ vs.take i) : dupE a vs (i + 1) = dupE a vs i := by
  have hf : freshTo (0 : Int) vs (i + 1) = freshTo 0 vs i := by
    rw [freshTo, List.getD_eq_getElem?_getD, hx]
    show (_ && !decide (x ∈ vs.take i)) = _
    rw [decide_eq_false hm]; simp
  unfold dupE
  rw [hf]
theorem slashOf_len (s : ByteArray) : (slashOf s).length ≤ s.size + 1 := by
  unfold slashOf
  rw [splitB_len]
  have := Lib.countB_le ⟨#[47]⟩ (Nat.le_refl 1) _ s (Nat.le_refl _)
  omega
theorem slashOf_mem (s : ByteArray) : ∀ z ∈ slashOf s, z.size ≤ s.size := fun _ hz => splitB_mem rfl hz
def PatAny (g : Nat) (line : Int) (F : Option Addr) (fs : List Fld) (c k : Nat) (n : Int) (pr : Option Prob) (w : World) (e : Ending) (w' : World) : Prop :=
  ∃ (k' : Nat) (ps : List Int) (v : Value) (pr' : Option Prob), e = .returned v ∧ Own kInt 3 [] 0 w.heap.size w' v ps ∧ Scan w' g line F fs.length c k' pr' ∧ Only g w w' ∧ 1 ≤ k' ∧ k' ≤ k + 1 ∧
    (pr = none → k' = k + 1 ∧ ps = (slashOf (textAt fs k)).map (patV n) ∧ pr' = probOf line (colAt fs (k + 1)) (patsRE n (slashOf (textAt fs k)))) ∧ (∀ p, pr = some p → pr' = some p)
theorem Own.noteT {α : Type} {K : Kind α} {t : TypeId} {g B : Nat} {w w' : World} {v : Value} {l : List α} (h : Own K t [] 0 B w v l) (ho : Only g w w') (hg : g < B) : Own K t [] 0 B w' v l :=
  h.kept ho (by
    cases hv : v.ownBlock with
    | none => exact .inl rfl
    | some y => exact .inr fun e => by injection e with e; have := (h.lt y hv).1; omega) (fun y _ => ⟨Nat.zero_le _, fun h => by obtain ⟨-, cs, t', -, ht⟩ := h; simp at ht⟩)
/-- The walk from behind Next on: the text is known, a problem may be noted. -/
def PatLoop (n : Int) (zs : List ByteArray) (B : Nat) (w1 : World) (g : Nat) (line col : Int) (F : Option Addr) (q c k : Nat) (pr0 : Option Prob) (v i : Value) (wr : World) : Prop :=
  ∃ j : Nat, j ≤ zs.length ∧ i = .int .i64 j ∧ Own kInt 3 [] 0 B wr v ((zs.take j).map (patV n)) ∧ Scan wr g line F q c k (orP pr0 (probOf line col (firstE (patE n) (zs.take j)))) ∧ Only g w1 wr
def DupLoop (vs : List Int) (a : Int) (w2 : World) (g : Nat) (line col : Int) (F : Option Addr) (q c k : Nat) (pr0 : Option Prob) (i : Value) (wr : World) : Prop :=
  ∃ j : Nat, j ≤ vs.length ∧ i = .int .i64 j ∧ Scan wr g line F q c k (orP pr0 (probOf line col (dupE a vs j))) ∧ Only g w2 wr
theorem pats_total (n : Int) (zs : List ByteArray) : dupE (if 8 < zs.length then (if firstE (patE n) zs = 0 then 2 else firstE (patE n) zs) else firstE (patE n) zs) (zs.map (patV n)) zs.length = patsRE n zs := by
  unfold dupE patsRE
  by_cases h0 : firstE (patE n) zs = 0
  · by_cases h8 : 8 < zs.length
    · simp [h0, h8]
    · simp [h0, h8]
  · by_cases h8 : 8 < zs.length
    · simp [h0, h8]
    · simp [h0, h8]
theorem next_any (B g : Nat) (line : Int) (F : Option Addr) (fs : List Fld) (c k : Nat) (pr : Option Prob) (w : World) (h : Scan w g line F fs.length c k pr) (hF : FieldsAt B w F fs) (h2 : k < fs.length) (hm : fs.length ≤ 1000) (hB : B ≤ g) (h1 : ∀ p, pr = some p → 1 ≤ k) (hsz : (textAt fs k).size < 1073741824) :
    Calls Tryz.prog 101 #[.pointer (some ⟨g, 0, none⟩)] w fun e w' => ∃ (s : ByteArray) (k' : Nat), e = .returned (.string s) ∧ Scan w' g line F fs.length c k' pr ∧ Only g w w' ∧ 1 ≤ k' ∧ k' ≤ k + 1 ∧ s.size < 1073741824 ∧ (pr = none → k' = k + 1 ∧ s = textAt fs k) := by
  cases pr with
  | none => exact (fnext_go B g line F fs c k w h hF h2 hm hB).mono fun e w' ⟨he, hs, ho⟩ => ⟨_, _, he, hs, ho, by omega, Nat.le_refl _, hsz, fun _ => ⟨rfl, rfl⟩⟩
  | some p => exact (fnext_stop g line F fs.length c k p w h).mono fun e w' ⟨he, hw⟩ => ⟨_, k, he, hw ▸ h, hw ▸ Only.refl g w, h1 p rfl, by omega, by decide, fun hp => by cases hp⟩
theorem apd_intsP : Apd Tryz.prog 36 3 1 8 := apd Tryz.underlying36 (z := .int .i64 0) (by kernel_rfl) rfl
set_option maxHeartbeats 4000000 in
theorem readPats_walk (B g : Nat) (line : Int) (F : Option Addr) (fs : List Fld) (c k : Nat) (n : Int) (pr : Option Prob) (w : World) (hS : Std w) (h : Scan w g line F fs.length c k pr) (hF : FieldsAt B w F fs) (h2 : k < fs.length) (hm : fs.length ≤ 1000) (hB : B ≤ g) (hG : 12 ≤ B) (h1 : ∀ p, pr = some p → 1 ≤ k) (hsz : (textAt fs k).size < 1073741824) :
    Calls Tryz.prog 69 #[.pointer (some ⟨g, 0, none⟩), .int .i64 n] w fun e w' => PatAny g line F fs c k n pr w e w' := by
  have hgl := h.lt
  go_enter Tryz.func69, Tryz.ntmps69
  go_wp2_with fail
  refine (next_any B g line F fs c k pr w h hF h2 hm hB h1 hsz).mono ?_
  rintro e w1 ⟨s, k1, rfl, hs1, ho1, i1, j1, hs30, hnone⟩
  obtain ⟨zs, hz⟩ : ∃ zs, slashOf s = zs := ⟨_, rfl⟩
  have hzl : zs.length ≤ 1073741825 := by have := slashOf_len s; rw [hz] at this; omega
  have hzm : ∀ z ∈ zs, z.size < 1073741824 := by have := slashOf_mem s; rw [hz] at this; intro z hh; have := this z hh; omega
  have hS1 := ho1.std hS (by omega)
  have hF1 := hF.only ho1 hB (by omega)
  have hz1 := ho1.size
  clear h hF hS
  go_wp2_with fail
  refine (split_walk' 47 s zs hz (by omega) w1 hS1).mono ?_
  rintro e w2 ⟨rfl, hb2, hcl⟩
  have hs2 := hs1.later hb2
  have ho2 : Only g w w2 := Only.later ho1 hb2
  have hS2 := hS1.after hb2
  have hF2 := hF1.below (hb2.mono (by omega))
  obtain ⟨pb, hpb⟩ : ∃ pb, w1.heap.size = pb := ⟨_, rfl⟩
  rw [hpb] at hcl ⊢
  have hz2 := hb2.size
  obtain ⟨len, hlen⟩ : ∃ len, zs.length = len := ⟨_, rfl⟩
  rw [hlen] at hzl ⊢
  obtain ⟨col, hcol⟩ : ∃ col, colAt fs k1 = col := ⟨_, rfl⟩
  have hgb : g < pb := by omega
  have hpl : 0 < len → pb < w2.heap.size := fun hl => by
    obtain ⟨z, hzz⟩ : ∃ z, zs[0]? = some z := ⟨_, List.getElem?_eq_getElem (by omega)⟩
    exact World.block_lt_of_cell? _ _ (hcl 0 z hzz)
  replace hlen := hide hlen
  replace hcol := hide hcol
  replace hz := hide hz
  replace hzm := hide hzm
  replace hcl := hide hcl
  replace hpb := hide hpb
  replace hnone := hide hnone
  clear hs1 ho1 hS1 hF1 hb2
  go_wp2_with fail
  go_loopw [5, 16] (fun v i wr => PatLoop n zs w2.heap.size w2 g line col F fs.length c k1 pr v i wr) (fun _ i _ => len - (intOf i).toNat)
  case atStart => exact ⟨0, Nat.zero_le _, rfl, Own.nil, by rw [List.take_zero]; show Scan w2 g line F fs.length c k1 (orP pr (probOf line col 0)); cases pr <;> exact hs2, World.grownBy.refl _ _⟩
  case round =>
    obtain ⟨j, hj, rfl, hown, hsr, hor⟩ := hrel
    rw [hlen.out] at hj
    by_cases hlt : j < len
    · obtain ⟨z, hzj⟩ : ∃ z, zs[j]? = some z := ⟨_, List.getElem?_eq_getElem (by rw [hlen.out]; exact hlt)⟩
      have hzz := hzm.out z (List.mem_of_getElem? hzj)
      have hpw : pb < w2.heap.size := hpl (by omega)
      have hcj := (hor.cell hpw (by omega)).trans (hcl.out j z hzj)
      have hSr := hor.std hS2 (by omega)
      have hFr := hF2.only hor hB (by omega)
      have hwr := hor.size
      have hpr : pb < wr.heap.size := by omega
      have hj0 : (0 : Int) ≤ (j : Int) := by omega
      have hj1 : (j : Int) < (len : Int) := by omega
      obtain ⟨p, hp⟩ : ∃ p, (parseV z n).1 = p := ⟨_, rfl⟩
      obtain ⟨er, her⟩ : ∃ er, (parseV z n).2 = er := ⟨_, rfl⟩
      have hts : Hid ((zs.take (j + 1)).map (patV n) = (zs.take j).map (patV n) ++ [(p : Int)]) := hide ((take_map _ zs j z hzj).trans (by unfold patV; rw [hp]))
      have hes : Hid (firstE (patE n) (zs.take (j + 1)) = if firstE (patE n) (zs.take j) = 0 then (er : Int) else firstE (patE n) (zs.take j)) := hide ((take_first _ zs j z hzj).trans (by unfold patE; rw [her]))
      have hcall := wsParse_walk z n hzz wr hSr
      rw [hp, her] at hcall
      obtain ⟨ps, hps⟩ : ∃ ps, (zs.take j).map (patV n) = ps := ⟨_, rfl⟩
      have htl : ps.length ≤ j := by rw [← hps, List.length_map]; exact List.length_take_le _ _
      rw [hps] at hown hts
      obtain ⟨e0, he0⟩ : ∃ e0, firstE (patE n) (zs.take j) = e0 := ⟨_, rfl⟩
      rw [he0] at hsr hes
      clear hps he0 hzj hp her
      go_wp2_with fail
      refine hcall.mono ?_
      rintro e w3 ⟨rfl, hb3⟩
      have hs3 := hsr.later hb3
      have hF3 := hFr.below (hb3.mono (by omega))
      have hown3 := hown.later hb3
      have ho3 := hor.later hb3
      have hz3 := hb3.size
      clear hcall hown hsr hor hFr hSr hb3 hcj
      go_wp2_with fail
      refine (fail_walk B g line F fs c k1 _ er w3 hs3 hF3 i1 (by omega) hm).mono ?_
      rintro e w4 ⟨rfl, hs4, ho4⟩
      rw [hcol.out, noted_or] at hs4
      have hown4 := hown3.noteT ho4 (by omega)
      have ho4' := ho3.trans ho4
      have hz4 := ho4.size
      clear hown3 hs3 ho3 ho4 hF3
      go_wp2_with (at_builtin; refine wpList_own (K := kInt) (t := 3) (ts := []) (B0 := 0) (B := w2.heap.size) rfl _ _ rfl apd_intsP (by decide) rfl (hown4.alloc _) (by omega) (by decide) ⟨w4.heap.size, 0, none⟩ 1 rfl (p : Int) [.int .i64 (p : Int)] rfl (World.news_of_block (cs := #[.int .i64 (p : Int)]) (t := 3) (fr := (0, 0)) (heap_alloc_new _ _)) (by decide) (Nat.zero_le _) (by rw [World.size_alloc]; omega) ?_; intro v' w5 hown5 hgrow)
      have hfar : some g ≠ u5.ownBlock := fun e => by have := (hown4.lt g e.symm).1; omega
      have hs5 : Scan w5 g line F fs.length c k1 (orP pr (probOf line col (if e0 = 0 then (er : Int) else e0))) := by
        obtain ⟨vss, e1, e2, e3⟩ := hown4
        exact (hs4.later (ext_alloc (Below.refl _ _) _)).grown (e2.alloc _) hgrow hfar (by decide)
      have ho5 : Only g w2 w5 := (Only.later ho4' (ext_alloc (Below.refl _ _) _)).trans_own hgrow (fun x e => (hown4.lt x e).1)
      clear hown4 hs4 ho4' hgrow hfar
      go_wp2
      go_roundw
      case rel => exact ⟨j + 1, by rw [hlen.out]; omega, by go_num, by rw [hts.out]; exact hown5, by rw [hes.out]; exact hs5, ho5⟩
      case measure => simp [intOf]; omega
    · obtain rfl : j = len := by omega
      have hall : zs.take j = zs := by rw [← hlen.out]; exact List.take_length
      rw [hall] at hown hsr
      have htot0 := pats_total n zs
      obtain ⟨E0, hE0⟩ : ∃ E0, firstE (patE n) zs = E0 := ⟨_, rfl⟩
      obtain ⟨vs, hvs⟩ : ∃ vs, zs.map (patV n) = vs := ⟨_, rfl⟩
      have hvl : vs.length = j := by rw [← hvs, List.length_map]; exact hlen.out
      rw [hE0] at hsr htot0
      rw [hvs] at hown htot0
      rw [hlen.out] at htot0
      have hFr := hF2.only hor hB (by omega)
      have how := ho2.trans hor
      have hwr := hor.size
      obtain ⟨A6, c6, rfl, hcap, -⟩ := hown.any
      rw [hvl] at hown hcap ⊢
      have hvs' : vs = (slashOf s).map (patV n) := by rw [hz.out, hvs]
      replace hvs := hide hvs'
      replace hvl := hide hvl
      clear hvs' hall hE0 hcl hzm
      by_cases h8 : 8 < j
      · have h8i : (8 : Int) < (j : Int) := by omega
        rw [if_pos h8] at htot0
        go_wp2_with fail
        refine (fail_walk B g line F fs c k1 _ 2 _ hsr hFr i1 (by omega) hm).mono ?_
        rintro e wq ⟨rfl, hsq, ho3⟩
        rw [hcol.out, noted_or] at hsq
        have hoq := how.trans ho3
        have hownq := hown.noteT ho3 (by omega)
        have hFq := hFr.only ho3 hB (by omega)
        have hzq := ho3.size
        obtain ⟨a, ha⟩ : ∃ a, (if E0 = 0 then 2 else E0) = a := ⟨_, rfl⟩
        rw [ha] at hsq htot0
        have htot := hide htot0
        clear hown hsr hFr how ho3 ha htot0 hor
        go_wp2_with fail
        (
              go_loopw [41] (fun i W => DupLoop vs a wq g line col F fs.length c k1 pr i W) (fun i _ => j - (intOf i).toNat)
              case atStart => exact ⟨0, Nat.zero_le _, rfl, by
                have e : dupE a vs 0 = a := by unfold dupE; by_cases ha : a = 0; · rw [if_neg (by simp [ha])]; simp [freshTo, ha]
                                               · rw [if_pos ha]
                rw [e]; exact hsq, World.grownBy.refl _ _⟩
              case round =>
                obtain ⟨i, hi, rfl, hsr, hor⟩ := hrel
                rw [hvl.out] at hi
                have hFr := hFq.only hor hB (by omega)
                have hwr := hor.size
                by_cases hlt2 : i < j
                · obtain ⟨x, hx⟩ : ∃ x, vs[i]? = some x := ⟨_, List.getElem?_eq_getElem (by rw [hvl.out]; exact hlt2)⟩
                  have hatr := (hownq.noteT hor (by omega)).any'
                  obtain ⟨vb, vo, rfl, hvg, hvb, x0⟩ := hatr.int hx
                  have hj0 : (0 : Int) ≤ (i : Int) := by omega
                  have hj1 : (i : Int) < (j : Int) := by omega
                  have hic : (i : Int) ≤ (c6 : Int) := by omega
                  have hcon := icontains_walk (some ⟨vb, vo, none⟩) (vs.take i) c6 x wr (by rw [List.length_take]; omega) hatr.take.any
                  rw [List.length_take, hvl.out, Nat.min_eq_left hi] at hcon
                  by_cases hmm : x ∈ vs.take i
                  · have hd := hide (dupE_hit (a := a) hx hmm)
                    rw [decide_eq_true hmm] at hcon
                    clear hx hmm
                    go_wp2_with fail
                    refine hcon.mono ?_
                    rintro e W2 ⟨rfl, rfl⟩
                    go_wp2_with fail
                    refine (fail_walk B g line F fs c k1 _ 11 _ hsr hFr i1 (by omega) hm).mono ?_
                    rintro e W3 ⟨rfl, hs3, ho3⟩
                    rw [hcol.out, noted_or] at hs3
                    have ho4 := hor.trans ho3
                    clear hcon hsr hor ho3
                    go_wp2
                    go_roundw
                    case rel => exact ⟨i + 1, by rw [hvl.out]; omega, by go_num, by rw [hd.out]; exact hs3, ho4⟩
                    case measure => simp [intOf]; omega
                  · have hd := hide (dupE_miss (a := a) hx hmm)
                    rw [decide_eq_false hmm] at hcon
                    clear hx hmm
                    go_wp2_with fail
                    refine hcon.mono ?_
                    rintro e W2 ⟨rfl, rfl⟩
                    go_wp2
                    go_roundw
                    case rel => exact ⟨i + 1, by rw [hvl.out]; omega, by go_num, by rw [hd.out]; exact hsr, hor⟩
                    case measure => simp [intOf]; omega
                · obtain rfl : i = j := by omega
                  have howne := hownq.noteT hor (by omega)
                  have hoe := hoq.trans hor
                  clear hFr hFq
                  go_wp2
                  go_ret
                  exact ⟨k1, vs, _, _, rfl, howne.lower (by omega), hsr, hoe, i1, j1, (fun hp => by
                    obtain ⟨e1, e2⟩ := hnone.out hp
                    subst hp
                    refine ⟨e1, by rw [← e2]; exact hvs.out, ?_⟩
                    rw [← e2, ← e1, hcol.out]
                    show probOf line col (dupE a vs i) = _
                    rw [htot.out, hz.out]), fun p hp => by subst hp; rfl⟩)
      · have h8i : ¬ (8 : Int) < (j : Int) := by omega
        rw [if_neg h8] at htot0
        have hsq := hsr
        have hoq := how
        have hownq := hown
        have hFq := hFr
        obtain ⟨a, ha⟩ : ∃ a, E0 = a := ⟨_, rfl⟩
        rw [ha] at hsq htot0
        have htot := hide htot0
        clear hown hsr hFr how ha htot0 hor
        rename World => wq
        go_wp2_with fail
        (
              go_loopw [41] (fun i W => DupLoop vs a wq g line col F fs.length c k1 pr i W) (fun i _ => j - (intOf i).toNat)
              case atStart => exact ⟨0, Nat.zero_le _, rfl, by
                have e : dupE a vs 0 = a := by unfold dupE; by_cases ha : a = 0; · rw [if_neg (by simp [ha])]; simp [freshTo, ha]
                                               · rw [if_pos ha]
                rw [e]; exact hsq, World.grownBy.refl _ _⟩
              case round =>
                obtain ⟨i, hi, rfl, hsr, hor⟩ := hrel
                rw [hvl.out] at hi
                have hFr := hFq.only hor hB (by omega)
                have hwr := hor.size
                by_cases hlt2 : i < j
                · obtain ⟨x, hx⟩ : ∃ x, vs[i]? = some x := ⟨_, List.getElem?_eq_getElem (by rw [hvl.out]; exact hlt2)⟩
                  have hatr := (hownq.noteT hor (by omega)).any'
                  obtain ⟨vb, vo, rfl, hvg, hvb, x0⟩ := hatr.int hx
                  have hj0 : (0 : Int) ≤ (i : Int) := by omega
                  have hj1 : (i : Int) < (j : Int) := by omega
                  have hic : (i : Int) ≤ (c6 : Int) := by omega
                  have hcon := icontains_walk (some ⟨vb, vo, none⟩) (vs.take i) c6 x wr (by rw [List.length_take]; omega) hatr.take.any
                  rw [List.length_take, hvl.out, Nat.min_eq_left hi] at hcon
                  by_cases hmm : x ∈ vs.take i
                  · have hd := hide (dupE_hit (a := a) hx hmm)
                    rw [decide_eq_true hmm] at hcon
                    clear hx hmm
                    go_wp2_with fail
                    refine hcon.mono ?_
                    rintro e W2 ⟨rfl, rfl⟩
                    go_wp2_with fail
                    refine (fail_walk B g line F fs c k1 _ 11 _ hsr hFr i1 (by omega) hm).mono ?_
                    rintro e W3 ⟨rfl, hs3, ho3⟩
                    rw [hcol.out, noted_or] at hs3
                    have ho4 := hor.trans ho3
                    clear hcon hsr hor ho3
                    go_wp2
                    go_roundw
                    case rel => exact ⟨i + 1, by rw [hvl.out]; omega, by go_num, by rw [hd.out]; exact hs3, ho4⟩
                    case measure => simp [intOf]; omega
                  · have hd := hide (dupE_miss (a := a) hx hmm)
                    rw [decide_eq_false hmm] at hcon
                    clear hx hmm
                    go_wp2_with fail
                    refine hcon.mono ?_
                    rintro e W2 ⟨rfl, rfl⟩
                    go_wp2
                    go_roundw
                    case rel => exact ⟨i + 1, by rw [hvl.out]; omega, by go_num, by rw [hd.out]; exact hsr, hor⟩
                    case measure => simp [intOf]; omega
                · obtain rfl : i = j := by omega
                  have howne := hownq.noteT hor (by omega)
                  have hoe := hoq.trans hor
                  clear hFr hFq
                  go_wp2
                  go_ret
                  exact ⟨k1, vs, _, _, rfl, howne.lower (by omega), hsr, hoe, i1, j1, (fun hp => by
                    obtain ⟨e1, e2⟩ := hnone.out hp
                    subst hp
                    refine ⟨e1, by rw [← e2]; exact hvs.out, ?_⟩
                    rw [← e2, ← e1, hcol.out]
                    show probOf line col (dupE a vs i) = _
                    rw [htot.out, hz.out]), fun p hp => by subst hp; rfl⟩)
end Go.Proofs.YtimcdikeajbabaaGreatDoor
