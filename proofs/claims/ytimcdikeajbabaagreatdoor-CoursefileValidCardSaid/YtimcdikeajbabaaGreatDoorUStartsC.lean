/- Arguments of curricula and of classes opened to data of kinds. No condition. Classes as data, whole; what is wrong with classes (plain). No walk. Walks of coursefile.possible, order, timetableref10.possible, less, and cmp.Compare at numbers. Conditions: bounds. Walk of timetableref10.number: where a number stands in a list. Conditions: the cells. A block that holds a class, known as a whole. No condition. Walk of coursefile.starts. Conditions: the cells; bounds. -/
import Derived.Test.YtimcdikeajbabaaGreatDoorRows
import Derived.WalkKit
import Derived.WalkSpells
import Derived.WalkLawsBesides
import Derived.BigGuardPart
import Derived.Lib.Hide
import Derived.Laws.BitsAllLaws
import Derived.Laws.BitsLemmas
import Derived.Lib.LaidTab
import Derived.Test.YtimcdikeajbabaaGreatDoorShelf
import Derived.Lib.ConvBytes
import Derived.Deep.QuietTactic
import Derived.BigQuiet
import Derived.Test.YtimcdikeajbabaaGreatDoorCards
import Derived.Test.YtimcdikeajbabaaGreatDoorTie
import Derived.ProofKit
import Derived.OpenShut
import Derived.LaidMore
import Derived.Lay
import Derived.SevenTiedAt
import Derived.Stop.Joined
import Derived.Stop.LaidErr
import Derived.Deep.DeepHandedRow
import Derived.Lib.LaidU8
import Derived.LaidSub
import Derived.Laws.ResultCell
import Derived.RegionTactic
import Derived.BigRegion
import Derived.Deep.RegionHeld3
import Derived.Deep.DeepCutAuto
import Derived.Lib.SmallJoins
import Derived.Lib.SplitLaws
import Derived.Lib.CountLaws
import Derived.Lib.IndexMore
import Derived.Lib.Split
import Derived.Lib.Join
import Derived.Lib.ItoaNum
import Derived.Laws.AppendOwn
import Derived.Deep.Slices
import Derived.Deep.Fields
import Derived.ChangeSame
import Derived.Test.YtimcdikeajbabaaGreatDoorShelfS
import Derived.Test.YtimcdikeajbabaaGreatDoorShelfT
import Derived.Lib.ItoaLen
import Derived.Lib.AppendIntMem
import Derived.Deep.AppendLies
import Derived.Lib.PathFns
import Derived.Maps.Range
import Derived.Lib.OwnBridge
import Derived.Sort.OwnSorted
import Derived.Test.YtimcdikeajbabaaGreatDoorUKindArg
import Derived.Test.YtimcdikeajbabaaGreatDoorULater
import Derived.Sort.Walk0
import Derived.Test.YtimcdikeajbabaaGreatDoorUTgB
import Derived.Test.YtimcdikeajbabaaGreatDoorUIdxS
import Derived.Test.YtimcdikeajbabaaGreatDoorUROneP
import Derived.Test.YtimcdikeajbabaaGreatDoorUSameL
namespace Go.Proofs.YtimcdikeajbabaaGreatDoor
open Go.RowKit
set_option maxRecDepth 100000

theorem opens_strsA (G : Good) : Opens G Tryz.prog 44 (kSlice kStr) fun l => G.len l.length ∧ l.length ≤ maxLen ∧ ∀ x ∈ l, G.str x ∧ x.size ≤ maxLen :=
  opens_slice Tryz.underlying44 (by kernel_rfl) (by decide) (opens_str Tryz.underlying9 (by kernel_rfl))
theorem opens_intsA (G : Good) : Opens G Tryz.prog 36 (kSlice kInt) fun l => G.len l.length ∧ l.length ≤ maxLen ∧ ∀ x ∈ l, True :=
  opens_slice Tryz.underlying36 (by kernel_rfl) (by decide) (opens_int Tryz.underlying3 (by kernel_rfl))
theorem opens_start (G : Good) : Opens G Tryz.prog 70 kStart fun _ => True ∧ True := by
  have h := opensF_cons (G := G) (P := Tryz.prog) (f := ⟨"Day", 3, 0, false, "", "", 0⟩) (o := 0) rfl (opens_int Tryz.underlying3 (by kernel_rfl)) (opensF_one (f := ⟨"Slot", 3, 1, false, "", "", 8⟩) rfl (opens_int Tryz.underlying3 (by kernel_rfl)))
  exact opens_struct Tryz.underlying70 (by kernel_rfl) h
theorem opens_starts (G : Good) : Opens G Tryz.prog 45 (kSlice kStart) fun l => G.len l.length ∧ l.length ≤ maxLen ∧ ∀ x ∈ l, True ∧ True :=
  opens_slice Tryz.underlying45 (by kernel_rfl) (by decide) (opens_start G)
/-- What is known of a class's size. -/
def ClsZ (G : Good) (x : Cls) : Prop := (G.str x.1 ∧ x.1.size ≤ maxLen) ∧ (G.str x.2.1 ∧ x.2.1.size ≤ maxLen) ∧ (G.str x.2.2.1 ∧ x.2.2.1.size ≤ maxLen) ∧ True ∧ (G.len x.2.2.2.2.1.length ∧ x.2.2.2.2.1.length ≤ maxLen ∧ ∀ y ∈ x.2.2.2.2.1, True) ∧ True ∧ (G.len x.2.2.2.2.2.2.1.length ∧ x.2.2.2.2.2.2.1.length ≤ maxLen ∧ ∀ z ∈ x.2.2.2.2.2.2.1, G.str z ∧ z.size ≤ maxLen) ∧ (G.len x.2.2.2.2.2.2.2.1.length ∧ x.2.2.2.2.2.2.2.1.length ≤ maxLen ∧ ∀ z ∈ x.2.2.2.2.2.2.2.1, G.str z ∧ z.size ≤ maxLen) ∧ (G.len x.2.2.2.2.2.2.2.2.length ∧ x.2.2.2.2.2.2.2.2.length ≤ maxLen ∧ ∀ y ∈ x.2.2.2.2.2.2.2.2, True ∧ True)
theorem opens_cls (G : Good) : Opens G Tryz.prog 47 kCls (ClsZ G) := by
  have hs := opens_str (G := G) Tryz.underlying9 (by kernel_rfl)
  have hi := opens_int (G := G) Tryz.underlying3 (by kernel_rfl)
  have h8 := opensF_one (G := G) (P := Tryz.prog) (f := ⟨"Starts", 45, 8, false, "", "", 136⟩) (o := 8) rfl (opens_starts G)
  have h7 := opensF_cons (f := ⟨"Staff", 44, 7, false, "", "", 112⟩) (o := 7) rfl (opens_strsA G) h8
  have h6 := opensF_cons (f := ⟨"Features", 44, 6, false, "", "", 88⟩) (o := 6) rfl (opens_strsA G) h7
  have h5 := opensF_cons (f := ⟨"Seats", 3, 5, false, "", "", 80⟩) (o := 5) rfl hi h6
  have h4 := opensF_cons (f := ⟨"Patterns", 36, 4, false, "", "", 56⟩) (o := 4) rfl (opens_intsA G) h5
  have h3 := opensF_cons (f := ⟨"Length", 3, 3, false, "", "", 48⟩) (o := 3) rfl hi h4
  have h2 := opensF_cons (f := ⟨"Part", 9, 2, false, "", "", 32⟩) (o := 2) rfl hs h3
  have h1 := opensF_cons (f := ⟨"Course", 9, 1, false, "", "", 16⟩) (o := 1) rfl hs h2
  have h0 := opensF_cons (f := ⟨"Code", 9, 0, false, "", "", 0⟩) (o := 0) rfl hs h1
  exact opens_struct Tryz.underlying47 (by kernel_rfl) h0
theorem opens_clss (G : Good) : Opens G Tryz.prog 29 (kSlice kCls) fun l => G.len l.length ∧ l.length ≤ maxLen ∧ ∀ x ∈ l, ClsZ G x :=
  opens_slice Tryz.underlying29 (by kernel_rfl) (by decide) (opens_cls G)
end Go.Proofs.YtimcdikeajbabaaGreatDoor

namespace Go.Proofs.YtimcdikeajbabaaGreatDoor
open Go.RowKit
set_option maxRecDepth 100000

def codesK (l : List Cls) : List ByteArray := l.map fun x => x.1
/-- The nine values of a class whose rows lie there. -/
def nineOf (x : Cls) (A4 : Option Addr) (c4 : Nat) (A6 : Option Addr) (c6 : Nat) (A7 : Option Addr) (c7 : Nat) (A8 : Option Addr) (c8 : Nat) : Nine :=
  ⟨x.1, x.2.1, x.2.2.1, x.2.2.2.1, A4, x.2.2.2.2.1.length, c4, x.2.2.2.2.2.1, A6, x.2.2.2.2.2.2.1.length, c6, A7, x.2.2.2.2.2.2.2.1.length, c7, A8, x.2.2.2.2.2.2.2.2.length, c8⟩
theorem At.clsF {S : Nat → Prop} {w : World} {A : Option Addr} {l : List Cls} {j : Nat} {x : Cls} (h : At kCls S w A l) (hj : l[j]? = some x) :
    ∃ b off A4 c4 A6 c6 A7 c7 A8 c8, A = some ⟨b, off, none⟩ ∧ S b ∧ b < w.heap.size ∧ NineAt w b (off + j * 9) (nineOf x A4 c4 A6 c6 A7 c7 A8 c8) ∧
      (x.2.2.2.2.1.length ≤ c4 ∧ x.2.2.2.2.2.2.1.length ≤ c6 ∧ x.2.2.2.2.2.2.2.1.length ≤ c7 ∧ x.2.2.2.2.2.2.2.2.length ≤ c8) ∧
      At kInt S w A4 x.2.2.2.2.1 ∧ At kStr S w A6 x.2.2.2.2.2.2.1 ∧ At kStr S w A7 x.2.2.2.2.2.2.2.1 ∧ At kStart S w A8 x.2.2.2.2.2.2.2.2 := by
  obtain ⟨b, off, vs, e, hs, hlt, hr, hc⟩ := h.get hj
  obtain ⟨u0, r0, e0, h0, hr⟩ := hr
  obtain ⟨u1, r1, e1, h1, hr⟩ := hr
  obtain ⟨u2, r2, e2, h2, hr⟩ := hr
  obtain ⟨u3, r3, e3, h3, hr⟩ := hr
  obtain ⟨u4, r4, e4, h4, hr⟩ := hr
  obtain ⟨u5, r5, e5, h5, hr⟩ := hr
  obtain ⟨u6, r6, e6, h6, hr⟩ := hr
  obtain ⟨u7, u8, e7, h7, h8⟩ := hr
  obtain ⟨A4, c4, rfl, l4, a4⟩ := h4
  obtain ⟨A6, c6, rfl, l6, a6⟩ := h6
  obtain ⟨A7, c7, rfl, l7, a7⟩ := h7
  obtain ⟨A8, c8, rfl, l8, a8⟩ := h8
  have h0 : u0 = [.string x.1] := h0
  have h1 : u1 = [.string x.2.1] := h1
  have h2 : u2 = [.string x.2.2.1] := h2
  have h3 : u3 = [.int .i64 x.2.2.2.1] := h3
  have h5 : u5 = [.int .i64 x.2.2.2.2.2.1] := h5
  subst h0 h1 h2 h3 h5 e7 e6 e5 e4 e3 e2 e1 e0
  have hk : ∀ i u, ([Value.string x.1, .string x.2.1, .string x.2.2.1, .int .i64 x.2.2.2.1, .slice A4 x.2.2.2.2.1.length c4, .int .i64 x.2.2.2.2.2.1, .slice A6 x.2.2.2.2.2.2.1.length c6, .slice A7 x.2.2.2.2.2.2.2.1.length c7, .slice A8 x.2.2.2.2.2.2.2.2.length c8] : List Value)[i]? = some u → w.cell? ⟨b, off + j * 9 + i, none⟩ = some u := hc
  exact ⟨b, off, A4, c4, A6, c6, A7, c7, A8, c8, e, hs, hlt,
    ⟨hk 0 _ rfl, hk 1 _ rfl, hk 2 _ rfl, hk 3 _ rfl, hk 4 _ rfl, hk 5 _ rfl, hk 6 _ rfl, hk 7 _ rfl, hk 8 _ rfl⟩, ⟨l4, l6, l7, l8⟩, a4, a6, a7, a8⟩
/-! What is wrong with the sets of weeks of a class. -/
/-- The first k sets are valid and differ. -/
def patsTo (n : Int) (ps : List Int) : Nat → Bool
  | 0 => true
  | k + 1 => patsTo n ps k && (validB (ps.getD k 0) n && !(ps.take k).contains (ps.getD k 0))
theorem patsTo_false {n : Int} {ps : List Int} {k : Nat} (h : patsTo n ps k = false) : ∀ m, k ≤ m → patsTo n ps m = false
  | 0, hk => by
    have e : k = 0 := by omega
    rw [e] at h; exact h
  | m + 1, hk => by
    by_cases e : k = m + 1
    · rw [← e]; exact h
    · rw [patsTo, patsTo_false h m (by omega), Bool.false_and]
def patsE (n : Int) (ps : List Int) : Nat := if ps.length = 0 then 16 else if 8 < ps.length then 2 else if patsTo n ps ps.length = false then 1 else 0
/-! What is wrong with the starts of a class. -/
def possB (d sl len : Int) (s : Int × Int) : Bool := decide (0 ≤ s.1 ∧ s.1 < d ∧ 0 ≤ s.2 ∧ s.2 ≤ sl - len)
def lessB (a b : Int × Int) : Bool := decide (a.1 < b.1 ∨ (a.1 = b.1 ∧ a.2 < b.2))
/-- The first k starts are possible and ascend. -/
def startsTo (d sl len : Int) (ss : List (Int × Int)) : Nat → Bool
  | 0 => true
  | k + 1 => startsTo d sl len ss k && (possB d sl len (ss.getD k (0, 0)) && (decide (k = 0) || lessB (ss.getD (k - 1) (0, 0)) (ss.getD k (0, 0))))
theorem startsTo_false {d sl len : Int} {ss : List (Int × Int)} {k : Nat} (h : startsTo d sl len ss k = false) : ∀ m, k ≤ m → startsTo d sl len ss m = false
  | 0, hk => by
    have e : k = 0 := by omega
    rw [e] at h; exact h
  | m + 1, hk => by
    by_cases e : k = m + 1
    · rw [← e]; exact h
    · rw [startsTo, startsTo_false h m (by omega), Bool.false_and]
/-- What is wrong with a class by itself. -/
def clsEx (d sl n : Int) (x : Cls) : Nat :=
  if codeB x.1 = false then 10 else if codeB x.2.1 = false then 10 else if codeB x.2.2.1 = false then 10 else
  if x.2.2.2.1 < 1 then 3 else if sl < x.2.2.2.1 then 3 else
  if patsE n x.2.2.2.2.1 ≠ 0 then patsE n x.2.2.2.2.1 else
  if x.2.2.2.2.2.1 < 0 then 3 else if 9999 < x.2.2.2.2.2.1 then 3 else
  if 8 < x.2.2.2.2.2.2.1.length then 2 else if 8 < x.2.2.2.2.2.2.2.1.length then 2 else
  if ascTo x.2.2.2.2.2.2.1 x.2.2.2.2.2.2.1.length = false then 10 else if ascTo x.2.2.2.2.2.2.2.1 x.2.2.2.2.2.2.2.1.length = false then 10 else
  if 24 < x.2.2.2.2.2.2.2.2.length then 2 else if startsTo d sl x.2.2.2.1 x.2.2.2.2.2.2.2.2 x.2.2.2.2.2.2.2.2.length = false then 14 else 0
/-- What is wrong with a class behind such codes. -/
def clsE (d sl n : Int) (x : Cls) (met : List ByteArray) : Nat := if clsEx d sl n x ≠ 0 then clsEx d sl n x else if 0 ≤ idxS x.1 met then 11 else 0
def clsEi (d sl n : Int) (l : List Cls) (i : Nat) : Nat := match l[i]? with
  | none => 0
  | some x => clsE d sl n x ((codesK l).take i)
def clsErr (d sl n : Int) (l : List Cls) : Nat → Nat
  | 0 => 0
  | k + 1 => if clsErr d sl n l k ≠ 0 then clsErr d sl n l k else clsEi d sl n l k
def validK (d sl b m n : Int) (l : List Cls) : Nat := if weekB d sl b m n = false then 1 else if 24 < l.length then 2 else clsErr d sl n l l.length
theorem clsErr_next {d sl n : Int} {l : List Cls} {j : Nat} (h0 : clsErr d sl n l j = 0) : clsErr d sl n l (j + 1) = clsEi d sl n l j := by rw [clsErr, if_neg (by rw [h0]; simp)]
theorem clsErr_hit {d sl n : Int} {l : List Cls} {j : Nat} (h0 : clsErr d sl n l j = 0) (h : clsEi d sl n l j ≠ 0) : ∀ k, j < k → clsErr d sl n l k = clsEi d sl n l j
  | 0, hj => by omega
  | k + 1, hj => by
    by_cases e : j = k
    · subst e; exact clsErr_next h0
    · have ih := clsErr_hit h0 h k (by omega)
      rw [clsErr, if_pos (by rw [ih]; exact h), ih]
theorem cls_end {d sl n : Int} {l : List Cls} {j N e : Nat} {x : Cls} (hx : l[j]? = some x) (h0 : clsErr d sl n l j = 0) (he : clsE d sl n x ((codesK l).take j) = e) (hne : e ≠ 0) (hj : j < N) : clsErr d sl n l N = e := by
  have hE : clsEi d sl n l j = e := by unfold clsEi; rw [hx]; exact he
  rw [clsErr_hit h0 (by rw [hE]; exact hne) N hj, hE]
theorem cls_on {d sl n : Int} {l : List Cls} {j : Nat} {x : Cls} (hx : l[j]? = some x) (h0 : clsErr d sl n l j = 0) (he : clsE d sl n x ((codesK l).take j) = 0) : clsErr d sl n l (j + 1) = 0 := by
  have hE : clsEi d sl n l j = 0 := by unfold clsEi; rw [hx]; exact he
  rw [clsErr_next h0, hE]
theorem week_bd {d sl b m n : Int} (h : weekB d sl b m n = true) : 1 ≤ d ∧ d ≤ 7 ∧ 1 ≤ sl ∧ sl ≤ 24 ∧ 1 ≤ n ∧ n ≤ 20 := by
  unfold weekB gridV at h
  rw [Bool.and_eq_true, decide_eq_true_eq, decide_eq_true_eq] at h
  obtain ⟨h1, h2⟩ := h
  split at h1
  · omega
  · omega
end Go.Proofs.YtimcdikeajbabaaGreatDoor

namespace Go.Proofs.YtimcdikeajbabaaGreatDoor
open Go.RowKit
set_option maxRecDepth 100000

theorem possB_yes {d sl len a c : Int} (h : 0 ≤ a ∧ a < d ∧ 0 ≤ c ∧ c ≤ sl - len) : possB d sl len (a, c) = true := by unfold possB; simpa using h
theorem possB_no {d sl len a c : Int} (h : ¬ (0 ≤ a ∧ a < d ∧ 0 ≤ c ∧ c ≤ sl - len)) : possB d sl len (a, c) = false := by unfold possB; simpa using h
-- <poss>
set_option maxHeartbeats 1000000 in
theorem cposs_walk (a c len d sl b m : Int) (hl : -100000 ≤ len ∧ len ≤ 100000) (hs : -100000 ≤ sl ∧ sl ≤ 100000) (w : World) :
    Calls Tryz.prog 136 #[.agg #[.int .i64 a, .int .i64 c], .int .i64 len, .agg #[.int .i64 d, .int .i64 sl, .int .i64 b, .int .i64 m]] w fun e w' => e = .returned (.bool (possB d sl len (a, c))) ∧ Below w.heap.size w w' := by
  have e1 : IntKind.i64.wrap (sl - len) = sl - len := IntWalk.i64_in _ (by omega)
  by_cases h1 : 0 ≤ a
  · by_cases h2 : a < d
    · by_cases h3 : 0 ≤ c
      · by_cases h4 : c ≤ sl - len
        · rw [possB_yes ⟨h1, h2, h3, h4⟩]
          go_enter Tryz.func136, Tryz.ntmps136
          go_wp2
          go_ret
          exact ⟨rfl, (by repeat (first | exact Below.refl _ _ | refine ext_alloc ?_ _ | refine ext_drewN ?_ _ | refine ext_drew ?_ | refine ext_trans ?_ (by assumption)))⟩
        · rw [possB_no (fun h => h4 h.2.2.2)]
          go_enter Tryz.func136, Tryz.ntmps136
          go_wp2
          go_ret
          exact ⟨rfl, (by repeat (first | exact Below.refl _ _ | refine ext_alloc ?_ _ | refine ext_drewN ?_ _ | refine ext_drew ?_ | refine ext_trans ?_ (by assumption)))⟩
      · rw [possB_no (fun h => h3 h.2.2.1)]
        go_enter Tryz.func136, Tryz.ntmps136
        go_wp2
        go_ret
        exact ⟨rfl, (by repeat (first | exact Below.refl _ _ | refine ext_alloc ?_ _ | refine ext_drewN ?_ _ | refine ext_drew ?_ | refine ext_trans ?_ (by assumption)))⟩
    · rw [possB_no (fun h => h2 h.2.1)]
      go_enter Tryz.func136, Tryz.ntmps136
      go_wp2
      go_ret
      exact ⟨rfl, (by repeat (first | exact Below.refl _ _ | refine ext_alloc ?_ _ | refine ext_drewN ?_ _ | refine ext_drew ?_ | refine ext_trans ?_ (by assumption)))⟩
  · rw [possB_no (fun h => h1 h.1)]
    go_enter Tryz.func136, Tryz.ntmps136
    go_wp2
    go_ret
    exact ⟨rfl, (by repeat (first | exact Below.refl _ _ | refine ext_alloc ?_ _ | refine ext_drewN ?_ _ | refine ext_drew ?_ | refine ext_trans ?_ (by assumption)))⟩
-- </poss>
set_option maxHeartbeats 1000000 in
theorem r10poss_walk (a c len d sl b m : Int) (hl : -100000 ≤ len ∧ len ≤ 100000) (hs : -100000 ≤ sl ∧ sl ≤ 100000) (w : World) :
    Calls Tryz.prog 99 #[.agg #[.int .i64 a, .int .i64 c], .int .i64 len, .agg #[.int .i64 d, .int .i64 sl, .int .i64 b, .int .i64 m]] w fun e w' => e = .returned (.bool (possB d sl len (a, c))) ∧ Below w.heap.size w w' := by
  have e1 : IntKind.i64.wrap (sl - len) = sl - len := IntWalk.i64_in _ (by omega)
  by_cases h1 : 0 ≤ a
  · by_cases h2 : a < d
    · by_cases h3 : 0 ≤ c
      · by_cases h4 : c ≤ sl - len
        · rw [possB_yes ⟨h1, h2, h3, h4⟩]
          go_enter Tryz.func99, Tryz.ntmps99
          go_wp2
          go_ret
          exact ⟨rfl, (by repeat (first | exact Below.refl _ _ | refine ext_alloc ?_ _ | refine ext_drewN ?_ _ | refine ext_drew ?_ | refine ext_trans ?_ (by assumption)))⟩
        · rw [possB_no (fun h => h4 h.2.2.2)]
          go_enter Tryz.func99, Tryz.ntmps99
          go_wp2
          go_ret
          exact ⟨rfl, (by repeat (first | exact Below.refl _ _ | refine ext_alloc ?_ _ | refine ext_drewN ?_ _ | refine ext_drew ?_ | refine ext_trans ?_ (by assumption)))⟩
      · rw [possB_no (fun h => h3 h.2.2.1)]
        go_enter Tryz.func99, Tryz.ntmps99
        go_wp2
        go_ret
        exact ⟨rfl, (by repeat (first | exact Below.refl _ _ | refine ext_alloc ?_ _ | refine ext_drewN ?_ _ | refine ext_drew ?_ | refine ext_trans ?_ (by assumption)))⟩
    · rw [possB_no (fun h => h2 h.2.1)]
      go_enter Tryz.func99, Tryz.ntmps99
      go_wp2
      go_ret
      exact ⟨rfl, (by repeat (first | exact Below.refl _ _ | refine ext_alloc ?_ _ | refine ext_drewN ?_ _ | refine ext_drew ?_ | refine ext_trans ?_ (by assumption)))⟩
  · rw [possB_no (fun h => h1 h.1)]
    go_enter Tryz.func99, Tryz.ntmps99
    go_wp2
    go_ret
    exact ⟨rfl, (by repeat (first | exact Below.refl _ _ | refine ext_alloc ?_ _ | refine ext_drewN ?_ _ | refine ext_drew ?_ | refine ext_trans ?_ (by assumption)))⟩

set_option maxHeartbeats 1000000 in
theorem r10less_walk (a1 a2 b1 b2 : Int) (w : World) :
    Calls Tryz.prog 100 #[.agg #[.int .i64 a1, .int .i64 a2], .agg #[.int .i64 b1, .int .i64 b2]] w fun e w' => e = .returned (.bool (lessB (a1, a2) (b1, b2))) ∧ Below w.heap.size w w' := by
  unfold lessB
  dsimp only
  by_cases h1 : a1 < b1
  · rw [decide_eq_true (Or.inl h1)]
    go_enter Tryz.func100, Tryz.ntmps100
    go_wp2
    all_goals try (exfalso; omega)
    all_goals
      go_ret
      exact ⟨rfl, (by repeat (first | exact Below.refl _ _ | refine ext_alloc ?_ _ | refine ext_drewN ?_ _ | refine ext_drew ?_ | refine ext_trans ?_ (by assumption)))⟩
  · by_cases h2 : a1 = b1
    · have e2 : (a1 == b1) = true := by simpa using h2
      by_cases h3 : a2 < b2
      · rw [decide_eq_true (Or.inr ⟨h2, h3⟩)]
        replace h2 := hide h2
        go_enter Tryz.func100, Tryz.ntmps100
        go_wp2
        all_goals try (exfalso; omega)
        all_goals
          go_ret
          exact ⟨rfl, (by repeat (first | exact Below.refl _ _ | refine ext_alloc ?_ _ | refine ext_drewN ?_ _ | refine ext_drew ?_ | refine ext_trans ?_ (by assumption)))⟩
      · rw [decide_eq_false (fun h => by rcases h with h | h; exact h1 h; exact h3 h.2)]
        replace h2 := hide h2
        go_enter Tryz.func100, Tryz.ntmps100
        go_wp2
        all_goals try (exfalso; omega)
        all_goals
          go_ret
          exact ⟨rfl, (by repeat (first | exact Below.refl _ _ | refine ext_alloc ?_ _ | refine ext_drewN ?_ _ | refine ext_drew ?_ | refine ext_trans ?_ (by assumption)))⟩
    · have e2 : (a1 == b1) = false := by simpa using h2
      rw [decide_eq_false (fun h => by rcases h with h | h; exact h1 h; exact h2 h.1)]
      go_enter Tryz.func100, Tryz.ntmps100
      go_wp2
      all_goals try (exfalso; omega)
      all_goals
        go_ret
        exact ⟨rfl, (by repeat (first | exact Below.refl _ _ | refine ext_alloc ?_ _ | refine ext_drewN ?_ _ | refine ext_drew ?_ | refine ext_trans ?_ (by assumption)))⟩
/-! cmp.Compare at numbers. -/
def cmpI (x y : Int) : Int := if x < y then -1 else if y < x then 1 else 0
set_option maxHeartbeats 1000000 in
theorem isnanI_walk (x : Int) (w : World) : Calls Tryz.prog 198 #[.int .i64 x] w fun e w' => e = .returned (.bool false) ∧ w = w' := by
  have hq : (x == x) = true := by simp
  go_enter Tryz.func198, Tryz.ntmps198
  go_wp2
  go_ret
  exact ⟨rfl, rfl⟩
set_option maxHeartbeats 1000000 in
theorem compI_walk (x y : Int) (w : World) : Calls Tryz.prog 155 #[.int .i64 x, .int .i64 y] w fun e w' => e = .returned (.int .i64 (cmpI x y)) ∧ w = w' := by
  unfold cmpI
  by_cases h1 : x < y
  · rw [if_pos h1]
    go_enter Tryz.func155, Tryz.ntmps155
    go_wp2_with fail
    refine (isnanI_walk x _).mono ?_
    rintro e w2 ⟨rfl, rfl⟩
    go_wp2_with fail
    refine (isnanI_walk y _).mono ?_
    rintro e w2 ⟨rfl, rfl⟩
    go_wp2
    go_ret
    exact ⟨rfl, rfl⟩
  · rw [if_neg h1]
    by_cases h2 : y < x
    · rw [if_pos h2]
      go_enter Tryz.func155, Tryz.ntmps155
      go_wp2_with fail
      refine (isnanI_walk x _).mono ?_
      rintro e w2 ⟨rfl, rfl⟩
      go_wp2_with fail
      refine (isnanI_walk y _).mono ?_
      rintro e w2 ⟨rfl, rfl⟩
      go_wp2
      go_ret
      exact ⟨rfl, rfl⟩
    · rw [if_neg h2]
      go_enter Tryz.func155, Tryz.ntmps155
      go_wp2_with fail
      refine (isnanI_walk x _).mono ?_
      rintro e w2 ⟨rfl, rfl⟩
      go_wp2_with fail
      refine (isnanI_walk y _).mono ?_
      rintro e w2 ⟨rfl, rfl⟩
      go_wp2
      go_ret
      exact ⟨rfl, rfl⟩
/-! The order of starts. -/
def ordP (a b : Int × Int) : Int := if cmpI a.1 b.1 ≠ 0 then cmpI a.1 b.1 else cmpI a.2 b.2
theorem cmpI_zero {x y : Int} : cmpI x y = 0 ↔ x = y := by
  unfold cmpI
  repeat' split
  all_goals omega
theorem cmpI_neg {x y : Int} : cmpI x y < 0 ↔ x < y := by
  unfold cmpI
  repeat' split
  all_goals omega
theorem ordP_neg (a b : Int × Int) : ordP a b < 0 ↔ lessB a b = true := by
  rw [lessB, decide_eq_true_eq]
  unfold ordP
  by_cases h : cmpI a.1 b.1 = 0
  · rw [if_neg (by simp [h]), cmpI_neg]
    rw [cmpI_zero] at h
    omega
  · rw [if_pos h, cmpI_neg]
    have : ¬ a.1 = b.1 := fun e => h (cmpI_zero.2 e)
    omega
/-- Blocks and draws behind a world. -/
def GrowOf (w w' : World) : Prop := ∃ (q : Nat) (os : Array Obj), w' = Sort.grow (w.drewN q) os
theorem GrowOf.refl (w : World) : GrowOf w w := ⟨0, #[], by rw [Sort.grow_empty]; rfl⟩
theorem GrowOf.alloc {w w' : World} (h : GrowOf w w') (o : Obj) : GrowOf w (w'.alloc o) := by
  obtain ⟨q, os, rfl⟩ := h
  exact ⟨q, os ++ #[o], by rw [Sort.alloc_eq_grow, Sort.grow_grow]⟩
theorem GrowOf.drew {w w' : World} (h : GrowOf w w') : GrowOf w w'.drew := by
  obtain ⟨q, os, rfl⟩ := h
  exact ⟨q + 1, os, rfl⟩
theorem GrowOf.below {w w' : World} (h : GrowOf w w') : Below w.heap.size w w' := by
  obtain ⟨q, os, rfl⟩ := h
  exact ⟨rfl, rfl, rfl, by rw [Sort.size_grow]; exact Nat.le_add_right _ _, fun k hk => Sort.heap_grow_old (w.drewN q) os hk⟩
set_option maxHeartbeats 4000000 in
theorem corder_grow (a1 a2 b1 b2 : Int) (w : World) :
    Calls Tryz.prog 112 #[.agg #[.int .i64 a1, .int .i64 a2], .agg #[.int .i64 b1, .int .i64 b2]] w fun e w' => e = .returned (.int .i64 (ordP (a1, a2) (b1, b2))) ∧ GrowOf w w' := by
  have c1 := fun (V : World) => compI_walk a1 b1 V
  have c2 := fun (V : World) => compI_walk a2 b2 V
  obtain ⟨i1, h1⟩ : ∃ i, cmpI a1 b1 = i := ⟨_, rfl⟩
  obtain ⟨i2, h2⟩ : ∃ i, cmpI a2 b2 = i := ⟨_, rfl⟩
  have hv : ordP (a1, a2) (b1, b2) = if i1 ≠ 0 then i1 else i2 := by unfold ordP; rw [h1, h2]
  obtain ⟨V, hV⟩ : ∃ V, ordP (a1, a2) (b1, b2) = V := ⟨_, rfl⟩
  rw [hV] at hv ⊢
  rw [h1] at c1
  rw [h2] at c2
  have hor := hide (fun (U : World) => (or_walk U.heap.size i1 i2 (U.alloc (.cells #[.int .i64 i1, .int .i64 i2] 3)) (by simp) (by simp)).mono fun e w' ⟨he, hw⟩ => (⟨he.trans (by rw [hv]), hw⟩ : e = Ending.returned (.int .i64 V) ∧ _ = w'))
  have hord := hide (fun (U : World) => (or_walk U.heap.size i1 i2 (U.alloc (.cells #[.int .i64 i1, .int .i64 i2] 3)).drew (show (U.alloc (.cells #[.int .i64 i1, .int .i64 i2] 3)).cell? ⟨U.heap.size, 0, none⟩ = _ by simp) (show (U.alloc (.cells #[.int .i64 i1, .int .i64 i2] 3)).cell? ⟨U.heap.size, 1, none⟩ = _ by simp)).mono fun e w' ⟨he, hw⟩ => (⟨he.trans (by rw [hv]), hw⟩ : e = Ending.returned (.int .i64 V) ∧ _ = w'))
  have hb0 : GrowOf w ((w.alloc (.cells #[.int .i64 a1, .int .i64 a2] 70)).alloc (.cells #[.int .i64 b1, .int .i64 b2] 70)) := (GrowOf.refl w).alloc _ |>.alloc _
  have hz : (w.alloc (.cells #[.int .i64 a1, .int .i64 a2] 70)).heap.size = w.heap.size + 1 := World.size_alloc _ _
  have hC : Cn4 w.heap.size 0 (.int .i64 a1) w.heap.size 1 (.int .i64 a2) ((w.heap.size + 1)) 0 (.int .i64 b1) ((w.heap.size + 1)) 1 (.int .i64 b2) ((w.alloc (.cells #[.int .i64 a1, .int .i64 a2] 70)).alloc (.cells #[.int .i64 b1, .int .i64 b2] 70)) := by
    refine ⟨?_, ?_, ?_, ?_⟩
    · exact cell_alloc_of (by simp) _
    · exact cell_alloc_of (by simp) _
    · rw [← hz]; simp
    · rw [← hz]; simp
  obtain ⟨W, hW⟩ : ∃ W, (w.alloc (.cells #[.int .i64 a1, .int .i64 a2] 70)).alloc (.cells #[.int .i64 b1, .int .i64 b2] 70) = W := ⟨_, rfl⟩
  rw [hW] at hb0 hC
  have hCd := hC.drew
  obtain ⟨q1, q2, q3, q4⟩ := id hC
  replace c1 := hide c1
  replace c2 := hide c2
  replace hW := hide hW
  clear h1 h2 hv hV hz
  go_enter Tryz.func112, Tryz.ntmps112
  go_wp2_with fail
  rw [hW.out]
  go_region_held3 (fun W' => W'.cell? ⟨w.heap.size, 0, none⟩ = some (.int .i64 a1) ∧ W'.cell? ⟨w.heap.size, 1, none⟩ = some (.int .i64 a2) ∧ W'.cell? ⟨(w.heap.size + 1), 0, none⟩ = some (.int .i64 b1) ∧ W'.cell? ⟨(w.heap.size + 1), 1, none⟩ = some (.int .i64 b2)) (first | ((repeat (first | (with_reducible assumption) | (with_reducible refine Cn4.alloc ?_ _) | (with_reducible refine Cn4.drew ?_) | (with_reducible refine Cn4.set ?_ ?_ ?_ ?_ ?_ _) | omega)); done)) (first | (go_at_call 155; first | ((with_reducible refine (c1.out _).mono ?_); rintro e w' ⟨rfl, rfl⟩) | ((with_reducible refine (c2.out _).mono ?_); rintro e w' ⟨rfl, rfl⟩)) | (go_at_call 154; first | ((with_reducible refine (hor.out _).mono ?_); rintro e w' ⟨rfl, rfl⟩) | ((with_reducible refine (hord.out _).mono ?_); rintro e w' ⟨rfl, rfl⟩)))
  all_goals
    go_wp2
    go_ret
    exact ⟨rfl, by repeat (first | with_reducible assumption | with_reducible refine GrowOf.alloc ?_ _ | with_reducible refine GrowOf.drew ?_)⟩
theorem corder_walk (a1 a2 b1 b2 : Int) (w : World) :
    Calls Tryz.prog 112 #[.agg #[.int .i64 a1, .int .i64 a2], .agg #[.int .i64 b1, .int .i64 b2]] w fun e w' => e = .returned (.int .i64 (ordP (a1, a2) (b1, b2))) ∧ Below w.heap.size w w' :=
  (corder_grow a1 a2 b1 b2 w).mono fun _ _ ⟨he, hg⟩ => ⟨he, hg.below⟩
end Go.Proofs.YtimcdikeajbabaaGreatDoor

namespace Go.Proofs.YtimcdikeajbabaaGreatDoor
open Go.RowKit
set_option maxRecDepth 100000

/-- Where a number stands first; behind all, if it does not. -/
def numI (n : Int) : List Int → Nat
  | [] => 0
  | x :: r => if x = n then 0 else numI n r + 1
theorem numI_hit {n : Int} : ∀ {l : List Int} {j : Nat}, l[j]? = some n → n ∉ l.take j → numI n l = j
  | [], j, h, _ => by simp at h
  | x :: r, 0, h, _ => by
    simp at h
    rw [numI, if_pos h]
  | x :: r, j + 1, h, hn => by
    rw [List.take_succ_cons, List.mem_cons, not_or] at hn
    rw [numI, if_neg (fun e => hn.1 e.symm), numI_hit (l := r) (j := j) (by simpa using h) hn.2]
theorem numI_none {n : Int} : ∀ {l : List Int}, n ∉ l → numI n l = l.length
  | [], _ => rfl
  | x :: r, h => by
    rw [List.mem_cons, not_or] at h
    rw [numI, if_neg (fun e => h.1 e.symm), numI_none h.2]; rfl
theorem numI_lt {n : Int} : ∀ {l : List Int} {i : Nat}, i ≤ l.length → (numI n l < i ↔ n ∈ l.take i)
  | [], i, h => by
    have : i = 0 := by simpa using h
    subst this; simp [numI]
  | x :: r, 0, _ => by simp
  | x :: r, i + 1, h => by
    rw [List.take_succ_cons, List.mem_cons, numI]
    by_cases e : x = n
    · rw [if_pos e]; simp [e]
    · rw [if_neg e]
      have := numI_lt (n := n) (l := r) (i := i) (by simpa using h)
      constructor
      · intro h2; exact Or.inr (this.1 (by omega))
      · rintro (h2 | h2)
        · exact absurd h2.symm e
        · have := this.2 h2; omega
theorem At.start {S : Nat → Prop} {w : World} {A : Option Addr} {l : List (Int × Int)} {j : Nat} {x : Int × Int} (h : At kStart S w A l) (hj : l[j]? = some x) :
    ∃ b off, A = some ⟨b, off, none⟩ ∧ S b ∧ b < w.heap.size ∧ w.cell? ⟨b, off + j * 2, none⟩ = some (.int .i64 x.1) ∧ w.cell? ⟨b, off + j * 2 + 1, none⟩ = some (.int .i64 x.2) := by
  obtain ⟨b, off, vs, e, hs, hlt, ⟨us, ts, rfl, h1, h2⟩, hc⟩ := h.get hj
  have h1 : us = [.int .i64 x.1] := h1
  have h2 : ts = [.int .i64 x.2] := h2
  subst h1 h2
  exact ⟨b, off, e, hs, hlt, hc 0 _ rfl, hc 1 _ rfl⟩
theorem take_mem {l : List Int} {j : Nat} {x n : Int} (hx : l[j]? = some x) (h : n ∉ l.take j) (hne : x ≠ n) : n ∉ l.take (j + 1) := by
  rw [List.take_add_one, hx, List.mem_append, not_or]
  exact ⟨h, by simpa using fun e => hne e.symm⟩
set_option maxHeartbeats 2000000 in
theorem r10number_walk (A : Option Addr) (l : List Int) (c : Nat) (n : Int) (w : World) (hn : l.length ≤ 9223372036854775807) (h : At kInt AnyB w A l) :
    Calls Tryz.prog 97 #[.slice A l.length c, .int .i64 n] w fun e w' => e = .returned (.int .i64 (numI n l)) ∧ w = w' := by
  obtain ⟨N, hnn⟩ : ∃ N, l.length = N := ⟨_, rfl⟩
  rw [hnn] at hn ⊢
  replace hnn := hide hnn
  go_enter Tryz.func97, Tryz.ntmps97
  go_wp2
  go_loop [5] (fun i => ∃ j : Nat, j ≤ N ∧ i = .int .i64 j ∧ Hid (n ∉ l.take j)) (fun i => N - (intOf i).toNat)
  case atStart => exact ⟨0, Nat.zero_le _, rfl, hide (by simp)⟩
  case round =>
    obtain ⟨j, hj, rfl, ho⟩ := hrel
    by_cases hlt : j < N
    · obtain ⟨x, hx⟩ : ∃ x, l[j]? = some x := ⟨_, List.getElem?_eq_getElem (by rw [hnn.out]; exact hlt)⟩
      obtain ⟨b, off, rfl, -, hbb, q0⟩ := h.int hx
      have hj0 : (0 : Int) ≤ (j : Int) := by omega
      have hj1 : (j : Int) < (N : Int) := by omega
      by_cases hq : x = n
      · have hit := hide (numI_hit (hq ▸ hx) ho.out)
        have hq2 : (x == n) = true := by simpa using hq
        replace hq := hide hq
        clear hx h ho
        go_wp2
        go_ret
        exact ⟨by rw [hit.out]; rfl, rfl⟩
      · have miss := hide (take_mem hx ho.out hq)
        have hq2 : (x == n) = false := by simpa using hq
        clear hx h ho
        go_wp2
        go_round
        case rel => exact ⟨j + 1, by omega, by go_num, miss⟩
        case measure => simp [intOf]; omega
    · obtain rfl : j = N := by omega
      have hall : Hid (numI n l = j) := hide (by
        have := ho.out
        rw [List.take_of_length_le (by rw [hnn.out]; exact Nat.le_refl _)] at this
        rw [numI_none this, hnn.out])
      clear h
      go_wp2
      go_ret
      exact ⟨by rw [hall.out]; rfl, rfl⟩
/-! slices.Index and Contains at numbers. -/
def posI (n : Int) (l : List Int) : Int := if numI n l < l.length then (numI n l : Int) else -1
theorem posI_hit {n : Int} {l : List Int} {j : Nat} (h : l[j]? = some n) (hn : n ∉ l.take j) : posI n l = (j : Int) := by
  have hj := (List.getElem?_eq_some_iff.1 h).1
  unfold posI
  rw [numI_hit h hn, if_pos hj]
theorem posI_none {n : Int} {l : List Int} (h : n ∉ l) : posI n l = -1 := by
  unfold posI
  rw [numI_none h, if_neg (Nat.lt_irrefl _)]
theorem posI_mem {n : Int} {l : List Int} : 0 ≤ posI n l ↔ n ∈ l := by
  unfold posI
  have h := numI_lt (n := n) (l := l) (Nat.le_refl _)
  rw [List.take_length] at h
  by_cases hl : numI n l < l.length
  · rw [if_pos hl]
    exact ⟨fun _ => h.1 hl, fun _ => by omega⟩
  · rw [if_neg hl]
    exact ⟨fun h2 => absurd h2 (by decide), fun h2 => absurd (h.2 h2) hl⟩
set_option maxHeartbeats 2000000 in
theorem iindex_walk (A : Option Addr) (xs : List Int) (c : Nat) (z : Int) (w : World) (hn : xs.length ≤ 9223372036854775807) (h : At kInt AnyB w A xs) :
    Calls Tryz.prog 143 #[.slice A xs.length c, .int .i64 z] w fun e w' => e = .returned (.int .i64 (posI z xs)) ∧ w = w' := by
  obtain ⟨n, hnn⟩ : ∃ n, xs.length = n := ⟨_, rfl⟩
  rw [hnn] at hn ⊢
  replace hnn := hide hnn
  go_enter Tryz.func143, Tryz.ntmps143
  go_wp2
  go_loop [5, 8] (fun _ i => ∃ j : Nat, j ≤ n ∧ i = .int .i64 j ∧ Hid (z ∉ xs.take j)) (fun _ i => n - (intOf i).toNat)
  case atStart => exact ⟨0, Nat.zero_le _, rfl, hide (by simp)⟩
  case round =>
    obtain ⟨j, hj, rfl, ho⟩ := hrel
    by_cases hlt : j < n
    · obtain ⟨x, hx⟩ : ∃ x, xs[j]? = some x := ⟨_, List.getElem?_eq_getElem (by rw [hnn.out]; exact hlt)⟩
      obtain ⟨b, off, rfl, -, hb, k0⟩ := h.int hx
      have hj0 : (0 : Int) ≤ (j : Int) := by omega
      have hj1 : (j : Int) < (n : Int) := by omega
      by_cases hq : x = z
      · have hit := hide (posI_hit (hq ▸ hx) ho.out)
        have hq1 : (z == x) = true := by simpa using hq.symm
        have hq2 : (x == z) = true := by simpa using hq
        replace hq := hide hq
        clear hx h ho
        go_wp2
        go_ret
        exact ⟨by rw [hit.out]; rfl, rfl⟩
      · have miss := hide (take_mem hx ho.out hq)
        have hq1 : (z == x) = false := by simpa using fun e => hq e.symm
        have hq2 : (x == z) = false := by simpa using hq
        have hq3 : ¬ z = x := fun e => hq e.symm
        clear hx h ho
        go_wp2
        go_round
        case rel => exact ⟨j + 1, by omega, by go_num, miss⟩
        case measure => simp [intOf]; omega
    · obtain rfl : j = n := by omega
      have hall : Hid (posI z xs = -1) := hide (posI_none (by have := ho.out; rwa [List.take_of_length_le (by rw [hnn.out]; exact Nat.le_refl _)] at this))
      clear h
      go_wp2
      go_ret
      exact ⟨by rw [hall.out]; rfl, rfl⟩
theorem icontains_walk (A : Option Addr) (xs : List Int) (c : Nat) (z : Int) (w : World) (hn : xs.length ≤ 9223372036854775807) (h : At kInt AnyB w A xs) :
    Calls Tryz.prog 105 #[.slice A xs.length c, .int .i64 z] w fun e w' => e = .returned (.bool (decide (z ∈ xs))) ∧ w = w' := by
  have hm : decide (0 ≤ posI z xs) = decide (z ∈ xs) := decide_eq_decide.2 posI_mem
  rw [← hm]
  clear hm
  go_enter Tryz.func105, Tryz.ntmps105
  go_wp2_with fail
  refine (iindex_walk A xs c z w hn h).mono ?_
  rintro e w' ⟨rfl, rfl⟩
  go_wp2
  go_ret
  exact ⟨rfl, rfl⟩
end Go.Proofs.YtimcdikeajbabaaGreatDoor

namespace Go.Proofs.YtimcdikeajbabaaGreatDoor
open Go.RowKit
set_option maxRecDepth 100000

def cboxV (q : Nine) : Array Value := #[.string q.z, .string q.co, .string q.pa, .int .i64 q.n, .slice q.A4 q.n4 q.c4, .int .i64 q.m, .slice q.A6 q.n6 q.c6, .slice q.A7 q.n7 q.c7, .slice q.A8 q.n8 q.c8]
def CBox (W : World) (g : Nat) (q : Nine) : Prop := W.heap[g]? = some (.cells (cboxV q) 47 (0, 0))
section
variable {W W' : World} {g : Nat} {q : Nine}
theorem cbox_new (W : World) (q : Nine) : CBox (W.alloc (.cells (cboxV q) 47)) W.heap.size q := heap_alloc_new _ _
theorem CBox.lt (h : CBox W g q) : g < W.heap.size := blk_lt h
theorem CBox.c0 (h : CBox W g q) : W.cell? ⟨g, 0, none⟩ = some (.string q.z) := by rw [cell_of_row _ _ _ _ _ _ h]; rfl
theorem CBox.c1 (h : CBox W g q) : W.cell? ⟨g, 1, none⟩ = some (.string q.co) := by rw [cell_of_row _ _ _ _ _ _ h]; rfl
theorem CBox.c2 (h : CBox W g q) : W.cell? ⟨g, 2, none⟩ = some (.string q.pa) := by rw [cell_of_row _ _ _ _ _ _ h]; rfl
theorem CBox.c3 (h : CBox W g q) : W.cell? ⟨g, 3, none⟩ = some (.int .i64 q.n) := by rw [cell_of_row _ _ _ _ _ _ h]; rfl
theorem CBox.c4 (h : CBox W g q) : W.cell? ⟨g, 4, none⟩ = some (.slice q.A4 q.n4 q.c4) := by rw [cell_of_row _ _ _ _ _ _ h]; rfl
theorem CBox.c5 (h : CBox W g q) : W.cell? ⟨g, 5, none⟩ = some (.int .i64 q.m) := by rw [cell_of_row _ _ _ _ _ _ h]; rfl
theorem CBox.c6 (h : CBox W g q) : W.cell? ⟨g, 6, none⟩ = some (.slice q.A6 q.n6 q.c6) := by rw [cell_of_row _ _ _ _ _ _ h]; rfl
theorem CBox.c7 (h : CBox W g q) : W.cell? ⟨g, 7, none⟩ = some (.slice q.A7 q.n7 q.c7) := by rw [cell_of_row _ _ _ _ _ _ h]; rfl
theorem CBox.c8 (h : CBox W g q) : W.cell? ⟨g, 8, none⟩ = some (.slice q.A8 q.n8 q.c8) := by rw [cell_of_row _ _ _ _ _ _ h]; rfl
theorem CBox.free (h : CBox W g q) (j : Nat) : W.frozen? ⟨g, j, none⟩ = false := by unfold CBox at h; simp [World.frozen?, h]
theorem CBox.later (h : CBox W g q) (hb : Below W.heap.size W W') : CBox W' g q := (hb.block _ h.lt).trans h
theorem CBox.alloc (h : CBox W g q) (o : Obj) : CBox (W.alloc o) g q := h.later (ext_alloc (Below.refl _ _) _)
theorem CBox.grown {row : Option Nat} (h : CBox W g q) (hg : W.grownBy W' row) (hne : row ≠ some g) : CBox W' g q := (hg.block _ h.lt (fun e => hne e.symm)).trans h
theorem CBox.set0 (h : CBox W g q) (u : ByteArray) : CBox (W.setCell ⟨g, 0, none⟩ (.string u)) g { q with z := u } := (heap_setCell_same _ _ _ _ _ _ h).trans rfl
theorem CBox.set1 (h : CBox W g q) (u : ByteArray) : CBox (W.setCell ⟨g, 1, none⟩ (.string u)) g { q with co := u } := (heap_setCell_same _ _ _ _ _ _ h).trans rfl
theorem CBox.set2 (h : CBox W g q) (u : ByteArray) : CBox (W.setCell ⟨g, 2, none⟩ (.string u)) g { q with pa := u } := (heap_setCell_same _ _ _ _ _ _ h).trans rfl
theorem CBox.set3 (h : CBox W g q) (u : Int) : CBox (W.setCell ⟨g, 3, none⟩ (.int .i64 u)) g { q with n := u } := (heap_setCell_same _ _ _ _ _ _ h).trans rfl
theorem CBox.set4 (h : CBox W g q) (A : Option Addr) (n c : Nat) : CBox (W.setCell ⟨g, 4, none⟩ (.slice A n c)) g { q with A4 := A, n4 := n, c4 := c } := (heap_setCell_same _ _ _ _ _ _ h).trans rfl
theorem CBox.set5 (h : CBox W g q) (u : Int) : CBox (W.setCell ⟨g, 5, none⟩ (.int .i64 u)) g { q with m := u } := (heap_setCell_same _ _ _ _ _ _ h).trans rfl
theorem CBox.set6 (h : CBox W g q) (A : Option Addr) (n c : Nat) : CBox (W.setCell ⟨g, 6, none⟩ (.slice A n c)) g { q with A6 := A, n6 := n, c6 := c } := (heap_setCell_same _ _ _ _ _ _ h).trans rfl
theorem CBox.set7 (h : CBox W g q) (A : Option Addr) (n c : Nat) : CBox (W.setCell ⟨g, 7, none⟩ (.slice A n c)) g { q with A7 := A, n7 := n, c7 := c } := (heap_setCell_same _ _ _ _ _ _ h).trans rfl
theorem CBox.set8 (h : CBox W g q) (A : Option Addr) (n c : Nat) : CBox (W.setCell ⟨g, 8, none⟩ (.slice A n c)) g { q with A8 := A, n8 := n, c8 := c } := (heap_setCell_same _ _ _ _ _ _ h).trans rfl
end
end Go.Proofs.YtimcdikeajbabaaGreatDoor

namespace Go.Proofs.YtimcdikeajbabaaGreatDoor
open Go.RowKit
set_option maxRecDepth 100000

theorem startsTo_bad {d sl len : Int} {ss : List (Int × Int)} {j N : Nat} {x : Int × Int} (hx : ss[j]? = some x) (hj : j < N) (h : possB d sl len x = false) : startsTo d sl len ss N = false := by
  refine startsTo_false (k := j + 1) ?_ N (by omega)
  rw [startsTo, List.getD_eq_getElem?_getD, hx]
  show (_ && (possB d sl len x && _)) = false
  rw [h]; simp
theorem startsTo_low {d sl len : Int} {ss : List (Int × Int)} {k N : Nat} {x y : Int × Int} (hx : ss[k + 1]? = some x) (hy : ss[k]? = some y) (hj : k + 1 < N) (h : lessB y x = false) : startsTo d sl len ss N = false := by
  refine startsTo_false (k := k + 1 + 1) ?_ N (by omega)
  rw [startsTo, List.getD_eq_getElem?_getD, hx, Nat.add_sub_cancel, List.getD_eq_getElem?_getD, hy]
  show (_ && (possB d sl len x && (decide (k + 1 = 0) || lessB y x))) = false
  rw [h, decide_eq_false (by omega)]; simp
theorem startsTo_first {d sl len : Int} {ss : List (Int × Int)} {x : Int × Int} (hx : ss[0]? = some x) (h : possB d sl len x = true) : startsTo d sl len ss (0 + 1) = true := by
  rw [startsTo, List.getD_eq_getElem?_getD, hx]
  show (true && (possB d sl len x && (decide (0 = 0) || _))) = true
  rw [h]; simp
theorem startsTo_more {d sl len : Int} {ss : List (Int × Int)} {k : Nat} {x y : Int × Int} (h0 : startsTo d sl len ss (k + 1) = true) (hx : ss[k + 1]? = some x) (hy : ss[k]? = some y) (h : possB d sl len x = true) (hl : lessB y x = true) : startsTo d sl len ss (k + 1 + 1) = true := by
  rw [startsTo, h0, List.getD_eq_getElem?_getD, hx, Nat.add_sub_cancel, List.getD_eq_getElem?_getD, hy]
  show (true && (possB d sl len x && (decide (k + 1 = 0) || lessB y x))) = true
  rw [h, hl]; simp
theorem ord_ge {a b : Int × Int} (h : lessB a b = false) : 0 ≤ ordP a b := by
  have := mt (ordP_neg a b).1 (by rw [h]; simp)
  omega
set_option maxHeartbeats 8000000 in
theorem cstarts_walk (z co pa : ByteArray) (n : Int) (A4 : Option Addr) (n4 c4 : Nat) (mm : Int) (A6 : Option Addr) (n6 c6 : Nat) (A7 : Option Addr) (n7 c7 : Nat) (A8 : Option Addr) (n8 c8 : Nat) (ss : List (Int × Int)) (d sl b m : Int) (w : World) (hn : ss.length = n8) (hn8 : n8 ≤ 9223372036854775807) (hlen : 1 ≤ n ∧ n ≤ sl) (hsl : sl ≤ 24) (hs : At kStart AnyB w A8 ss) :
    Calls Tryz.prog 94 #[.agg #[.string z, .string co, .string pa, .int .i64 n, .slice A4 n4 c4, .int .i64 mm, .slice A6 n6 c6, .slice A7 n7 c7, .slice A8 n8 c8], .agg #[.int .i64 d, .int .i64 sl, .int .i64 b, .int .i64 m]] w fun e w' => e = .returned (.bool (startsTo d sl n ss n8)) ∧ Below w.heap.size w w' := by
  have hb0 : Below w.heap.size w ((w.alloc (.cells #[.string z, .string co, .string pa, .int .i64 n, .slice A4 n4 c4, .int .i64 mm, .slice A6 n6 c6, .slice A7 n7 c7, .slice A8 n8 c8] 47)).alloc (.cells #[.int .i64 d, .int .i64 sl, .int .i64 b, .int .i64 m] 24)) := (by repeat (first | exact Below.refl _ _ | refine ext_alloc ?_ _ | refine ext_drewN ?_ _ | refine ext_drew ?_ | refine ext_trans ?_ (by assumption)))
  have hz : (w.alloc (.cells #[.string z, .string co, .string pa, .int .i64 n, .slice A4 n4 c4, .int .i64 mm, .slice A6 n6 c6, .slice A7 n7 c7, .slice A8 n8 c8] 47)).heap.size = w.heap.size + 1 := World.size_alloc _ _
  have hC0 := (cbox_new w ⟨z, co, pa, n, A4, n4, c4, mm, A6, n6, c6, A7, n7, c7, A8, n8, c8⟩).alloc (.cells #[.int .i64 d, .int .i64 sl, .int .i64 b, .int .i64 m] 24)
  have bG := Box4.new (w.alloc (.cells #[.string z, .string co, .string pa, .int .i64 n, .slice A4 n4 c4, .int .i64 mm, .slice A6 n6 c6, .slice A7 n7 c7, .slice A8 n8 c8] 47)) 24 (.int .i64 d) (.int .i64 sl) (.int .i64 b) (.int .i64 m)
  rw [hz] at bG
  obtain ⟨W, hW⟩ : ∃ W, (w.alloc (.cells #[.string z, .string co, .string pa, .int .i64 n, .slice A4 n4 c4, .int .i64 mm, .slice A6 n6 c6, .slice A7 n7 c7, .slice A8 n8 c8] 47)).alloc (.cells #[.int .i64 d, .int .i64 sl, .int .i64 b, .int .i64 m] 24) = W := ⟨_, rfl⟩
  have hC : CBox W w.heap.size ⟨z, co, pa, n, A4, n4, c4, mm, A6, n6, c6, A7, n7, c7, A8, n8, c8⟩ := by rw [← hW]; exact hC0
  rw [hW] at hb0 bG
  have hsW := hs.later hb0
  have u3 := hC.c3
  have u8 := hC.c8
  dsimp only at u3 u8
  obtain ⟨g0, g1, g2, g3⟩ := bG
  obtain ⟨cb, hcb⟩ : ∃ cb, w.heap.size = cb := ⟨_, rfl⟩
  obtain ⟨gb, hgb⟩ : ∃ gb, w.heap.size + 1 = gb := ⟨_, rfl⟩
  rw [hcb] at u3 u8
  rw [hgb] at g0 g1 g2 g3
  obtain ⟨V, hV⟩ : ∃ V, startsTo d sl n ss n8 = V := ⟨_, rfl⟩
  rw [hV]
  have hcl := World.block_lt_of_cell? _ _ u3
  have hgl := World.block_lt_of_cell? _ _ g0
  replace hV := hide hV
  replace hW := hide hW
  replace hcb := hide hcb
  replace hgb := hide hgb
  replace hn := hide hn
  clear hs hz hC0 hC
  go_enter Tryz.func94, Tryz.ntmps94
  go_wp2_with fail
  rw [hW.out, hgb.out, hcb.out]
  go_loopw [10] (fun i wr => ∃ j : Nat, j ≤ n8 ∧ i = .int .i64 j ∧ Hid (startsTo d sl n ss j = true) ∧ Below W.heap.size W wr) (fun i _ => n8 - (intOf i).toNat)
  case atStart => exact ⟨0, Nat.zero_le _, rfl, hide rfl, Below.refl _ _⟩
  case round =>
    obtain ⟨j, hj, rfl, ho, hb⟩ := hrel
    by_cases hlt : j < n8
    · obtain ⟨x, hx⟩ : ∃ x, ss[j]? = some x := ⟨_, List.getElem?_eq_getElem (by rw [hn.out]; exact hlt)⟩
      obtain ⟨sb, so, rfl, -, hsb, k0, k1⟩ := (hsW.later hb).start hx
      obtain ⟨x1, x2⟩ := x
      dsimp only at k0 k1
      have hj0 : (0 : Int) ≤ (j : Int) := by omega
      have hj1 : (j : Int) < (n8 : Int) := by omega
      replace u3 := cell_later hb u3
      replace u8 := cell_later hb u8
      replace g0 := cell_later hb g0
      replace g1 := cell_later hb g1
      replace g2 := cell_later hb g2
      replace g3 := cell_later hb g3
      have hbn : Below wr.heap.size wr (wr.alloc (.cells #[.int .i64 x1, .int .i64 x2] 70)) := ext_alloc (Below.refl _ _) _
      have w0 : (wr.alloc (.cells #[.int .i64 x1, .int .i64 x2] 70)).cell? ⟨wr.heap.size, 0, none⟩ = some (.int .i64 x1) := by simp
      have w1 : (wr.alloc (.cells #[.int .i64 x1, .int .i64 x2] 70)).cell? ⟨wr.heap.size, 1, none⟩ = some (.int .i64 x2) := by simp
      have hSC : Cn8 wr.heap.size 0 (.int .i64 x1) wr.heap.size 1 (.int .i64 x2) cb 3 (.int .i64 n) cb 8 (.slice (some ⟨sb, so, none⟩) n8 c8) gb 0 (.int .i64 d) gb 1 (.int .i64 sl) gb 2 (.int .i64 b) gb 3 (.int .i64 m) (wr.alloc (.cells #[.int .i64 x1, .int .i64 x2] 70)) := ⟨w0, w1, cell_later hbn u3, cell_later hbn u8, cell_later hbn g0, cell_later hbn g1, cell_later hbn g2, cell_later hbn g3⟩
      have hb3 := ext_trans hb hbn
      obtain ⟨W3, hW3⟩ : ∃ W3, wr.alloc (.cells #[.int .i64 x1, .int .i64 x2] 70) = W3 := ⟨_, rfl⟩
      rw [hW3] at hSC hb3 hbn
      have hcp0 := fun (v : Later W3) => cposs_walk x1 x2 n d sl b m (by omega) (by omega) v.val
      clear w0 w1
      cases hp : possB d sl n (x1, x2) with
      | false =>
        obtain rfl : V = false := by rw [← hV.out]; exact startsTo_bad hx hlt hp
        rw [hp] at hcp0
        have hSd := hSC.drew
        have hrefl := Below.refl W3.heap.size W3
        obtain ⟨q1, q2, q3, q4, q5, q6, q7, q8⟩ := id hSC
        have hgr : wr.heap.size < W3.heap.size := World.block_lt_of_cell? _ _ q1
        replace hW3 := hide hW3
        clear hx ho hp hsW
        have hany := later_any W3
        have hcp := hide (fun (v : Later W3) => calls_later (v := .bool false) (n := v) (hcp0 v))
        have f1 := fun (v : Later W3) => cell_later v.keeps q1
        have f2 := fun (v : Later W3) => cell_later v.keeps q2
        have f3 := fun (v : Later W3) => cell_later v.keeps q3
        have f4 := fun (v : Later W3) => cell_later v.keeps q4
        have f5 := fun (v : Later W3) => cell_later v.keeps q5
        have f6 := fun (v : Later W3) => cell_later v.keeps q6
        have f7 := fun (v : Later W3) => cell_later v.keeps q7
        have f8 := fun (v : Later W3) => cell_later v.keeps q8
        go_wp2_with fail
        rw [hW3.out]
        refine wp_region_later (by kernel_rfl) (by kernel_rfl) ?_
        repeat (go_big_quiet_step ((go_at_call 136; with_reducible exact hcp.out _)))
        refine wpQuiet_nil ?_
        clear hcp hcp0 hany f1 f2 f3 f4 f5 f6 f7 f8
        rintro _ ⟨n8', rfl⟩
        have hb8 := n8'.keeps
        generalize n8'.val = w8 at *
        go_wp2_with fail
        go_ret
        exact ⟨rfl, ext_trans hb0 (ext_trans hb3 hb8)⟩
      | true =>
        rw [hp] at hcp0
        by_cases hj00 : j = 0
        · have hnx : Hid (startsTo d sl n ss (j + 1) = true) := hide (by
            subst hj00
            exact startsTo_first hx hp)
          have hji : ¬ (0 : Int) < (j : Int) := by omega
          have hSd := hSC.drew
          have hrefl := Below.refl W3.heap.size W3
          obtain ⟨q1, q2, q3, q4, q5, q6, q7, q8⟩ := id hSC
          have hgr : wr.heap.size < W3.heap.size := World.block_lt_of_cell? _ _ q1
          replace hW3 := hide hW3
          replace hj00 := hide hj00
          clear hx ho hp hsW hV
          have hjn : ¬ 0 < j := by have := hj00.out; omega
          have hany := later_any W3
          have hcp := hide (fun (v : Later W3) => calls_later (v := .bool true) (n := v) (hcp0 v))
          have f1 := fun (v : Later W3) => cell_later v.keeps q1
          have f2 := fun (v : Later W3) => cell_later v.keeps q2
          have f3 := fun (v : Later W3) => cell_later v.keeps q3
          have f4 := fun (v : Later W3) => cell_later v.keeps q4
          have f5 := fun (v : Later W3) => cell_later v.keeps q5
          have f6 := fun (v : Later W3) => cell_later v.keeps q6
          have f7 := fun (v : Later W3) => cell_later v.keeps q7
          have f8 := fun (v : Later W3) => cell_later v.keeps q8
          go_wp2_with fail
          rw [hW3.out]
          refine wp_region_later (by kernel_rfl) (by kernel_rfl) ?_
          repeat (go_big_quiet_step ((go_at_call 136; with_reducible exact hcp.out _)))
          refine wpQuiet_nil ?_
          clear hcp hcp0 hany f1 f2 f3 f4 f5 f6 f7 f8
          rintro _ ⟨n8', rfl⟩
          have hb8 := n8'.keeps
          generalize n8'.val = w8 at *
          go_wp2_with fail
          go_roundw
          case rel => exact ⟨j + 1, by omega, by go_num, hnx, ext_trans hb3 hb8⟩
          case measure => simp [intOf]; omega
        · obtain ⟨k, hk⟩ : ∃ k, j = k + 1 := ⟨j - 1, by omega⟩
          obtain ⟨y, hy⟩ : ∃ y, ss[k]? = some y := ⟨_, List.getElem?_eq_getElem (by rw [hn.out]; omega)⟩
          have hx' : ss[k + 1]? = some (x1, x2) := by rw [← hk]; exact hx
          obtain ⟨sb', so', e1, -, -, p0, p1⟩ := (hsW.later hb).start hy
          injection e1 with e1
          injection e1 with e2 e3 _
          subst e2 e3
          obtain ⟨y1, y2⟩ := y
          dsimp only at p0 p1
          have hSD : Cn10 wr.heap.size 0 (.int .i64 x1) wr.heap.size 1 (.int .i64 x2) cb 3 (.int .i64 n) cb 8 (.slice (some ⟨sb, so, none⟩) n8 c8) gb 0 (.int .i64 d) gb 1 (.int .i64 sl) gb 2 (.int .i64 b) gb 3 (.int .i64 m) sb ((so + k * 2)) (.int .i64 y1) sb ((so + k * 2 + 1)) (.int .i64 y2) W3 := by
            obtain ⟨a1, a2, a3, a4, a5, a6, a7, a8⟩ := hSC
            exact ⟨a1, a2, a3, a4, a5, a6, a7, a8, cell_later hbn p0, cell_later hbn p1⟩
          obtain ⟨o, ho2⟩ : ∃ o, ordP (y1, y2) (x1, x2) = o := ⟨_, rfl⟩
          have hco0 := fun (v : Later W3) => corder_walk y1 y2 x1 x2 v.val
          rw [ho2] at hco0
          have hji : (0 : Int) < (j : Int) := by omega
          have hki : (j : Int) - 1 = (k : Int) := by omega
          have hkw : IntKind.i64.wrap (k : Int) = (k : Int) := IntWalk.i64_in _ (by omega)
          have hk0 : (0 : Int) ≤ (k : Int) := by omega
          have hk1 : (k : Int) < (n8 : Int) := by omega
          have hSd := hSD.drew
          have hrefl := Below.refl W3.heap.size W3
          obtain ⟨q1, q2, q3, q4, q5, q6, q7, q8, q9, q10⟩ := id hSD
          have hgr : wr.heap.size < W3.heap.size := World.block_lt_of_cell? _ _ q1
          cases hl : lessB (y1, y2) (x1, x2) with
          | false =>
            obtain rfl : V = false := by rw [← hV.out]; exact startsTo_low hx' hy (by omega) hl
            have hoi : 0 ≤ o := by rw [← ho2]; exact ord_ge hl
            replace hW3 := hide hW3
            replace hk := hide hk
            clear hx hx' hy ho hp hsW hSC ho2 hl hj00
            have hjn : 0 < j := by omega
            have hany := later_any W3
            have hcp := hide (fun (v : Later W3) => calls_later (v := .bool true) (n := v) (hcp0 v))
            have hco := hide (fun (v : Later W3) => calls_later (v := .int .i64 o) (n := v) (hco0 v))
            have f1 := fun (v : Later W3) => cell_later v.keeps q1
            have f2 := fun (v : Later W3) => cell_later v.keeps q2
            have f3 := fun (v : Later W3) => cell_later v.keeps q3
            have f4 := fun (v : Later W3) => cell_later v.keeps q4
            have f5 := fun (v : Later W3) => cell_later v.keeps q5
            have f6 := fun (v : Later W3) => cell_later v.keeps q6
            have f7 := fun (v : Later W3) => cell_later v.keeps q7
            have f8 := fun (v : Later W3) => cell_later v.keeps q8
            have f9 := fun (v : Later W3) => cell_later v.keeps q9
            have f10 := fun (v : Later W3) => cell_later v.keeps q10
            go_wp2_with fail
            rw [hW3.out]
            refine wp_region_later (by kernel_rfl) (by kernel_rfl) ?_
            repeat (go_big_quiet_step ((first | (go_at_call 136; with_reducible exact hcp.out _) | (go_at_call 112; with_reducible exact hco.out _))))
            refine wpQuiet_nil ?_
            clear hcp hco hcp0 hco0 hany f1 f2 f3 f4 f5 f6 f7 f8 f9 f10
            rintro _ ⟨n8', rfl⟩
            have hb8 := n8'.keeps
            generalize n8'.val = w8 at *
            go_wp2_with fail
            go_ret
            exact ⟨rfl, ext_trans hb0 (ext_trans hb3 hb8)⟩
          | true =>
            have hoi : ¬ 0 ≤ o := by
              have := (ordP_neg (y1, y2) (x1, x2)).2 hl
              rw [ho2] at this
              omega
            have hnx : Hid (startsTo d sl n ss (j + 1) = true) := hide (by
              have := ho.out
              rw [hk] at this ⊢
              exact startsTo_more this hx' hy hp hl)
            replace hW3 := hide hW3
            replace hk := hide hk
            clear hx hx' hy ho hp hsW hSC ho2 hl hj00 hV
            have hjn : 0 < j := by omega
            have hany := later_any W3
            have hcp := hide (fun (v : Later W3) => calls_later (v := .bool true) (n := v) (hcp0 v))
            have hco := hide (fun (v : Later W3) => calls_later (v := .int .i64 o) (n := v) (hco0 v))
            have f1 := fun (v : Later W3) => cell_later v.keeps q1
            have f2 := fun (v : Later W3) => cell_later v.keeps q2
            have f3 := fun (v : Later W3) => cell_later v.keeps q3
            have f4 := fun (v : Later W3) => cell_later v.keeps q4
            have f5 := fun (v : Later W3) => cell_later v.keeps q5
            have f6 := fun (v : Later W3) => cell_later v.keeps q6
            have f7 := fun (v : Later W3) => cell_later v.keeps q7
            have f8 := fun (v : Later W3) => cell_later v.keeps q8
            have f9 := fun (v : Later W3) => cell_later v.keeps q9
            have f10 := fun (v : Later W3) => cell_later v.keeps q10
            go_wp2_with fail
            rw [hW3.out]
            refine wp_region_later (by kernel_rfl) (by kernel_rfl) ?_
            repeat (go_big_quiet_step ((first | (go_at_call 136; with_reducible exact hcp.out _) | (go_at_call 112; with_reducible exact hco.out _))))
            refine wpQuiet_nil ?_
            clear hcp hco hcp0 hco0 hany f1 f2 f3 f4 f5 f6 f7 f8 f9 f10
            rintro _ ⟨n8', rfl⟩
            have hb8 := n8'.keeps
            generalize n8'.val = w8 at *
            go_wp2_with fail
            go_roundw
            case rel => exact ⟨j + 1, by omega, by go_num, hnx, ext_trans hb3 hb8⟩
            case measure => simp [intOf]; omega
    · obtain rfl : j = n8 := by omega
      obtain rfl : V = true := by rw [← hV.out]; exact ho.out
      clear ho hsW
      go_wp2
      go_ret
      exact ⟨rfl, ext_trans hb0 hb⟩
end Go.Proofs.YtimcdikeajbabaaGreatDoor
