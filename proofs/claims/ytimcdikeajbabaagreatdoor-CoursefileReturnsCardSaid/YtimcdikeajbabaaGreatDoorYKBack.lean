/- The variable features, from what the row lays. No condition. Classes as data, whole; what is wrong with classes (plain). No walk. Plain: a number in decimal. No condition. Plain: the record of a class; the times of a class. No walk. Plain: data put in order one by one, whatever the order; the same in order once only; lists without doubles. No walk. Plain: what is read of the sets of weeks and of the starts of a class. No walk. Plain: a list of at most eight codes. No condition. What the document's reading of a room gives, beside the program's (plain). No walk. What the reading of a class gives (plain). No walk. Plain: classes that are valid are read as they were written. No walk. -/
import Derived.Test.YtimcdikeajbabaaGreatDoorRows
import Derived.WalkKit
import Derived.WalkSpells
import Derived.WalkLawsBesides
import Derived.BigGuardPart
import Derived.Lib.Hide
import Derived.Laws.BitsAllLaws
import Derived.Laws.BitsLemmas
import Derived.Lib.LaidTab
import Derived.Test.YtimcdikeajbabaaGreatDoorShelf
import Derived.Lib.ConvBytes
import Derived.Deep.QuietTactic
import Derived.BigQuiet
import Derived.Test.YtimcdikeajbabaaGreatDoorCards
import Derived.Test.YtimcdikeajbabaaGreatDoorTie
import Derived.ProofKit
import Derived.OpenShut
import Derived.LaidMore
import Derived.Lay
import Derived.SevenTiedAt
import Derived.Stop.Joined
import Derived.Stop.LaidErr
import Derived.Deep.DeepHandedRow
import Derived.Lib.LaidU8
import Derived.LaidSub
import Derived.Deep.Slices
import Derived.Test.YtimcdikeajbabaaGreatDoorShelfS
import Derived.Laws.ResultCell
import Derived.RegionTactic
import Derived.BigRegion
import Derived.Deep.RegionHeld3
import Derived.Deep.DeepCutAuto
import Derived.Lib.SmallJoins
import Derived.Lib.SplitLaws
import Derived.Lib.CountLaws
import Derived.Lib.IndexMore
import Derived.Lib.Split
import Derived.Lib.Join
import Derived.Lib.ItoaNum
import Derived.Laws.AppendOwn
import Derived.Test.YtimcdikeajbabaaGreatDoorShelfT
import Derived.Lib.ItoaLen
import Derived.Lib.AppendIntMem
import Derived.Deep.AppendLies
import Derived.Lib.PathFns
import Derived.Maps.Range
import Derived.Lib.OwnBridge
import Derived.Sort.OwnSorted
import Derived.Deep.RegionLaw
import Derived.Deep.RegionLawGrows
import Derived.Deep.Fields
import Derived.ChangeSame
import Derived.Test.YtimcdikeajbabaaGreatDoorYDCls
import Derived.Test.YtimcdikeajbabaaGreatDoorYVars
import Derived.Sort.Walk0
import Derived.Test.YtimcdikeajbabaaGreatDoorYTgB
import Derived.Test.YtimcdikeajbabaaGreatDoorYIdxS
import Derived.Test.YtimcdikeajbabaaGreatDoorYPairs
import Derived.Test.YtimcdikeajbabaaGreatDoorYROneP
import Derived.Test.YtimcdikeajbabaaGreatDoorYSameL
import Derived.Test.YtimcdikeajbabaaGreatDoorYWsF
import Derived.Test.YtimcdikeajbabaaGreatDoorYJoinP
import Derived.Test.YtimcdikeajbabaaGreatDoorYEnds
import Derived.Test.YtimcdikeajbabaaGreatDoorYWsD
import Derived.Test.YtimcdikeajbabaaGreatDoorYNumS
import Derived.Test.YtimcdikeajbabaaGreatDoorYFound
import Derived.Test.YtimcdikeajbabaaGreatDoorYPlainA
import Derived.Test.YtimcdikeajbabaaGreatDoorYSorted
namespace Go.Proofs.YtimcdikeajbabaaGreatDoor
open Go.RowKit
set_option maxRecDepth 100000

theorem ftr_of {L : List (String × DataW Unit)} {W : World} (hL : laidMetH Tryz.prog L W) (hplain : (L.all fun x => x.2.handleName?.isNone) = true)
    (hw : (L.filter fun x => x.1 == "timetable/timetablemade.features") = [("timetable/timetablemade.features", Rows.laid_timetable_timetablemade_features)]) : StrsVar W.heap.size 1 featuresL W := by
  rw [MakeChecks.laidMetH_plain _ _ _ hplain] at hL
  have h := laidMet.filter (fun x => x.1 == "timetable/timetablemade.features") hL
  rw [hw] at h
  exact strsVar_of_head (zs := featuresL) (rest := []) (g := 1) (t := 44) (e := 9) (by simp [featuresL]) (by kernel_rfl) (by kernel_rfl) Tryz.underlying44 Tryz.underlying9 (by kernel_rfl) h
end Go.Proofs.YtimcdikeajbabaaGreatDoor

namespace Go.Proofs.YtimcdikeajbabaaGreatDoor
open Go.RowKit
set_option maxRecDepth 100000

def codesK (l : List Cls) : List ByteArray := l.map fun x => x.1
/-- The nine values of a class whose rows lie there. -/
def nineOf (x : Cls) (A4 : Option Addr) (c4 : Nat) (A6 : Option Addr) (c6 : Nat) (A7 : Option Addr) (c7 : Nat) (A8 : Option Addr) (c8 : Nat) : Nine :=
  ⟨x.1, x.2.1, x.2.2.1, x.2.2.2.1, A4, x.2.2.2.2.1.length, c4, x.2.2.2.2.2.1, A6, x.2.2.2.2.2.2.1.length, c6, A7, x.2.2.2.2.2.2.2.1.length, c7, A8, x.2.2.2.2.2.2.2.2.length, c8⟩
theorem At.clsF {S : Nat → Prop} {w : World} {A : Option Addr} {l : List Cls} {j : Nat} {x : Cls} (h : At kCls S w A l) (hj : l[j]? = some x) :
    ∃ b off A4 c4 A6 c6 A7 c7 A8 c8, A = some ⟨b, off, none⟩ ∧ S b ∧ b < w.heap.size ∧ NineAt w b (off + j * 9) (nineOf x A4 c4 A6 c6 A7 c7 A8 c8) ∧
      (x.2.2.2.2.1.length ≤ c4 ∧ x.2.2.2.2.2.2.1.length ≤ c6 ∧ x.2.2.2.2.2.2.2.1.length ≤ c7 ∧ x.2.2.2.2.2.2.2.2.length ≤ c8) ∧
      At kInt S w A4 x.2.2.2.2.1 ∧ At kStr S w A6 x.2.2.2.2.2.2.1 ∧ At kStr S w A7 x.2.2.2.2.2.2.2.1 ∧ At kStart S w A8 x.2.2.2.2.2.2.2.2 := by
  obtain ⟨b, off, vs, e, hs, hlt, hr, hc⟩ := h.get hj
  obtain ⟨u0, r0, e0, h0, hr⟩ := hr
  obtain ⟨u1, r1, e1, h1, hr⟩ := hr
  obtain ⟨u2, r2, e2, h2, hr⟩ := hr
  obtain ⟨u3, r3, e3, h3, hr⟩ := hr
  obtain ⟨u4, r4, e4, h4, hr⟩ := hr
  obtain ⟨u5, r5, e5, h5, hr⟩ := hr
  obtain ⟨u6, r6, e6, h6, hr⟩ := hr
  obtain ⟨u7, u8, e7, h7, h8⟩ := hr
  obtain ⟨A4, c4, rfl, l4, a4⟩ := h4
  obtain ⟨A6, c6, rfl, l6, a6⟩ := h6
  obtain ⟨A7, c7, rfl, l7, a7⟩ := h7
  obtain ⟨A8, c8, rfl, l8, a8⟩ := h8
  have h0 : u0 = [.string x.1] := h0
  have h1 : u1 = [.string x.2.1] := h1
  have h2 : u2 = [.string x.2.2.1] := h2
  have h3 : u3 = [.int .i64 x.2.2.2.1] := h3
  have h5 : u5 = [.int .i64 x.2.2.2.2.2.1] := h5
  subst h0 h1 h2 h3 h5 e7 e6 e5 e4 e3 e2 e1 e0
  have hk : ∀ i u, ([Value.string x.1, .string x.2.1, .string x.2.2.1, .int .i64 x.2.2.2.1, .slice A4 x.2.2.2.2.1.length c4, .int .i64 x.2.2.2.2.2.1, .slice A6 x.2.2.2.2.2.2.1.length c6, .slice A7 x.2.2.2.2.2.2.2.1.length c7, .slice A8 x.2.2.2.2.2.2.2.2.length c8] : List Value)[i]? = some u → w.cell? ⟨b, off + j * 9 + i, none⟩ = some u := hc
  exact ⟨b, off, A4, c4, A6, c6, A7, c7, A8, c8, e, hs, hlt,
    ⟨hk 0 _ rfl, hk 1 _ rfl, hk 2 _ rfl, hk 3 _ rfl, hk 4 _ rfl, hk 5 _ rfl, hk 6 _ rfl, hk 7 _ rfl, hk 8 _ rfl⟩, ⟨l4, l6, l7, l8⟩, a4, a6, a7, a8⟩
/-! What is wrong with the sets of weeks of a class. -/
/-- The first k sets are valid and differ. -/
def patsTo (n : Int) (ps : List Int) : Nat → Bool
  | 0 => true
  | k + 1 => patsTo n ps k && (validB (ps.getD k 0) n && !(ps.take k).contains (ps.getD k 0))
theorem patsTo_false {n : Int} {ps : List Int} {k : Nat} (h : patsTo n ps k = false) : ∀ m, k ≤ m → patsTo n ps m = false
  | 0, hk => by
    have e : k = 0 := by omega
    rw [e] at h; exact h
  | m + 1, hk => by
    by_cases e : k = m + 1
    · rw [← e]; exact h
    · rw [patsTo, patsTo_false h m (by omega), Bool.false_and]
def patsE (n : Int) (ps : List Int) : Nat := if ps.length = 0 then 16 else if 8 < ps.length then 2 else if patsTo n ps ps.length = false then 1 else 0
/-! What is wrong with the starts of a class. -/
def possB (d sl len : Int) (s : Int × Int) : Bool := decide (0 ≤ s.1 ∧ s.1 < d ∧ 0 ≤ s.2 ∧ s.2 ≤ sl - len)
def lessB (a b : Int × Int) : Bool := decide (a.1 < b.1 ∨ (a.1 = b.1 ∧ a.2 < b.2))
/-- The first k starts are possible and ascend. -/
def startsTo (d sl len : Int) (ss : List (Int × Int)) : Nat → Bool
  | 0 => true
  | k + 1 => startsTo d sl len ss k && (possB d sl len (ss.getD k (0, 0)) && (decide (k = 0) || lessB (ss.getD (k - 1) (0, 0)) (ss.getD k (0, 0))))
theorem startsTo_false {d sl len : Int} {ss : List (Int × Int)} {k : Nat} (h : startsTo d sl len ss k = false) : ∀ m, k ≤ m → startsTo d sl len ss m = false
  | 0, hk => by
    have e : k = 0 := by omega
    rw [e] at h; exact h
  | m + 1, hk => by
    by_cases e : k = m + 1
    · rw [← e]; exact h
    · rw [startsTo, startsTo_false h m (by omega), Bool.false_and]
/-- What is wrong with a class by itself. -/
def clsEx (d sl n : Int) (x : Cls) : Nat :=
  if codeB x.1 = false then 10 else if codeB x.2.1 = false then 10 else if codeB x.2.2.1 = false then 10 else
  if x.2.2.2.1 < 1 then 3 else if sl < x.2.2.2.1 then 3 else
  if patsE n x.2.2.2.2.1 ≠ 0 then patsE n x.2.2.2.2.1 else
  if x.2.2.2.2.2.1 < 0 then 3 else if 9999 < x.2.2.2.2.2.1 then 3 else
  if 8 < x.2.2.2.2.2.2.1.length then 2 else if 8 < x.2.2.2.2.2.2.2.1.length then 2 else
  if ascTo x.2.2.2.2.2.2.1 x.2.2.2.2.2.2.1.length = false then 10 else if ascTo x.2.2.2.2.2.2.2.1 x.2.2.2.2.2.2.2.1.length = false then 10 else
  if 24 < x.2.2.2.2.2.2.2.2.length then 2 else if startsTo d sl x.2.2.2.1 x.2.2.2.2.2.2.2.2 x.2.2.2.2.2.2.2.2.length = false then 14 else 0
/-- What is wrong with a class behind such codes. -/
def clsE (d sl n : Int) (x : Cls) (met : List ByteArray) : Nat := if clsEx d sl n x ≠ 0 then clsEx d sl n x else if 0 ≤ idxS x.1 met then 11 else 0
def clsEi (d sl n : Int) (l : List Cls) (i : Nat) : Nat := match l[i]? with
  | none => 0
  | some x => clsE d sl n x ((codesK l).take i)
def clsErr (d sl n : Int) (l : List Cls) : Nat → Nat
  | 0 => 0
  | k + 1 => if clsErr d sl n l k ≠ 0 then clsErr d sl n l k else clsEi d sl n l k
def validK (d sl b m n : Int) (l : List Cls) : Nat := if weekB d sl b m n = false then 1 else if 24 < l.length then 2 else clsErr d sl n l l.length
theorem clsErr_next {d sl n : Int} {l : List Cls} {j : Nat} (h0 : clsErr d sl n l j = 0) : clsErr d sl n l (j + 1) = clsEi d sl n l j := by rw [clsErr, if_neg (by rw [h0]; simp)]
theorem clsErr_hit {d sl n : Int} {l : List Cls} {j : Nat} (h0 : clsErr d sl n l j = 0) (h : clsEi d sl n l j ≠ 0) : ∀ k, j < k → clsErr d sl n l k = clsEi d sl n l j
  | 0, hj => by omega
  | k + 1, hj => by
    by_cases e : j = k
    · subst e; exact clsErr_next h0
    · have ih := clsErr_hit h0 h k (by omega)
      rw [clsErr, if_pos (by rw [ih]; exact h), ih]
theorem cls_end {d sl n : Int} {l : List Cls} {j N e : Nat} {x : Cls} (hx : l[j]? = some x) (h0 : clsErr d sl n l j = 0) (he : clsE d sl n x ((codesK l).take j) = e) (hne : e ≠ 0) (hj : j < N) : clsErr d sl n l N = e := by
  have hE : clsEi d sl n l j = e := by unfold clsEi; rw [hx]; exact he
  rw [clsErr_hit h0 (by rw [hE]; exact hne) N hj, hE]
theorem cls_on {d sl n : Int} {l : List Cls} {j : Nat} {x : Cls} (hx : l[j]? = some x) (h0 : clsErr d sl n l j = 0) (he : clsE d sl n x ((codesK l).take j) = 0) : clsErr d sl n l (j + 1) = 0 := by
  have hE : clsEi d sl n l j = 0 := by unfold clsEi; rw [hx]; exact he
  rw [clsErr_next h0, hE]
theorem week_bd {d sl b m n : Int} (h : weekB d sl b m n = true) : 1 ≤ d ∧ d ≤ 7 ∧ 1 ≤ sl ∧ sl ≤ 24 ∧ 1 ≤ n ∧ n ≤ 20 := by
  unfold weekB gridV at h
  rw [Bool.and_eq_true, decide_eq_true_eq, decide_eq_true_eq] at h
  obtain ⟨h1, h2⟩ := h
  split at h1
  · omega
  · omega
end Go.Proofs.YtimcdikeajbabaaGreatDoor

namespace Go.Proofs.YtimcdikeajbabaaGreatDoor
open Go.RowKit
set_option maxRecDepth 100000

/-- A number in decimal. -/
def decB (n : Nat) : ByteArray := ⟨(Lib.itoa n).toArray⟩
end Go.Proofs.YtimcdikeajbabaaGreatDoor

namespace Go.Proofs.YtimcdikeajbabaaGreatDoor
open Go.RowKit
set_option maxRecDepth 100000

/-! Records. -/
def setB (n p : Int) : ByteArray := ⟨(fmtV p n).1.toArray⟩
def startB (s : Int × Int) : ByteArray := dayB s.1.toNat ++ (⟨#[32]⟩ : ByteArray) ++ decB (s.2 + 1).toNat
/-- Texts with a byte between. -/
def joinZ (c : UInt8) (zs : List ByteArray) : ByteArray := ⟨(Lib.join (zs.map (·.data.toList)) [c]).toArray⟩
def rowK (n : Int) (x : Cls) : List ByteArray := [x.1, x.2.1, x.2.2.1, decB x.2.2.2.1.toNat, joinZ 47 (x.2.2.2.2.1.map (setB n)), decB x.2.2.2.2.2.1.toNat, (joinV x.2.2.2.2.2.2.1).2, (joinV x.2.2.2.2.2.2.2.1).2, joinZ 59 (x.2.2.2.2.2.2.2.2.map startB)]
def rowsK (d sl b m n : Int) (l : List Cls) : List (List ByteArray) := if validK d sl b m n l = 0 then l.map (rowK n) else []
theorem clsErr_all {d sl n : Int} {l : List Cls} {N : Nat} (h : clsErr d sl n l N = 0) : ∀ j, j < N → clsEi d sl n l j = 0 := by
  intro j
  induction N with
  | zero => intro hj; omega
  | succ N ih =>
    intro hj
    by_cases h0 : clsErr d sl n l N = 0
    · rw [clsErr_next h0] at h
      by_cases e : j = N
      · rw [e]; exact h
      · exact ih h0 (by omega)
    · rw [clsErr, if_pos h0] at h
      exact absurd h h0
/-- What is right with a class. -/
structure ClsOk (d sl n : Int) (x : Cls) : Prop where
  code : codeB x.1 = true
  course : codeB x.2.1 = true
  part : codeB x.2.2.1 = true
  len : 1 ≤ x.2.2.2.1 ∧ x.2.2.2.1 ≤ sl
  pats : patsE n x.2.2.2.2.1 = 0
  seats : 0 ≤ x.2.2.2.2.2.1 ∧ x.2.2.2.2.2.1 ≤ 9999
  feats : x.2.2.2.2.2.2.1.length ≤ 8 ∧ ascTo x.2.2.2.2.2.2.1 x.2.2.2.2.2.2.1.length = true
  staff : x.2.2.2.2.2.2.2.1.length ≤ 8 ∧ ascTo x.2.2.2.2.2.2.2.1 x.2.2.2.2.2.2.2.1.length = true
  starts : x.2.2.2.2.2.2.2.2.length ≤ 24 ∧ startsTo d sl x.2.2.2.1 x.2.2.2.2.2.2.2.2 x.2.2.2.2.2.2.2.2.length = true
theorem ite_zero {c : Prop} [Decidable c] {a r : Nat} (ha : a ≠ 0) (h : (if c then a else r) = 0) : ¬ c ∧ r = 0 := by
  by_cases hc : c
  · rw [if_pos hc] at h; exact absurd h ha
  · rw [if_neg hc] at h; exact ⟨hc, h⟩
theorem ite_self {a r : Nat} (h : (if a ≠ 0 then a else r) = 0) : a = 0 ∧ r = 0 := by
  by_cases hc : a = 0
  · rw [if_neg (by simp [hc])] at h; exact ⟨hc, h⟩
  · rw [if_pos hc] at h; exact absurd h hc
theorem bool_not {x : Bool} (h : ¬ x = false) : x = true := by cases x; exact absurd rfl h; rfl
theorem clsEx_ok {d sl n : Int} {x : Cls} (h : clsEx d sl n x = 0) : ClsOk d sl n x := by
  unfold clsEx at h
  obtain ⟨h1, h⟩ := ite_zero (by decide) h
  obtain ⟨h2, h⟩ := ite_zero (by decide) h
  obtain ⟨h3, h⟩ := ite_zero (by decide) h
  obtain ⟨h4, h⟩ := ite_zero (by decide) h
  obtain ⟨h5, h⟩ := ite_zero (by decide) h
  obtain ⟨h6, h⟩ := ite_self h
  obtain ⟨h7, h⟩ := ite_zero (by decide) h
  obtain ⟨h8, h⟩ := ite_zero (by decide) h
  obtain ⟨h9, h⟩ := ite_zero (by decide) h
  obtain ⟨h10, h⟩ := ite_zero (by decide) h
  obtain ⟨h11, h⟩ := ite_zero (by decide) h
  obtain ⟨h12, h⟩ := ite_zero (by decide) h
  obtain ⟨h13, h⟩ := ite_zero (by decide) h
  obtain ⟨h14, h⟩ := ite_zero (by decide) h
  exact ⟨bool_not h1, bool_not h2, bool_not h3, ⟨by omega, by omega⟩, h6, ⟨by omega, by omega⟩, ⟨by omega, bool_not h11⟩, ⟨by omega, bool_not h12⟩, ⟨by omega, bool_not h14⟩⟩
theorem validK_parts {d sl b m n : Int} {l : List Cls} (h : validK d sl b m n l = 0) : weekB d sl b m n = true ∧ l.length ≤ 24 ∧ ∀ (j : Nat) (x : Cls), l[j]? = some x → ClsOk d sl n x ∧ ¬ 0 ≤ idxS x.1 ((codesK l).take j) := by
  unfold validK at h
  cases hw : weekB d sl b m n with
  | false => rw [if_pos hw] at h; omega
  | true =>
    rw [if_neg (by rw [hw]; simp)] at h
    by_cases h24 : 24 < l.length
    · rw [if_pos h24] at h; omega
    · rw [if_neg h24] at h
      refine ⟨rfl, by omega, fun j x hx => ?_⟩
      have hj := (List.getElem?_eq_some_iff.1 hx).1
      have := clsErr_all h j hj
      unfold clsEi at this
      rw [hx] at this
      dsimp only at this
      unfold clsE at this
      by_cases h0 : clsEx d sl n x = 0
      · rw [if_neg (by simp [h0])] at this
        refine ⟨clsEx_ok h0, fun hi => ?_⟩
        rw [if_pos hi] at this
        omega
      · rw [if_pos h0] at this
        exact absurd this h0
theorem patsTo_at {n : Int} {ps : List Int} : ∀ {k : Nat}, patsTo n ps k = true → ∀ j, j < k → validB (ps.getD j 0) n = true ∧ ps.getD j 0 ∉ ps.take j
  | 0, _, j, hj => by omega
  | k + 1, h, j, hj => by
    rw [patsTo, Bool.and_eq_true, Bool.and_eq_true] at h
    by_cases e : j = k
    · subst e
      refine ⟨h.2.1, fun hm => ?_⟩
      have := h.2.2
      simp only [Bool.not_eq_true'] at this
      rw [List.contains_iff_mem.2 hm] at this
      cases this
    · exact patsTo_at h.1 j (by omega)
theorem patsE_parts {n : Int} {ps : List Int} (h : patsE n ps = 0) : 1 ≤ ps.length ∧ ps.length ≤ 8 ∧ patsTo n ps ps.length = true := by
  unfold patsE at h
  repeat' split at h
  all_goals first | omega | skip
  exact ⟨by omega, by omega, by simp_all⟩
theorem startsTo_at {d sl len : Int} {ss : List (Int × Int)} : ∀ {k : Nat}, startsTo d sl len ss k = true → ∀ j, j < k → possB d sl len (ss.getD j (0, 0)) = true ∧ (j = 0 ∨ lessB (ss.getD (j - 1) (0, 0)) (ss.getD j (0, 0)) = true)
  | 0, _, j, hj => by omega
  | k + 1, h, j, hj => by
    rw [startsTo, Bool.and_eq_true, Bool.and_eq_true] at h
    by_cases e : j = k
    · subst e
      refine ⟨h.2.1, ?_⟩
      have := h.2.2
      rw [Bool.or_eq_true, decide_eq_true_eq] at this
      exact this
    · exact startsTo_at h.1 j (by omega)
/-! Times. -/
def allStarts (d sl len : Nat) : List (Int × Int) := (List.range d).flatMap fun (a : Nat) => (List.range (sl + 1 - len)).map fun (c : Nat) => ((a : Int), (c : Int))
theorem allStarts_len (d sl len : Nat) : (allStarts d sl len).length = d * (sl + 1 - len) := by
  unfold allStarts
  induction d with
  | zero => simp
  | succ d ih => rw [List.range_succ, List.flatMap_append, List.length_append, ih]; simp [Nat.add_mul]
def begins (d sl : Int) (x : Cls) : List (Int × Int) := if x.2.2.2.2.2.2.2.2 = [] then allStarts d.toNat sl.toNat x.2.2.2.1.toNat else x.2.2.2.2.2.2.2.2
def patT (len : Int) (bs : List (Int × Int)) (p : Int) : List T4 := bs.map fun s => (p, s.1, s.2, len)
/-- The times of a class. -/
def timesK (d sl b m : Int) (x : Cls) : List T4 :=
  if gridV d sl b m ≠ 0 ∨ x.2.2.2.1 < 1 ∨ sl < x.2.2.2.1 then [] else
  if 4096 < (x.2.2.2.2.1.flatMap (patT x.2.2.2.1 (begins d sl x))).length then [] else x.2.2.2.2.1.flatMap (patT x.2.2.2.1 (begins d sl x))
theorem patT_len (len : Int) (bs : List (Int × Int)) (ps : List Int) : (ps.flatMap (patT len bs)).length = ps.length * bs.length := by
  induction ps with
  | nil => simp
  | cons p ps ih => rw [List.flatMap_cons, List.length_append, ih]; simp [patT, Nat.add_mul]; omega
end Go.Proofs.YtimcdikeajbabaaGreatDoor

namespace Go.Proofs.YtimcdikeajbabaaGreatDoor
open Go.RowKit
set_option maxRecDepth 100000

section
variable {α : Type} (less : α → α → Bool) (dflt : α)
/-- Where x goes among the first k. -/
def posG (x : α) (out : List α) : Nat → Nat
  | 0 => 0
  | k + 1 => if less x (out.getD k dflt) = true then posG x out k else k + 1
def insG (out : List α) (x : α) : List α := out.take (posG less dflt x out out.length) ++ x :: out.drop (posG less dflt x out out.length)
def ascG (zs : List α) : List α := zs.foldl (insG less dflt) []
end
section
variable {α : Type} {less : α → α → Bool} {dflt : α}
theorem posG_le (x : α) (out : List α) : ∀ k, posG less dflt x out k ≤ k
  | 0 => Nat.le_refl _
  | k + 1 => by rw [posG]; split; exact Nat.le_trans (posG_le x out k) (Nat.le_succ k); exact Nat.le_refl _
theorem posG_above (x : α) (out : List α) : ∀ k j, posG less dflt x out k ≤ j → j < k → less x (out.getD j dflt) = true
  | 0, j, _, h => by omega
  | k + 1, j, h1, h2 => by
    rw [posG] at h1
    by_cases hl : less x (out.getD k dflt) = true
    · rw [if_pos hl] at h1
      by_cases e : j = k
      · rw [e]; exact hl
      · exact posG_above x out k j h1 (by omega)
    · rw [if_neg hl] at h1; omega
theorem posG_below (x : α) (out : List α) : ∀ k, 0 < posG less dflt x out k → less x (out.getD (posG less dflt x out k - 1) dflt) = false
  | 0, h => by simp [posG] at h
  | k + 1, h => by
    rw [posG] at h ⊢
    by_cases hl : less x (out.getD k dflt) = true
    · rw [if_pos hl] at h ⊢; exact posG_below x out k h
    · rw [if_neg hl] at h ⊢; simpa using hl
theorem insG_len (out : List α) (x : α) : (insG less dflt out x).length = out.length + 1 := by
  unfold insG
  have := posG_le (less := less) (dflt := dflt) x out out.length
  simp only [List.length_append, List.length_take, List.length_cons, List.length_drop]
  omega
theorem ascG_len (zs : List α) : (ascG less dflt zs).length = zs.length := by
  unfold ascG
  have key : ∀ (zs out : List α), (zs.foldl (insG less dflt) out).length = out.length + zs.length := by
    intro zs
    induction zs with
    | nil => intro out; rfl
    | cons z zs ih => intro out; rw [List.foldl_cons, ih, insG_len, List.length_cons]; omega
  simpa using key zs []
theorem insG_perm (out : List α) (x : α) : (insG less dflt out x).Perm (x :: out) := by
  unfold insG
  refine List.perm_middle.trans ?_
  rw [List.take_append_drop]
theorem getD_atG {out : List α} {j : Nat} (h : j < out.length) : out.getD j dflt = out[j] := by rw [List.getD_eq_getElem?_getD, List.getElem?_eq_getElem h]; rfl
/-- x does not come behind y. -/
def LeG (less : α → α → Bool) (x y : α) : Prop := less y x = false
theorem insG_sorted (htr : ∀ x y z, less y x = false → less z y = false → less z x = false) (hof : ∀ x y, less x y = true → less y x = false) {out : List α} {x : α} (h : out.Pairwise (LeG less)) : (insG less dflt out x).Pairwise (LeG less) := by
  obtain ⟨k, hk⟩ : ∃ k, posG less dflt x out out.length = k := ⟨_, rfl⟩
  have hkl : k ≤ out.length := by rw [← hk]; exact posG_le _ _ _
  unfold insG
  rw [hk, List.pairwise_append, List.pairwise_cons]
  have hlow : ∀ y ∈ out.take k, LeG less y x := by
    intro y hy
    obtain ⟨j, hj⟩ := List.getElem?_of_mem hy
    rw [List.getElem?_take] at hj
    split at hj
    · rename_i hjk
      obtain ⟨hjl, e⟩ := List.getElem?_eq_some_iff.1 hj
      have hb := posG_below (less := less) (dflt := dflt) x out out.length (by rw [hk]; omega)
      rw [hk, getD_atG (by omega)] at hb
      by_cases e2 : j = k - 1
      · subst e2; rw [← e]; exact hb
      · refine htr y _ x (?_ : LeG less y _) hb
        rw [← e]
        exact List.pairwise_iff_getElem.1 h j (k - 1) hjl (by omega) (by omega)
    · cases hj
  refine ⟨h.sublist (List.take_sublist _ _), ⟨fun y hy => ?_, h.sublist (List.drop_sublist _ _)⟩, fun a ha b hb => ?_⟩
  · obtain ⟨j, hj⟩ := List.getElem?_of_mem hy
    rw [List.getElem?_drop] at hj
    obtain ⟨hjl, e⟩ := List.getElem?_eq_some_iff.1 hj
    have ha := posG_above (less := less) (dflt := dflt) x out out.length (k + j) (by rw [hk]; omega) hjl
    rw [getD_atG hjl, e] at ha
    exact hof _ _ ha
  · rcases List.mem_cons.1 hb with rfl | hb
    · exact hlow a ha
    · rw [← List.take_append_drop k out, List.pairwise_append] at h
      exact h.2.2 a ha b hb
theorem ascG_perm (zs : List α) : (ascG less dflt zs).Perm zs := by
  have key : ∀ (zs out : List α), (zs.foldl (insG less dflt) out).Perm (zs ++ out) := by
    intro zs
    induction zs with
    | nil => intro out; exact List.Perm.refl _
    | cons z zs ih =>
      intro out
      rw [List.foldl_cons]
      refine (ih _).trans ?_
      exact ((insG_perm out z).append_left zs).trans List.perm_middle
  have := key zs []
  rwa [List.append_nil] at this
theorem ascG_sorted (htr : ∀ x y z, less y x = false → less z y = false → less z x = false) (hof : ∀ x y, less x y = true → less y x = false) (zs : List α) : (ascG less dflt zs).Pairwise (LeG less) := by
  have key : ∀ (zs out : List α), out.Pairwise (LeG less) → (zs.foldl (insG less dflt) out).Pairwise (LeG less) := by
    intro zs
    induction zs with
    | nil => intro out h; exact h
    | cons z zs ih => intro out h; rw [List.foldl_cons]; exact ih _ (insG_sorted htr hof h)
  exact key zs [] .nil
/-- Two lists of the same data in order are one, where nothing but itself is level with a datum. -/
theorem sorted_eqG (ha : ∀ x y, less y x = false → less x y = false → x = y) {l m : List α} (hp : l.Perm m) (hl : l.Pairwise (LeG less)) (hm : m.Pairwise (LeG less)) : l = m :=
  List.Perm.eq_of_pairwise (le := LeG less) (fun a b _ _ h1 h2 => ha a b h1 h2) hl hm hp
end
/-! Lists without doubles. -/
section
variable {α : Type} [DecidableEq α] (dflt : α)
/-- The first k differ. -/
def freshTo (l : List α) : Nat → Bool
  | 0 => true
  | k + 1 => freshTo l k && !decide (l.getD k dflt ∈ l.take k)
variable {dflt}
theorem freshTo_iff (l : List α) : ∀ k, k ≤ l.length → (freshTo dflt l k = true ↔ (l.take k).Nodup)
  | 0, _ => by simp [freshTo]
  | k + 1, h => by
    have e : l.take (k + 1) = l.take k ++ [l.getD k dflt] := by
      rw [List.take_add_one, List.getElem?_eq_getElem (by omega), getD_atG (by omega)]; rfl
    rw [freshTo, e, Bool.and_eq_true, freshTo_iff l k (by omega), List.nodup_append]
    simp only [Bool.not_eq_true', decide_eq_false_iff_not, List.nodup_cons, List.not_mem_nil, not_false_eq_true, List.nodup_nil, and_self, List.mem_singleton, true_and]
    constructor
    · rintro ⟨h1, h2⟩
      exact ⟨h1, fun a ha b hb e => h2 (by rw [← hb, ← e]; exact ha)⟩
    · rintro ⟨h1, h2⟩
      exact ⟨h1, fun hm => h2 _ hm _ rfl rfl⟩
theorem freshTo_all (l : List α) : freshTo dflt l l.length = true ↔ l.Nodup := by
  rw [freshTo_iff l l.length (Nat.le_refl _), List.take_length]
/-- Neighbours differ. -/
def nextDiff : List α → Bool
  | [] => true
  | [_] => true
  | a :: b :: r => !decide (a = b) && nextDiff (b :: r)
/-- Where the data stand in order, neighbours differ exactly if all do. -/
theorem nextDiff_iff {R : α → α → Prop} (ha : ∀ x y, R x y → R y x → x = y) : ∀ (l : List α), l.Pairwise R → (nextDiff l = true ↔ l.Nodup)
  | [], _ => by simp [nextDiff]
  | [a], _ => by simp [nextDiff]
  | a :: b :: r, h => by
    have ih := nextDiff_iff ha (b :: r) (List.pairwise_cons.1 h).2
    rw [nextDiff, Bool.and_eq_true, ih, show (a :: b :: r).Nodup ↔ a ∉ b :: r ∧ (b :: r).Nodup from List.nodup_cons]
    simp only [Bool.not_eq_true', decide_eq_false_iff_not]
    constructor
    · rintro ⟨h1, h2⟩
      refine ⟨fun hm => ?_, h2⟩
      rcases List.mem_cons.1 hm with e | hm
      · exact h1 e
      · have hab := (List.pairwise_cons.1 h).1 b (by simp)
        have hba := (List.pairwise_cons.1 (List.pairwise_cons.1 h).2).1 a hm
        exact h1 (ha a b hab hba)
    · rintro ⟨h1, h2⟩
      exact ⟨fun e => h1 (by rw [e]; simp), h2⟩
end
end Go.Proofs.YtimcdikeajbabaaGreatDoor

namespace Go.Proofs.YtimcdikeajbabaaGreatDoor
open Go.RowKit
set_option maxRecDepth 100000

/-! Sets of weeks between strokes. -/
def slashOf (s : ByteArray) : List ByteArray := Lib.splitB ⟨#[47]⟩ 0 (Lib.countB s ⟨#[47]⟩) s
def patV (n : Int) (z : ByteArray) : Int := ((parseV z n).1 : Int)
def patE (n : Int) (z : ByteArray) : Int := ((parseV z n).2 : Int)
/-- The error of sets of weeks. -/
def patsRE (n : Int) (zs : List ByteArray) : Int :=
  if firstE (patE n) zs ≠ 0 then firstE (patE n) zs else if 8 < zs.length then 2 else if freshTo (0 : Int) (zs.map (patV n)) zs.length = false then 11 else 0
/-! Starts. -/
def spOf (z : ByteArray) : ByteArray := ⟨(Lib.cut z.data.toList [32]).1.toArray⟩
def spBehind (z : ByteArray) : ByteArray := ⟨(Lib.cut z.data.toList [32]).2.1.toArray⟩
def spTwo (z : ByteArray) : Bool := (Lib.cut z.data.toList [32]).2.2
/-- A start and its error. -/
def startV (d sl len : Int) (z : ByteArray) : (Int × Int) × Int :=
  if spTwo z = false ∨ dayI (spOf z) < 0 ∨ numS 2 (spBehind z) = none then ((0, 0), 4) else
  if possB d sl len (dayI (spOf z), (((numS 2 (spBehind z)).getD 0 : Nat) : Int) - 1) = true then ((dayI (spOf z), (((numS 2 (spBehind z)).getD 0 : Nat) : Int) - 1), 0) else ((0, 0), 14)
def startP (d sl len : Int) (z : ByteArray) : Int × Int := (startV d sl len z).1
def startE (d sl len : Int) (z : ByteArray) : Int := (startV d sl len z).2
/-- The error of starts. -/
def startsRE (d sl len : Int) (zs : List ByteArray) : Int :=
  if firstE (startE d sl len) zs ≠ 0 then firstE (startE d sl len) zs else if 24 < zs.length then 2 else if freshTo (0, 0) (zs.map (startP d sl len)) zs.length = false then 11 else 0
abbrev ascP (l : List (Int × Int)) : List (Int × Int) := ascG lessB (0, 0) l
theorem lessB_iff (a b : Int × Int) : lessB a b = true ↔ a.1 < b.1 ∨ (a.1 = b.1 ∧ a.2 < b.2) := by unfold lessB; simp
theorem lessB_no (a b : Int × Int) : lessB a b = false ↔ b.1 < a.1 ∨ (a.1 = b.1 ∧ b.2 ≤ a.2) := by unfold lessB; simp; omega
theorem lessB_trans (x y z : Int × Int) (h1 : lessB y x = false) (h2 : lessB z y = false) : lessB z x = false := by
  rw [lessB_no] at *; omega
theorem lessB_of (x y : Int × Int) (h : lessB x y = true) : lessB y x = false := by
  rw [lessB_iff] at h; rw [lessB_no]; omega
theorem lessB_anti (x y : Int × Int) (h1 : lessB y x = false) (h2 : lessB x y = false) : x = y := by
  rw [lessB_no] at h1 h2
  exact Prod.ext (by omega) (by omega)
theorem ascP_sorted (l : List (Int × Int)) : (ascP l).Pairwise (LeG lessB) := ascG_sorted lessB_trans lessB_of l
theorem ascP_eq {l m : List (Int × Int)} (hp : m.Perm l) (hm : m.Pairwise (LeG lessB)) : m = ascP l :=
  sorted_eqG lessB_anti (hp.trans (ascG_perm l).symm) hm (ascP_sorted l)
theorem ascP_next (l : List (Int × Int)) : nextDiff (ascP l) = freshTo (0, 0) l l.length := by
  rw [Bool.eq_iff_iff, nextDiff_iff (R := LeG lessB) (fun x y h1 h2 => lessB_anti x y h1 h2) _ (ascP_sorted l), freshTo_all]
  exact (ascG_perm l).nodup_iff
end Go.Proofs.YtimcdikeajbabaaGreatDoor

namespace Go.Proofs.YtimcdikeajbabaaGreatDoor
open Go.RowKit
set_option maxRecDepth 100000

/-- A list of at most eight codes. -/
def shortV (s : ByteArray) : Nat × List ByteArray := if (listV s).1 = 0 ∧ 8 < (listV s).2.length then (2, []) else listV s
theorem short_codes (line col : Int) (t : ByteArray) : codesP 8 line col t = if (shortV t).1 = 0 then none else some (line, col, ((shortV t).1 : Int)) := by
  unfold codesP shortV
  obtain ⟨⟨en, l⟩, hlv⟩ : ∃ r, listV t = r := ⟨_, rfl⟩
  rw [hlv]
  dsimp only
  by_cases he : en = 0
  · subst he
    by_cases h8 : 8 < l.length
    · simp [h8, noted]
    · simp [h8, noted]
  · simp [he, noted]
end Go.Proofs.YtimcdikeajbabaaGreatDoor

namespace Go.Proofs.YtimcdikeajbabaaGreatDoor
open Go.RowKit
set_option maxRecDepth 100000

/-- One record's step, told by the place and the error that the document's reading gives. -/
theorem gath_ke {α : Type} {n : Nat} {P : Int → List Fld → List α → Option Prob} {f : List Fld → α} {line : Int} {fs : List Fld} {st : RG α} {ke : Int × Int}
    (h1 : fs.length ≠ n → ke = (-1, 9)) (h2 : fs.length = n → P line fs st.ls = if ke.2 = 0 then none else some (line, placeOf fs ke.1, ke.2)) :
    gathStep n P f st (line, fs) = if ke.2 = 0 then ⟨st.ls ++ [f fs], st.lines ++ [line], st.ps⟩ else ⟨st.ls, st.lines, st.ps ++ [(line, placeOf fs ke.1, ke.2)]⟩ := by
  unfold gathStep
  dsimp only
  by_cases hn : fs.length = n
  · rw [if_pos hn, h2 hn]
    by_cases h0 : ke.2 = 0
    · rw [if_pos h0, if_pos h0]
    · rw [if_neg h0, if_neg h0]
  · rw [if_neg hn, h1 hn, if_neg (by decide)]
    rfl
end Go.Proofs.YtimcdikeajbabaaGreatDoor

namespace Go.Proofs.YtimcdikeajbabaaGreatDoor
open Go.RowKit
set_option maxRecDepth 100000

/-- The error of a length. -/
def lenE (sl : Int) (t : ByteArray) : Int := if numS 2 t = none then 4 else if sl < (((numS 2 t).getD 0 : Nat) : Int) then 3 else 0
def lenOf (t : ByteArray) : Int := (((numE 2 t).getD 0 : Nat) : Int)
def codeE (t : ByteArray) : Int := if codeB t = true then 0 else 10
def seatE (t : ByteArray) : Int := if numE 4 t = none then 4 else 0
/-- The problem of a class's fields. -/
def fieldsK (d sl n line : Int) (fs : List Fld) : Option Prob :=
  orP (orP (orP (orP (orP (orP (orP (orP (probOf line (colAt fs 1) (codeE (textAt fs 0))) (probOf line (colAt fs 2) (codeE (textAt fs 1)))) (probOf line (colAt fs 3) (codeE (textAt fs 2)))) (probOf line (colAt fs 4) (lenE sl (textAt fs 3)))) (probOf line (colAt fs 5) (patsRE n (slashOf (textAt fs 4))))) (probOf line (colAt fs 6) (seatE (textAt fs 5)))) (codesP 8 line (colAt fs 7) (textAt fs 6))) (codesP 8 line (colAt fs 8) (textAt fs 7))) (probOf line (colAt fs 9) (startsRE d sl (lenOf (textAt fs 3)) (partsOf (textAt fs 8))))
/-- The problem of the record of a class, behind others. -/
def clsP (d sl n line : Int) (fs : List Fld) (ls : List Cls) : Option Prob :=
  noted (noted (fieldsK d sl n line fs) (decide (0 ≤ idxS (textAt fs 0) (codesK ls))) (line, 0, 11)) (decide (24 ≤ ls.length)) (line, 0, 2)
def clsOf (d sl n : Int) (fs : List Fld) : Cls := (textAt fs 0, textAt fs 1, textAt fs 2, lenOf (textAt fs 3), (slashOf (textAt fs 4)).map (patV n), (((numE 4 (textAt fs 5)).getD 0 : Nat) : Int), ascS (listV (textAt fs 6)).2, ascS (listV (textAt fs 7)).2, ascP ((partsOf (textAt fs 8)).map (startP d sl (lenOf (textAt fs 3)))))
theorem num_prob {o : Option Nat} {line col : Int} : numP o (line, col, 4) = probOf line col (if o = none then 4 else 0) := by
  cases o <;> rfl
theorem code_prob {t : ByteArray} {line col : Int} : (if codeB t then none else some (line, col, (10 : Int))) = probOf line col (codeE t) := by
  unfold codeE
  cases codeB t <;> rfl
theorem cls_steps {d sl n line : Int} {fs : List Fld} {ls : List Cls} {k0 k1 k2 k3 k4 k5 k6 k7 k8 k9 : Nat} {t0 t1 t2 : ByteArray} {len seats : Int} {ps : List Int} {f6 f7 : List ByteArray} {ss : List (Int × Int)} {pr0 pr1 pr2 pr3 pr4 pr5 pr6 pr7 pr8 pr9 : Option Prob} (h0 : pr0 = none) (hk : k0 = 0)
    (a0 : pr0 = none → k1 = k0 + 1 ∧ t0 = textAt fs k0 ∧ pr1 = probOf line (colAt fs (k0 + 1)) (codeE (textAt fs k0))) (b0 : ∀ p, pr0 = some p → pr1 = some p)
    (a1 : pr1 = none → k2 = k1 + 1 ∧ t1 = textAt fs k1 ∧ pr2 = probOf line (colAt fs (k1 + 1)) (codeE (textAt fs k1))) (b1 : ∀ p, pr1 = some p → pr2 = some p)
    (a2 : pr2 = none → k3 = k2 + 1 ∧ t2 = textAt fs k2 ∧ pr3 = probOf line (colAt fs (k2 + 1)) (codeE (textAt fs k2))) (b2 : ∀ p, pr2 = some p → pr3 = some p)
    (a3 : pr3 = none → k4 = k3 + 1 ∧ len = lenOf (textAt fs k3) ∧ pr4 = probOf line (colAt fs (k3 + 1)) (lenE sl (textAt fs k3))) (b3 : ∀ p, pr3 = some p → pr4 = some p)
    (a4 : pr4 = none → k5 = k4 + 1 ∧ ps = (slashOf (textAt fs k4)).map (patV n) ∧ pr5 = probOf line (colAt fs (k4 + 1)) (patsRE n (slashOf (textAt fs k4)))) (b4 : ∀ p, pr4 = some p → pr5 = some p)
    (a5 : pr5 = none → k6 = k5 + 1 ∧ seats = (((numE 4 (textAt fs k5)).getD 0 : Nat) : Int) ∧ pr6 = probOf line (colAt fs (k5 + 1)) (seatE (textAt fs k5))) (b5 : ∀ p, pr5 = some p → pr6 = some p)
    (a6 : pr6 = none → k7 = k6 + 1 ∧ f6 = (listV (textAt fs k6)).2 ∧ pr7 = codesP 8 line (colAt fs (k6 + 1)) (textAt fs k6)) (b6 : ∀ p, pr6 = some p → pr7 = some p)
    (a7 : pr7 = none → k8 = k7 + 1 ∧ f7 = (listV (textAt fs k7)).2 ∧ pr8 = codesP 8 line (colAt fs (k7 + 1)) (textAt fs k7)) (b7 : ∀ p, pr7 = some p → pr8 = some p)
    (a8 : pr8 = none → k9 = k8 + 1 ∧ ss = (partsOf (textAt fs k8)).map (startP d sl len) ∧ pr9 = probOf line (colAt fs (k8 + 1)) (startsRE d sl len (partsOf (textAt fs k8)))) (b8 : ∀ p, pr8 = some p → pr9 = some p) :
    noted (noted pr9 (decide (0 ≤ idxS t0 (codesK ls))) (line, 0, 11)) (decide (24 ≤ ls.length)) (line, 0, 2) = clsP d sl n line fs ls ∧ (clsP d sl n line fs ls = none → (t0, t1, t2, len, ps, seats, ascS f6, ascS f7, ascP ss) = clsOf d sl n fs) := by
  subst h0 hk
  obtain ⟨rfl, rfl, hp1⟩ := a0 rfl
  have hmain : pr9 = fieldsK d sl n line fs ∧ (fieldsK d sl n line fs = none → (textAt fs 0, t1, t2, len, ps, seats, ascS f6, ascS f7, ascP ss) = clsOf d sl n fs) := by
    unfold fieldsK
    rw [show probOf line (colAt fs 1) (codeE (textAt fs 0)) = pr1 from hp1.symm]
    cases pr1 with
    | some p => rw [b8 p (b7 p (b6 p (b5 p (b4 p (b3 p (b2 p (b1 p rfl)))))))]; exact ⟨rfl, fun h => by cases h⟩
    | none =>
      obtain ⟨rfl, rfl, hp2⟩ := a1 rfl
      rw [show probOf line (colAt fs 2) (codeE (textAt fs 1)) = pr2 from hp2.symm]
      cases pr2 with
      | some p => rw [b8 p (b7 p (b6 p (b5 p (b4 p (b3 p (b2 p rfl))))))]; exact ⟨rfl, fun h => by cases h⟩
      | none =>
        obtain ⟨rfl, rfl, hp3⟩ := a2 rfl
        rw [show probOf line (colAt fs 3) (codeE (textAt fs 2)) = pr3 from hp3.symm]
        cases pr3 with
        | some p => rw [b8 p (b7 p (b6 p (b5 p (b4 p (b3 p rfl)))))]; exact ⟨rfl, fun h => by cases h⟩
        | none =>
          obtain ⟨rfl, rfl, hp4⟩ := a3 rfl
          rw [show probOf line (colAt fs 4) (lenE sl (textAt fs 3)) = pr4 from hp4.symm]
          cases pr4 with
          | some p => rw [b8 p (b7 p (b6 p (b5 p (b4 p rfl))))]; exact ⟨rfl, fun h => by cases h⟩
          | none =>
            obtain ⟨rfl, rfl, hp5⟩ := a4 rfl
            rw [show probOf line (colAt fs 5) (patsRE n (slashOf (textAt fs 4))) = pr5 from hp5.symm]
            cases pr5 with
            | some p => rw [b8 p (b7 p (b6 p (b5 p rfl)))]; exact ⟨rfl, fun h => by cases h⟩
            | none =>
              obtain ⟨rfl, rfl, hp6⟩ := a5 rfl
              rw [show probOf line (colAt fs 6) (seatE (textAt fs 5)) = pr6 from hp6.symm]
              cases pr6 with
              | some p => rw [b8 p (b7 p (b6 p rfl))]; exact ⟨rfl, fun h => by cases h⟩
              | none =>
                obtain ⟨rfl, rfl, hp7⟩ := a6 rfl
                rw [show codesP 8 line (colAt fs 7) (textAt fs 6) = pr7 from hp7.symm]
                cases pr7 with
                | some p => rw [b8 p (b7 p rfl)]; exact ⟨rfl, fun h => by cases h⟩
                | none =>
                  obtain ⟨rfl, rfl, hp8⟩ := a7 rfl
                  rw [show codesP 8 line (colAt fs 8) (textAt fs 7) = pr8 from hp8.symm]
                  cases pr8 with
                  | some p => rw [b8 p rfl]; exact ⟨rfl, fun h => by cases h⟩
                  | none =>
                    obtain ⟨rfl, rfl, hp9⟩ := a8 rfl
                    exact ⟨hp9, fun _ => rfl⟩
  unfold clsP
  rw [hmain.1]
  exact ⟨rfl, fun h => hmain.2 (noted_no (noted_no h))⟩
/-- The place and the error of a class's record. -/
def clsKE (d sl n : Int) (fs : List Fld) (ls : List Cls) : Int × Int :=
  if fs.length ≠ 9 then (-1, 9) else
  if codeB (textAt fs 0) = false then (0, 10) else
  if codeB (textAt fs 1) = false then (1, 10) else
  if codeB (textAt fs 2) = false then (2, 10) else
  if lenE sl (textAt fs 3) ≠ 0 then (3, lenE sl (textAt fs 3)) else
  if patsRE n (slashOf (textAt fs 4)) ≠ 0 then (4, patsRE n (slashOf (textAt fs 4))) else
  if numE 4 (textAt fs 5) = none then (5, 4) else
  if (shortV (textAt fs 6)).1 ≠ 0 then (6, ((shortV (textAt fs 6)).1 : Int)) else
  if (shortV (textAt fs 7)).1 ≠ 0 then (7, ((shortV (textAt fs 7)).1 : Int)) else
  if startsRE d sl (lenOf (textAt fs 3)) (partsOf (textAt fs 8)) ≠ 0 then (8, startsRE d sl (lenOf (textAt fs 3)) (partsOf (textAt fs 8))) else
  if 0 ≤ idxS (textAt fs 0) (codesK ls) then (-1, 11) else
  if ls.length = 24 then (-1, 2) else (0, 0)
theorem cls_ke (d sl n line : Int) (fs : List Fld) (ls : List Cls) (hl : ls.length ≤ 24) (h9 : fs.length = 9) :
    clsP d sl n line fs ls = if (clsKE d sl n fs ls).2 = 0 then none else some (line, placeOf fs (clsKE d sl n fs ls).1, (clsKE d sl n fs ls).2) := by
  have e9 : placeOf fs (-1) = 0 := rfl
  have e0 : placeOf fs 0 = colAt fs 1 := rfl
  have e1 : placeOf fs 1 = colAt fs 2 := rfl
  have e2 : placeOf fs 2 = colAt fs 3 := rfl
  have e3 : placeOf fs 3 = colAt fs 4 := rfl
  have e4 : placeOf fs 4 = colAt fs 5 := rfl
  have e5 : placeOf fs 5 = colAt fs 6 := rfl
  have e6 : placeOf fs 6 = colAt fs 7 := rfl
  have e7 : placeOf fs 7 = colAt fs 8 := rfl
  have e8 : placeOf fs 8 = colAt fs 9 := rfl
  unfold clsP fieldsK clsKE codeE seatE
  rw [short_codes, short_codes, if_neg (show ¬ fs.length ≠ 9 from fun h => h h9)]
  obtain ⟨s6, hs6⟩ : ∃ s, (shortV (textAt fs 6)).1 = s := ⟨_, rfl⟩
  obtain ⟨s7, hs7⟩ : ∃ s, (shortV (textAt fs 7)).1 = s := ⟨_, rfl⟩
  obtain ⟨l3, hl3⟩ : ∃ s, lenE sl (textAt fs 3) = s := ⟨_, rfl⟩
  obtain ⟨p4, hp4⟩ : ∃ s, patsRE n (slashOf (textAt fs 4)) = s := ⟨_, rfl⟩
  obtain ⟨t8, ht8⟩ : ∃ s, startsRE d sl (lenOf (textAt fs 3)) (partsOf (textAt fs 8)) = s := ⟨_, rfl⟩
  rw [hs6, hs7, hl3, hp4, ht8]
  cases codeB (textAt fs 0) with
  | false => simp [orP, noted, probOf, e0]
  | true =>
    cases codeB (textAt fs 1) with
    | false => simp [orP, noted, probOf, e1]
    | true =>
      cases codeB (textAt fs 2) with
      | false => simp [orP, noted, probOf, e2]
      | true =>
        by_cases h3 : l3 = 0
        · by_cases h4 : p4 = 0
          · cases numE 4 (textAt fs 5) with
            | none => simp [orP, noted, probOf, h3, h4, e5]
            | some k =>
              by_cases h6 : s6 = 0
              · by_cases h7 : s7 = 0
                · by_cases h8 : t8 = 0
                  · by_cases hi : 0 ≤ idxS (textAt fs 0) (codesK ls)
                    · simp [orP, noted, h3, h4, h6, h7, h8, probOf, hi, e9]
                    · by_cases h24 : ls.length = 24
                      · simp [orP, noted, h3, h4, h6, h7, h8, probOf, hi, h24, e9]
                      · have : ¬ 24 ≤ ls.length := by omega
                        simp [orP, noted, h3, h4, h6, h7, h8, probOf, hi, h24, this]
                  · simp [orP, noted, h3, h4, h6, h7, h8, probOf, e8]
                · simp [orP, noted, h3, h4, h6, h7, probOf, e7]
              · simp [orP, noted, h3, h4, h6, probOf, e6]
          · simp [orP, noted, h3, h4, probOf, e4]
        · simp [orP, noted, h3, probOf, e3]
theorem cls_step {d sl n line : Int} {fs : List Fld} {st : RG Cls} (hl : st.ls.length ≤ 24) :
    gathStep 9 (clsP d sl n) (clsOf d sl n) st (line, fs) = if (clsKE d sl n fs st.ls).2 = 0 then ⟨st.ls ++ [clsOf d sl n fs], st.lines ++ [line], st.ps⟩ else ⟨st.ls, st.lines, st.ps ++ [(line, placeOf fs (clsKE d sl n fs st.ls).1, (clsKE d sl n fs st.ls).2)]⟩ :=
  gath_ke (fun h => if_pos h) (fun h => cls_ke d sl n line fs st.ls hl h)
theorem clsP_len {d sl n : Int} (line : Int) (fs : List Fld) (ls : List Cls) (h : clsP d sl n line fs ls = none) : ls.length < 24 := by
  unfold clsP at h
  have := of_decide_eq_false (noted_none h).2
  omega
def readCls (d sl n : Int) (rs : List Rec) : RG Cls := readAll 9 (clsP d sl n) (clsOf d sl n) rs
theorem readCls_len (d sl n : Int) (rs : List Rec) : (readCls d sl n rs).ls.length ≤ 24 ∧ (readCls d sl n rs).lines.length = (readCls d sl n rs).ls.length ∧ (readCls d sl n rs).ps.length ≤ rs.length := readAll_len clsP_len rs
end Go.Proofs.YtimcdikeajbabaaGreatDoor

namespace Go.Proofs.YtimcdikeajbabaaGreatDoor
open Go.RowKit
set_option maxRecDepth 100000

theorem seat_dec : ∀ k : Nat, k < 31 → numE 4 (decB k) = some k := by decide +kernel
theorem len_dec : ∀ k : Nat, k < 25 → 1 ≤ k → numS 2 (decB k) = some k ∧ numE 2 (decB k) = some k := by decide +kernel
/-! Ascending codes. -/
theorem leqS_no {x y : ByteArray} (h : leqS y x = false) : x.data.toList < y.data.toList := by
  unfold leqS at h
  rw [Bool.or_eq_false_iff] at h
  have h1 : y.data.toList ≥ x.data.toList := lessS_not h.1
  rcases List.le_iff_lt_or_eq.1 h1 with h2 | h2
  · exact h2
  · exfalso
    have := h.2
    rw [toList_dataL, toList_dataL, h2] at this
    simp at this
theorem asc_lt {l : List ByteArray} : ∀ k, k ≤ l.length → ascTo l k = true → ∀ i j, i < j → j < k → (l.getD i ⟨#[]⟩).data.toList < (l.getD j ⟨#[]⟩).data.toList
  | 0, _, _, i, j, _, hj => by omega
  | k + 1, hk, h, i, j, hij, hj => by
    rw [ascTo, Bool.and_eq_true, Bool.and_eq_true] at h
    by_cases e : j = k
    · subst e
      have hne : ¬ j = 0 := by omega
      have h2 := h.2.2
      rw [decide_eq_false hne, Bool.false_or, Bool.not_eq_true'] at h2
      have h3 := leqS_no h2
      by_cases e2 : i = j - 1
      · rw [e2]; exact h3
      · exact List.lt_trans (asc_lt j (by omega) h.1 i (j - 1) (by omega) (by omega)) h3
    · exact asc_lt k (by omega) h.1 i j hij (by omega)
theorem asc_pair {l : List ByteArray} (h : ascTo l l.length = true) : l.Pairwise fun x y => x.data.toList < y.data.toList := by
  rw [List.pairwise_iff_getElem]
  intro i j hi hj hij
  have := asc_lt l.length (Nat.le_refl _) h i j hij hj
  rw [getD_at hi, getD_at hj] at this
  exact this
theorem asc_nodup {l : List ByteArray} (h : ascTo l l.length = true) : l.Nodup :=
  (asc_pair h).imp fun h e => by rw [e] at h; exact absurd h (List.lt_irrefl _)
theorem asc_code {l : List ByteArray} (h : ascTo l l.length = true) : ∀ x ∈ l, codeB x = true := by
  rw [asc_both, Bool.and_eq_true] at h
  intro x hx
  obtain ⟨j, hj⟩ := List.getElem?_of_mem hx
  have hl := (List.getElem?_eq_some_iff.1 hj).1
  cases hc : codeB x with
  | true => rfl
  | false =>
    have : codesTo l (j + 1) = false := by
      rw [codesTo, show l.getD j ⟨#[]⟩ = x from by rw [List.getD_eq_getElem?_getD, hj]; rfl, hc, Bool.and_false]
    rw [codesTo_false this l.length (by omega)] at h
    exact absurd h.1 (by decide)
theorem asc_self {l : List ByteArray} (h : ascTo l l.length = true) : ascS l = l := by
  obtain ⟨h1, h2⟩ := ascS_spec l
  exact List.Perm.eq_of_pairwise (le := LeS) (fun a b _ _ h3 h4 => dat_inj (List.le_antisymm h3 h4)) h2 ((asc_pair h).imp fun h => List.le_of_lt h) h1
theorem short_back {l : List ByteArray} (h8 : l.length ≤ 8) (h : ascTo l l.length = true) : listV (joinV l).2 = (0, l) :=
  joinV_back h8 (jErr_all0 (asc_code h) (asc_nodup h) _ (Nat.le_refl _))
theorem shortV_back {l : List ByteArray} (h8 : l.length ≤ 8) (h : ascTo l l.length = true) : (shortV (joinV l).2).1 = 0 := by
  unfold shortV
  rw [short_back h8 h, if_neg (by simp; omega)]
/-! Sets of weeks. -/
theorem wordName_no47 : ∀ k : Nat, k < 5 → 47 ∉ wordName k := by decide
theorem dec2_no47 : ∀ k : Nat, k < 30 → 47 ∉ dec2 k := by decide +kernel
theorem runT_no47 {a b : Nat} (h2 : a < 30) (h4 : b < 30) : 47 ∉ runT (a, b) := by
  have ha := dec2_no47 a h2
  have hb := dec2_no47 b h4
  unfold runT
  split
  · exact ha
  · simp only [List.mem_append, List.mem_cons, not_or]
    exact ⟨ha, by decide, hb⟩
theorem formatL_no47 {s n : Nat} (hn : n ≤ 20) : 47 ∉ formatL s n := by
  unfold formatL
  refine join_notin 47 _ (by decide) (fun x hx => ?_)
  unfold itemsT at hx
  by_cases h : nameIdx s n < 5
  · rw [if_pos h] at hx
    obtain rfl := List.mem_singleton.1 hx
    exact wordName_no47 _ h
  · rw [if_neg h] at hx
    obtain ⟨⟨a, b⟩, hr, rfl⟩ := List.mem_map.1 hx
    have := (runs_facts s.testBit n _ 1 (Nat.le_refl _) (Nat.le_refl _)).1 _ hr
    dsimp only at this
    exact runT_no47 (by omega) (by omega)
theorem set_back {n p : Int} (h : validB p n = true) : 47 ∉ (setB n p).data.toList ∧ parseV (setB n p) n = (p.toNat, 0) := by
  obtain ⟨h1, h2, h3, h4⟩ := validB_iff.1 h
  obtain ⟨N, rfl⟩ := Int.eq_ofNat_of_zero_le (show 0 ≤ n by omega)
  obtain ⟨q, rfl⟩ := Int.eq_ofNat_of_zero_le (show 0 ≤ p by omega)
  have hq : q < 2 ^ N := by
    rw [Int.toNat_natCast] at h4
    have e : ((2 : Int) ^ N) = ((2 ^ N : Nat) : Int) := by simp
    rw [e] at h4
    omega
  have e : setB (N : Int) (q : Int) = ⟨(formatL q N).toArray⟩ := by unfold setB fmtV; rw [if_pos h]; simp
  rw [e]
  refine ⟨?_, ?_⟩
  · show 47 ∉ ((formatL q N).toArray).toList
    simpa using formatL_no47 (by omega)
  · rw [parse_format (by omega) (by omega) hq (by omega), Int.toNat_natCast]
theorem pats_back {n : Int} {ps : List Int} (h : patsE n ps = 0) : slashOf (joinZ 47 (ps.map (setB n))) = ps.map (setB n) ∧ patsRE n (ps.map (setB n)) = 0 ∧ (ps.map (setB n)).map (patV n) = ps := by
  obtain ⟨h1, h8, hto⟩ := patsE_parts h
  have hv : ∀ p ∈ ps, validB p n = true := fun p hp => by
    obtain ⟨j, hj⟩ := List.getElem?_of_mem hp
    have := (patsTo_at hto j (List.getElem?_eq_some_iff.1 hj).1).1
    rwa [List.getD_eq_getElem?_getD, hj] at this
  have hmap : (ps.map (setB n)).map (patV n) = ps := by
    rw [List.map_map]
    refine (List.map_congr_left fun p hp => ?_).trans (List.map_id _)
    have h3 := (validB_iff.1 (hv p hp)).2.2.1
    show patV n (setB n p) = p
    unfold patV
    rw [(set_back (hv p hp)).2]
    show ((p.toNat : Nat) : Int) = p
    omega
  have hnd : ps.Nodup := by
    refine nodup_get fun i j x hij h1 h2 => ?_
    have hj := (List.getElem?_eq_some_iff.1 h2).1
    have hm := (patsTo_at hto j hj).2
    rw [List.getD_eq_getElem?_getD, h2] at hm
    exact hm (List.mem_of_getElem? (show (ps.take j)[i]? = some x by rw [List.getElem?_take, if_pos hij, h1]))
  refine ⟨?_, ?_, hmap⟩
  · refine map_data_inj ?_
    unfold slashOf
    rw [splitB_one]
    show splitOn1 47 ((Lib.join ((ps.map (setB n)).map (·.data.toList)) [47]).toArray).toList = _
    rw [List.toList_toArray]
    refine splitOn1_of_join 47 _ (fun e => ?_) (fun x hx => ?_)
    · have := congrArg List.length e
      rw [List.length_map, List.length_map, List.length_nil] at this
      omega
    · obtain ⟨y, hy, rfl⟩ := List.mem_map.1 hx
      obtain ⟨p, hp, rfl⟩ := List.mem_map.1 hy
      exact (set_back (hv p hp)).1
  · have hf : firstE (patE n) (ps.map (setB n)) = 0 := by
      have key : ∀ l : List Int, (∀ p ∈ l, validB p n = true) → firstE (patE n) (l.map (setB n)) = 0 := by
        intro l
        induction l with
        | nil => intro _; rfl
        | cons p l ih =>
          intro hl
          have e : patE n (setB n p) = 0 := by unfold patE; rw [(set_back (hl p (by simp))).2]; rfl
          rw [List.map_cons, firstE, if_pos e]
          exact ih fun q hq => hl q (by simp [hq])
      exact key ps hv
    unfold patsRE
    rw [hf, if_neg (by simp), if_neg (by rw [List.length_map]; omega), hmap, List.length_map, if_neg (by rw [(freshTo_all ps).2 hnd]; simp)]
/-! Starts. -/
theorem dec_facts : ∀ k : Nat, k < 25 → 1 ≤ k → 59 ∉ (decB k).data.toList ∧ numS 2 (decB k) = some k := by decide +kernel
theorem dayB_back : ∀ k : Nat, k < 7 → 32 ∉ (dayB k).data.toList ∧ 59 ∉ (dayB k).data.toList ∧ dayI (dayB k) = (k : Int) := by decide
theorem start_back {d sl len : Int} {s : Int × Int} (hd : d ≤ 7) (hs : sl ≤ 24) (hl : 1 ≤ len) (h : possB d sl len s = true) : 59 ∉ (startB s).data.toList ∧ (startB s).data.toList ≠ [] ∧ startV d sl len (startB s) = (s, 0) := by
  unfold possB at h
  simp only [decide_eq_true_eq] at h
  obtain ⟨h1, h2, h3, h4⟩ := h
  obtain ⟨a, c⟩ := s
  dsimp only at h1 h2 h3 h4
  obtain ⟨k, rfl⟩ := Int.eq_ofNat_of_zero_le h1
  obtain ⟨q, rfl⟩ := Int.eq_ofNat_of_zero_le h3
  obtain ⟨f1, f2, f3⟩ := dayB_back k (by omega)
  obtain ⟨g1, g2⟩ := dec_facts (q + 1) (by omega) (by omega)
  have e0 : startB ((k : Int), (q : Int)) = dayB k ++ (⟨#[32]⟩ : ByteArray) ++ decB (q + 1) := by unfold startB; rw [Int.toNat_natCast]; rfl
  have e : (startB ((k : Int), (q : Int))).data.toList = (dayB k).data.toList ++ 32 :: (decB (q + 1)).data.toList := by
    rw [e0]
    simp [ByteArray.data_append]
  have hc : Lib.cut (startB ((k : Int), (q : Int))).data.toList [32] = ((dayB k).data.toList, (decB (q + 1)).data.toList, true) := by
    rw [cut_eq, e]
    exact cut1_of 32 _ f1 _
  have x1 : spOf (startB ((k : Int), (q : Int))) = dayB k := by unfold spOf; rw [hc]
  have x2 : spBehind (startB ((k : Int), (q : Int))) = decB (q + 1) := by unfold spBehind; rw [hc]
  have x3 : spTwo (startB ((k : Int), (q : Int))) = true := by unfold spTwo; rw [hc]
  refine ⟨?_, ?_, ?_⟩
  · rw [e]
    simp only [List.mem_append, List.mem_cons, not_or]
    exact ⟨f2, by decide, g1⟩
  · rw [e]; simp
  · unfold startV
    rw [x1, x2, x3, g2, f3, if_neg (by rintro (h | h | h) <;> first | cases h | omega)]
    have hq : (((some (q + 1)).getD 0 : Nat) : Int) - 1 = (q : Int) := by simp
    rw [hq, if_pos (by unfold possB; simp only [decide_eq_true_eq]; exact ⟨h1, h2, h3, h4⟩)]
theorem starts_pair {d sl len : Int} {ss : List (Int × Int)} (h : startsTo d sl len ss ss.length = true) : ss.Pairwise fun a b => lessB a b = true := by
  have hlt : ∀ j, j < ss.length → ∀ i, i < j → lessB (ss.getD i (0, 0)) (ss.getD j (0, 0)) = true := by
    intro j
    induction j with
    | zero => intro _ i hi; omega
    | succ j ih =>
      intro hj i hi
      have h2 := (startsTo_at h (j + 1) hj).2
      rcases h2 with h2 | h2
      · omega
      · rw [Nat.add_sub_cancel] at h2
        by_cases e : i = j
        · rw [e]; exact h2
        · have h3 := ih (by omega) i (by omega)
          rw [lessB_iff] at h2 h3 ⊢
          omega
  rw [List.pairwise_iff_getElem]
  intro i j hi hj hij
  have := hlt j hj i hij
  rwa [getD_atG hi, getD_atG hj] at this
theorem starts_back {d sl len : Int} {ss : List (Int × Int)} (hd : d ≤ 7) (hs : sl ≤ 24) (hl : 1 ≤ len) (h24 : ss.length ≤ 24) (h : startsTo d sl len ss ss.length = true) :
    partsOf (joinZ 59 (ss.map startB)) = ss.map startB ∧ startsRE d sl len (ss.map startB) = 0 ∧ ascP ((ss.map startB).map (startP d sl len)) = ss := by
  have hv : ∀ s ∈ ss, possB d sl len s = true := fun s hp => by
    obtain ⟨j, hj⟩ := List.getElem?_of_mem hp
    have := (startsTo_at h j (List.getElem?_eq_some_iff.1 hj).1).1
    rwa [List.getD_eq_getElem?_getD, hj] at this
  have hmap : (ss.map startB).map (startP d sl len) = ss := by
    rw [List.map_map]
    refine (List.map_congr_left fun s hp => ?_).trans (List.map_id _)
    show startP d sl len (startB s) = s
    unfold startP
    rw [(start_back hd hs hl (hv s hp)).2.2]
  have hpw := starts_pair h
  have hself : ascP ss = ss := (ascP_eq (List.Perm.refl ss) (hpw.imp fun h => lessB_of _ _ h)).symm
  have hnd : ss.Nodup := hpw.imp fun h e => by rw [e, lessB_iff] at h; omega
  refine ⟨?_, ?_, by rw [hmap]; exact hself⟩
  · exact parts_join _ (fun x hx => by obtain ⟨s, hp, rfl⟩ := List.mem_map.1 hx; exact (start_back hd hs hl (hv s hp)).1) (fun x hx => by obtain ⟨s, hp, rfl⟩ := List.mem_map.1 hx; exact (start_back hd hs hl (hv s hp)).2.1)
  · have hf : firstE (startE d sl len) (ss.map startB) = 0 := by
      have key : ∀ l : List (Int × Int), (∀ s ∈ l, possB d sl len s = true) → firstE (startE d sl len) (l.map startB) = 0 := by
        intro l
        induction l with
        | nil => intro _; rfl
        | cons p l ih =>
          intro hl2
          have e : startE d sl len (startB p) = 0 := by unfold startE; rw [(start_back hd hs hl (hl2 p (by simp))).2.2]
          rw [List.map_cons, firstE, if_pos e]
          exact ih fun q hq => hl2 q (by simp [hq])
      exact key ss hv
    unfold startsRE
    rw [hf, if_neg (by simp), if_neg (by rw [List.length_map]; omega), hmap, List.length_map, if_neg (by rw [(freshTo_all ss).2 hnd]; simp)]
/-! Records. -/
theorem row_back {d sl n : Int} {x : Cls} {ls : List Cls} (hd : d ≤ 7) (hs : sl ≤ 24) (h : ClsOk d sl n x) (h30 : x.2.2.2.2.2.1 ≤ 30) (hi : ¬ 0 ≤ idxS x.1 (codesK ls)) (hl : ls.length < 24) :
    clsKE d sl n (plainF 1 (rowK n x)) ls = (0, 0) ∧ clsOf d sl n (plainF 1 (rowK n x)) = x := by
  obtain ⟨z, co, pa, len, ps, seats, fs, st, ss⟩ := x
  obtain ⟨h0, h1, h2, h3, h4, h5, h6, h7, h8⟩ := h
  dsimp only at h0 h1 h2 h3 h4 h5 h6 h7 h8 h30 hi
  obtain ⟨p1, p2, p3⟩ := pats_back h4
  obtain ⟨s1, s2, s3⟩ := starts_back hd hs h3.1 h8.1 h8.2
  obtain ⟨L, rfl⟩ := Int.eq_ofNat_of_zero_le (show 0 ≤ len by omega)
  obtain ⟨Q, rfl⟩ := Int.eq_ofNat_of_zero_le h5.1
  obtain ⟨n1, n2⟩ := len_dec L (by omega) (by omega)
  have n3 := seat_dec Q (by omega)
  have t0 : textAt (plainF 1 (rowK n (z, co, pa, (L : Int), ps, (Q : Int), fs, st, ss))) 0 = z := rfl
  have t1 : textAt (plainF 1 (rowK n (z, co, pa, (L : Int), ps, (Q : Int), fs, st, ss))) 1 = co := rfl
  have t2 : textAt (plainF 1 (rowK n (z, co, pa, (L : Int), ps, (Q : Int), fs, st, ss))) 2 = pa := rfl
  have t3 : textAt (plainF 1 (rowK n (z, co, pa, (L : Int), ps, (Q : Int), fs, st, ss))) 3 = decB L := rfl
  have t4 : textAt (plainF 1 (rowK n (z, co, pa, (L : Int), ps, (Q : Int), fs, st, ss))) 4 = joinZ 47 (ps.map (setB n)) := rfl
  have t5 : textAt (plainF 1 (rowK n (z, co, pa, (L : Int), ps, (Q : Int), fs, st, ss))) 5 = decB Q := rfl
  have t6 : textAt (plainF 1 (rowK n (z, co, pa, (L : Int), ps, (Q : Int), fs, st, ss))) 6 = (joinV fs).2 := rfl
  have t7 : textAt (plainF 1 (rowK n (z, co, pa, (L : Int), ps, (Q : Int), fs, st, ss))) 7 = (joinV st).2 := rfl
  have t8 : textAt (plainF 1 (rowK n (z, co, pa, (L : Int), ps, (Q : Int), fs, st, ss))) 8 = joinZ 59 (ss.map startB) := rfl
  have hlen : (plainF 1 (rowK n (z, co, pa, (L : Int), ps, (Q : Int), fs, st, ss))).length = 9 := rfl
  obtain ⟨F, hF⟩ : ∃ F, plainF 1 (rowK n (z, co, pa, (L : Int), ps, (Q : Int), fs, st, ss)) = F := ⟨_, rfl⟩
  rw [hF] at t0 t1 t2 t3 t4 t5 t6 t7 t8 hlen ⊢
  have el : lenOf (textAt F 3) = (L : Int) := by rw [t3]; unfold lenOf; rw [n2]; rfl
  have ee : lenE sl (textAt F 3) = 0 := by
    rw [t3]; unfold lenE
    rw [n1, if_neg (by simp), if_neg (by simp; omega)]
  refine ⟨?_, ?_⟩
  · unfold clsKE
    rw [ee, el, t0, t1, t2, t4, t5, t6, t7, t8, p1, s1, p2, s2, n3, shortV_back h6.1 h6.2, shortV_back h7.1 h7.2, if_neg (by simp [hlen]), if_neg (by simp [h0]), if_neg (by simp [h1]), if_neg (by simp [h2]), if_neg (by simp), if_neg (by simp), if_neg (by simp), if_neg (by simp), if_neg (by simp), if_neg (by simp), if_neg hi, if_neg (by omega)]
  · unfold clsOf
    rw [el, t0, t1, t2, t4, t5, t6, t7, t8, p1, s1, p3, s3, n3, short_back h6.1 h6.2, short_back h7.1 h7.2, asc_self h6.2, asc_self h7.2]
    rfl
theorem readCls_snoc (d sl n : Int) (rs : List Rec) (r : Rec) : readCls d sl n (rs ++ [r]) = gathStep 9 (clsP d sl n) (clsOf d sl n) (readCls d sl n rs) r := by
  unfold readCls readAll
  rw [List.foldl_append]; rfl
theorem cls_back_to {d sl b m n : Int} {l : List Cls} (h : validK d sl b m n l = 0) (h30 : ∀ x ∈ l, x.2.2.2.2.2.1 ≤ 30) : ∀ k, k ≤ l.length → (readCls d sl n (plainR 1 ((l.take k).map (rowK n)))).ls = l.take k ∧ (readCls d sl n (plainR 1 ((l.take k).map (rowK n)))).ps = []
  | 0, _ => ⟨rfl, rfl⟩
  | k + 1, hk => by
    obtain ⟨h1, h2⟩ := cls_back_to h h30 k (by omega)
    obtain ⟨hw, h24, hp⟩ := validK_parts h
    obtain ⟨-, b2, -, b4, -, -⟩ := week_bd hw
    obtain ⟨x, hx⟩ : ∃ x, l[k]? = some x := ⟨_, List.getElem?_eq_getElem (by omega)⟩
    obtain ⟨c1, c2⟩ := hp k x hx
    have ht : l.take (k + 1) = l.take k ++ [x] := by rw [List.take_add_one, hx]; rfl
    rw [ht, List.map_append, List.map_singleton, plainR_snoc, readCls_snoc]
    obtain ⟨st, hst⟩ : ∃ st, readCls d sl n (plainR 1 ((l.take k).map (rowK n))) = st := ⟨_, rfl⟩
    rw [hst] at h1 h2 ⊢
    have hlen : st.ls.length = k := by rw [h1, List.length_take]; omega
    have hn : codesK st.ls = (codesK l).take k := by rw [h1]; unfold codesK; rw [List.map_take]
    obtain ⟨r1, r2⟩ := row_back (ls := st.ls) b2 b4 c1 (h30 x (List.mem_of_getElem? hx)) (by rw [hn]; exact c2) (by omega)
    rw [cls_step (by omega), r1, if_pos rfl, r2]
    exact ⟨by rw [h1], h2⟩
theorem cls_back {d sl b m n : Int} {l : List Cls} (h : validK d sl b m n l = 0) (h30 : ∀ x ∈ l, x.2.2.2.2.2.1 ≤ 30) : (readCls d sl n (plainR 1 (rowsK d sl b m n l))).ls = l ∧ (readCls d sl n (plainR 1 (rowsK d sl b m n l))).ps = [] := by
  unfold rowsK
  rw [if_pos h]
  have := cls_back_to h h30 l.length (Nat.le_refl _)
  rwa [List.take_length] at this
end Go.Proofs.YtimcdikeajbabaaGreatDoor
