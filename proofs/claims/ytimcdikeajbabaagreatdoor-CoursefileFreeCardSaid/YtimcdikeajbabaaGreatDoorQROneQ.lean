/- Classes as data, whole; what is wrong with classes (plain). No walk. Plain: what is read of the sets of weeks and of the starts of a class. No walk. What the document's reading of a room gives, beside the program's (plain). No walk. -/
import Derived.Test.YtimcdikeajbabaaGreatDoorShelfS
import Derived.Test.YtimcdikeajbabaaGreatDoorRows
import Derived.WalkKit
import Derived.WalkSpells
import Derived.WalkLawsBesides
import Derived.BigGuardPart
import Derived.Lib.Hide
import Derived.Laws.BitsAllLaws
import Derived.Laws.BitsLemmas
import Derived.Lib.LaidTab
import Derived.Test.YtimcdikeajbabaaGreatDoorShelf
import Derived.Lib.ConvBytes
import Derived.Deep.QuietTactic
import Derived.BigQuiet
import Derived.Laws.ResultCell
import Derived.RegionTactic
import Derived.BigRegion
import Derived.Deep.RegionHeld3
import Derived.Deep.DeepCutAuto
import Derived.Lib.SmallJoins
import Derived.Lib.SplitLaws
import Derived.Lib.CountLaws
import Derived.Lib.IndexMore
import Derived.Lib.Split
import Derived.Lib.Join
import Derived.Lib.ItoaNum
import Derived.Laws.AppendOwn
import Derived.Test.YtimcdikeajbabaaGreatDoorShelfT
import Derived.Lib.ItoaLen
import Derived.Lib.AppendIntMem
import Derived.Deep.AppendLies
import Derived.Lib.PathFns
import Derived.Maps.Range
import Derived.Lib.OwnBridge
import Derived.Sort.OwnSorted
import Derived.Sort.Walk0
import Derived.Test.YtimcdikeajbabaaGreatDoorCards
import Derived.Test.YtimcdikeajbabaaGreatDoorTie
import Derived.ProofKit
import Derived.OpenShut
import Derived.LaidMore
import Derived.Lay
import Derived.SevenTiedAt
import Derived.Stop.Joined
import Derived.Stop.LaidErr
import Derived.Deep.DeepHandedRow
import Derived.Lib.LaidU8
import Derived.LaidSub
import Derived.Deep.Slices
import Derived.Deep.Fields
import Derived.ChangeSame
import Derived.Test.YtimcdikeajbabaaGreatDoorQLater
import Derived.Test.YtimcdikeajbabaaGreatDoorQROneP
import Derived.Test.YtimcdikeajbabaaGreatDoorQDecP
import Derived.Test.YtimcdikeajbabaaGreatDoorQNumS
import Derived.Test.YtimcdikeajbabaaGreatDoorQClsOwn
import Derived.Test.YtimcdikeajbabaaGreatDoorQFound
namespace Go.Proofs.YtimcdikeajbabaaGreatDoor
open Go.RowKit
set_option maxRecDepth 100000

def codesK (l : List Cls) : List ByteArray := l.map fun x => x.1
theorem codesK_snoc {l : List Cls} {j : Nat} {x : Cls} (hx : l[j]? = some x) : (codesK l).take (j + 1) = (codesK l).take j ++ [x.1] := by
  have e : (codesK l)[j]? = some x.1 := by unfold codesK; rw [List.getElem?_map, hx]; rfl
  rw [List.take_add_one, e]; rfl
/-- The nine values of a class whose rows lie there. -/
def nineOf (x : Cls) (A4 : Option Addr) (c4 : Nat) (A6 : Option Addr) (c6 : Nat) (A7 : Option Addr) (c7 : Nat) (A8 : Option Addr) (c8 : Nat) : Nine :=
  ⟨x.1, x.2.1, x.2.2.1, x.2.2.2.1, A4, x.2.2.2.2.1.length, c4, x.2.2.2.2.2.1, A6, x.2.2.2.2.2.2.1.length, c6, A7, x.2.2.2.2.2.2.2.1.length, c7, A8, x.2.2.2.2.2.2.2.2.length, c8⟩
theorem At.clsF {S : Nat → Prop} {w : World} {A : Option Addr} {l : List Cls} {j : Nat} {x : Cls} (h : At kCls S w A l) (hj : l[j]? = some x) :
    ∃ b off A4 c4 A6 c6 A7 c7 A8 c8, A = some ⟨b, off, none⟩ ∧ S b ∧ b < w.heap.size ∧ NineAt w b (off + j * 9) (nineOf x A4 c4 A6 c6 A7 c7 A8 c8) ∧
      (x.2.2.2.2.1.length ≤ c4 ∧ x.2.2.2.2.2.2.1.length ≤ c6 ∧ x.2.2.2.2.2.2.2.1.length ≤ c7 ∧ x.2.2.2.2.2.2.2.2.length ≤ c8) ∧
      At kInt S w A4 x.2.2.2.2.1 ∧ At kStr S w A6 x.2.2.2.2.2.2.1 ∧ At kStr S w A7 x.2.2.2.2.2.2.2.1 ∧ At kStart S w A8 x.2.2.2.2.2.2.2.2 := by
  obtain ⟨b, off, vs, e, hs, hlt, hr, hc⟩ := h.get hj
  obtain ⟨u0, r0, e0, h0, hr⟩ := hr
  obtain ⟨u1, r1, e1, h1, hr⟩ := hr
  obtain ⟨u2, r2, e2, h2, hr⟩ := hr
  obtain ⟨u3, r3, e3, h3, hr⟩ := hr
  obtain ⟨u4, r4, e4, h4, hr⟩ := hr
  obtain ⟨u5, r5, e5, h5, hr⟩ := hr
  obtain ⟨u6, r6, e6, h6, hr⟩ := hr
  obtain ⟨u7, u8, e7, h7, h8⟩ := hr
  obtain ⟨A4, c4, rfl, l4, a4⟩ := h4
  obtain ⟨A6, c6, rfl, l6, a6⟩ := h6
  obtain ⟨A7, c7, rfl, l7, a7⟩ := h7
  obtain ⟨A8, c8, rfl, l8, a8⟩ := h8
  have h0 : u0 = [.string x.1] := h0
  have h1 : u1 = [.string x.2.1] := h1
  have h2 : u2 = [.string x.2.2.1] := h2
  have h3 : u3 = [.int .i64 x.2.2.2.1] := h3
  have h5 : u5 = [.int .i64 x.2.2.2.2.2.1] := h5
  subst h0 h1 h2 h3 h5 e7 e6 e5 e4 e3 e2 e1 e0
  have hk : ∀ i u, ([Value.string x.1, .string x.2.1, .string x.2.2.1, .int .i64 x.2.2.2.1, .slice A4 x.2.2.2.2.1.length c4, .int .i64 x.2.2.2.2.2.1, .slice A6 x.2.2.2.2.2.2.1.length c6, .slice A7 x.2.2.2.2.2.2.2.1.length c7, .slice A8 x.2.2.2.2.2.2.2.2.length c8] : List Value)[i]? = some u → w.cell? ⟨b, off + j * 9 + i, none⟩ = some u := hc
  exact ⟨b, off, A4, c4, A6, c6, A7, c7, A8, c8, e, hs, hlt,
    ⟨hk 0 _ rfl, hk 1 _ rfl, hk 2 _ rfl, hk 3 _ rfl, hk 4 _ rfl, hk 5 _ rfl, hk 6 _ rfl, hk 7 _ rfl, hk 8 _ rfl⟩, ⟨l4, l6, l7, l8⟩, a4, a6, a7, a8⟩
/-! What is wrong with the sets of weeks of a class. -/
/-- The first k sets are valid and differ. -/
def patsTo (n : Int) (ps : List Int) : Nat → Bool
  | 0 => true
  | k + 1 => patsTo n ps k && (validB (ps.getD k 0) n && !(ps.take k).contains (ps.getD k 0))
theorem patsTo_false {n : Int} {ps : List Int} {k : Nat} (h : patsTo n ps k = false) : ∀ m, k ≤ m → patsTo n ps m = false
  | 0, hk => by
    have e : k = 0 := by omega
    rw [e] at h; exact h
  | m + 1, hk => by
    by_cases e : k = m + 1
    · rw [← e]; exact h
    · rw [patsTo, patsTo_false h m (by omega), Bool.false_and]
def patsE (n : Int) (ps : List Int) : Nat := if ps.length = 0 then 16 else if 8 < ps.length then 2 else if patsTo n ps ps.length = false then 1 else 0
/-! What is wrong with the starts of a class. -/
def possB (d sl len : Int) (s : Int × Int) : Bool := decide (0 ≤ s.1 ∧ s.1 < d ∧ 0 ≤ s.2 ∧ s.2 ≤ sl - len)
def lessB (a b : Int × Int) : Bool := decide (a.1 < b.1 ∨ (a.1 = b.1 ∧ a.2 < b.2))
/-- The first k starts are possible and ascend. -/
def startsTo (d sl len : Int) (ss : List (Int × Int)) : Nat → Bool
  | 0 => true
  | k + 1 => startsTo d sl len ss k && (possB d sl len (ss.getD k (0, 0)) && (decide (k = 0) || lessB (ss.getD (k - 1) (0, 0)) (ss.getD k (0, 0))))
theorem startsTo_false {d sl len : Int} {ss : List (Int × Int)} {k : Nat} (h : startsTo d sl len ss k = false) : ∀ m, k ≤ m → startsTo d sl len ss m = false
  | 0, hk => by
    have e : k = 0 := by omega
    rw [e] at h; exact h
  | m + 1, hk => by
    by_cases e : k = m + 1
    · rw [← e]; exact h
    · rw [startsTo, startsTo_false h m (by omega), Bool.false_and]
/-- What is wrong with a class by itself. -/
def clsEx (d sl n : Int) (x : Cls) : Nat :=
  if codeB x.1 = false then 10 else if codeB x.2.1 = false then 10 else if codeB x.2.2.1 = false then 10 else
  if x.2.2.2.1 < 1 then 3 else if sl < x.2.2.2.1 then 3 else
  if patsE n x.2.2.2.2.1 ≠ 0 then patsE n x.2.2.2.2.1 else
  if x.2.2.2.2.2.1 < 0 then 3 else if 9999 < x.2.2.2.2.2.1 then 3 else
  if 8 < x.2.2.2.2.2.2.1.length then 2 else if 8 < x.2.2.2.2.2.2.2.1.length then 2 else
  if ascTo x.2.2.2.2.2.2.1 x.2.2.2.2.2.2.1.length = false then 10 else if ascTo x.2.2.2.2.2.2.2.1 x.2.2.2.2.2.2.2.1.length = false then 10 else
  if 24 < x.2.2.2.2.2.2.2.2.length then 2 else if startsTo d sl x.2.2.2.1 x.2.2.2.2.2.2.2.2 x.2.2.2.2.2.2.2.2.length = false then 14 else 0
/-- What is wrong with a class behind such codes. -/
def clsE (d sl n : Int) (x : Cls) (met : List ByteArray) : Nat := if clsEx d sl n x ≠ 0 then clsEx d sl n x else if 0 ≤ idxS x.1 met then 11 else 0
def clsEi (d sl n : Int) (l : List Cls) (i : Nat) : Nat := match l[i]? with
  | none => 0
  | some x => clsE d sl n x ((codesK l).take i)
def clsErr (d sl n : Int) (l : List Cls) : Nat → Nat
  | 0 => 0
  | k + 1 => if clsErr d sl n l k ≠ 0 then clsErr d sl n l k else clsEi d sl n l k
def validK (d sl b m n : Int) (l : List Cls) : Nat := if weekB d sl b m n = false then 1 else if 24 < l.length then 2 else clsErr d sl n l l.length
theorem clsErr_next {d sl n : Int} {l : List Cls} {j : Nat} (h0 : clsErr d sl n l j = 0) : clsErr d sl n l (j + 1) = clsEi d sl n l j := by rw [clsErr, if_neg (by rw [h0]; simp)]
theorem clsErr_hit {d sl n : Int} {l : List Cls} {j : Nat} (h0 : clsErr d sl n l j = 0) (h : clsEi d sl n l j ≠ 0) : ∀ k, j < k → clsErr d sl n l k = clsEi d sl n l j
  | 0, hj => by omega
  | k + 1, hj => by
    by_cases e : j = k
    · subst e; exact clsErr_next h0
    · have ih := clsErr_hit h0 h k (by omega)
      rw [clsErr, if_pos (by rw [ih]; exact h), ih]
theorem cls_end {d sl n : Int} {l : List Cls} {j N e : Nat} {x : Cls} (hx : l[j]? = some x) (h0 : clsErr d sl n l j = 0) (he : clsE d sl n x ((codesK l).take j) = e) (hne : e ≠ 0) (hj : j < N) : clsErr d sl n l N = e := by
  have hE : clsEi d sl n l j = e := by unfold clsEi; rw [hx]; exact he
  rw [clsErr_hit h0 (by rw [hE]; exact hne) N hj, hE]
theorem cls_on {d sl n : Int} {l : List Cls} {j : Nat} {x : Cls} (hx : l[j]? = some x) (h0 : clsErr d sl n l j = 0) (he : clsE d sl n x ((codesK l).take j) = 0) : clsErr d sl n l (j + 1) = 0 := by
  have hE : clsEi d sl n l j = 0 := by unfold clsEi; rw [hx]; exact he
  rw [clsErr_next h0, hE]
theorem week_bd {d sl b m n : Int} (h : weekB d sl b m n = true) : 1 ≤ d ∧ d ≤ 7 ∧ 1 ≤ sl ∧ sl ≤ 24 ∧ 1 ≤ n ∧ n ≤ 20 := by
  unfold weekB gridV at h
  rw [Bool.and_eq_true, decide_eq_true_eq, decide_eq_true_eq] at h
  obtain ⟨h1, h2⟩ := h
  split at h1
  · omega
  · omega
end Go.Proofs.YtimcdikeajbabaaGreatDoor

namespace Go.Proofs.YtimcdikeajbabaaGreatDoor
open Go.RowKit
set_option maxRecDepth 100000

theorem zeroS_list (s : ByteArray) : zeroS s = (match s.data.toList with | [] => false | a :: _ => decide (a.toNat = 48)) := by
  unfold zeroS
  by_cases h : 0 < s.size
  · have h0 := ba_at0 s h
    rw [dif_pos h]
    cases hl : s.data.toList with
    | nil => rw [hl] at h0; cases h0
    | cons a r => rw [hl] at h0; injection h0 with h0; rw [h0]
  · rw [dif_neg h]
    have : s.data.toList = [] := List.eq_nil_of_length_eq_zero (by rw [ba_len]; omega)
    rw [this]
/-- The two readings of a number below 100 agree. -/
theorem numS_numL (s : ByteArray) : numS 2 s = numL s.data.toList := by
  unfold numS numE digS valS
  rw [zeroS_list, ← ba_len s]
  generalize s.data.toList = l
  match l with
  | [] => rfl
  | [a] =>
    by_cases h : 48 ≤ a.toNat ∧ a.toNat ≤ 57
    · by_cases h0 : a.toNat = 48
      · simp [numL, h0]
      · have : 49 ≤ a.toNat ∧ a.toNat ≤ 57 := by omega
        simp [numL, h0, this, digN, h, Lib.decFrom, Lib.digitVal]
    · have h0 : ¬ a.toNat = 48 := by omega
      have h1 : ¬ (49 ≤ a.toNat ∧ a.toNat ≤ 57) := by omega
      simp [numL, h0, h1, digN, h]
  | [a, b] =>
    by_cases h : 48 ≤ a.toNat ∧ a.toNat ≤ 57
    · by_cases h0 : a.toNat = 48
      · simp [numL, h0]
      · have h1 : 49 ≤ a.toNat ∧ a.toNat ≤ 57 := by omega
        by_cases hb : 48 ≤ b.toNat ∧ b.toNat ≤ 57
        · simp [numL, h0, h1, digN, h, hb, Lib.decFrom, Lib.digitVal]
          omega
        · simp [numL, h0, h1, digN, h, hb]
    · have h0 : ¬ a.toNat = 48 := by omega
      have h1 : ¬ (49 ≤ a.toNat ∧ a.toNat ≤ 57) := by omega
      simp [numL, h0, digN, h]
      intro h2 h3
      exact absurd ⟨h2, h3⟩ h1
  | a :: b :: c :: r =>
    simp [numL]
/-! Sets of weeks between strokes. -/
def slashOf (s : ByteArray) : List ByteArray := Lib.splitB ⟨#[47]⟩ 0 (Lib.countB s ⟨#[47]⟩) s
def patV (n : Int) (z : ByteArray) : Int := ((parseV z n).1 : Int)
def patE (n : Int) (z : ByteArray) : Int := ((parseV z n).2 : Int)
/-- The error of sets of weeks. -/
def patsRE (n : Int) (zs : List ByteArray) : Int :=
  if firstE (patE n) zs ≠ 0 then firstE (patE n) zs else if 8 < zs.length then 2 else if freshTo (0 : Int) (zs.map (patV n)) zs.length = false then 11 else 0
/-! Starts. -/
def spOf (z : ByteArray) : ByteArray := ⟨(Lib.cut z.data.toList [32]).1.toArray⟩
def spBehind (z : ByteArray) : ByteArray := ⟨(Lib.cut z.data.toList [32]).2.1.toArray⟩
def spTwo (z : ByteArray) : Bool := (Lib.cut z.data.toList [32]).2.2
/-- A start and its error. -/
def startV (d sl len : Int) (z : ByteArray) : (Int × Int) × Int :=
  if spTwo z = false ∨ dayI (spOf z) < 0 ∨ numS 2 (spBehind z) = none then ((0, 0), 4) else
  if possB d sl len (dayI (spOf z), (((numS 2 (spBehind z)).getD 0 : Nat) : Int) - 1) = true then ((dayI (spOf z), (((numS 2 (spBehind z)).getD 0 : Nat) : Int) - 1), 0) else ((0, 0), 14)
def startP (d sl len : Int) (z : ByteArray) : Int × Int := (startV d sl len z).1
def startE (d sl len : Int) (z : ByteArray) : Int := (startV d sl len z).2
/-- The error of starts. -/
def startsRE (d sl len : Int) (zs : List ByteArray) : Int :=
  if firstE (startE d sl len) zs ≠ 0 then firstE (startE d sl len) zs else if 24 < zs.length then 2 else if freshTo (0, 0) (zs.map (startP d sl len)) zs.length = false then 11 else 0
abbrev ascP (l : List (Int × Int)) : List (Int × Int) := ascG lessB (0, 0) l
theorem lessB_iff (a b : Int × Int) : lessB a b = true ↔ a.1 < b.1 ∨ (a.1 = b.1 ∧ a.2 < b.2) := by unfold lessB; simp
theorem lessB_no (a b : Int × Int) : lessB a b = false ↔ b.1 < a.1 ∨ (a.1 = b.1 ∧ b.2 ≤ a.2) := by unfold lessB; simp; omega
theorem lessB_trans (x y z : Int × Int) (h1 : lessB y x = false) (h2 : lessB z y = false) : lessB z x = false := by
  rw [lessB_no] at *; omega
theorem lessB_of (x y : Int × Int) (h : lessB x y = true) : lessB y x = false := by
  rw [lessB_iff] at h; rw [lessB_no]; omega
theorem lessB_anti (x y : Int × Int) (h1 : lessB y x = false) (h2 : lessB x y = false) : x = y := by
  rw [lessB_no] at h1 h2
  exact Prod.ext (by omega) (by omega)
theorem ascP_sorted (l : List (Int × Int)) : (ascP l).Pairwise (LeG lessB) := ascG_sorted lessB_trans lessB_of l
theorem ascP_eq {l m : List (Int × Int)} (hp : m.Perm l) (hm : m.Pairwise (LeG lessB)) : m = ascP l :=
  sorted_eqG lessB_anti (hp.trans (ascG_perm l).symm) hm (ascP_sorted l)
theorem ascP_next (l : List (Int × Int)) : nextDiff (ascP l) = freshTo (0, 0) l l.length := by
  rw [Bool.eq_iff_iff, nextDiff_iff (R := LeG lessB) (fun x y h1 h2 => lessB_anti x y h1 h2) _ (ascP_sorted l), freshTo_all]
  exact (ascG_perm l).nodup_iff
end Go.Proofs.YtimcdikeajbabaaGreatDoor

namespace Go.Proofs.YtimcdikeajbabaaGreatDoor
open Go.RowKit
set_option maxRecDepth 100000

/-- One record's step, told by the place and the error that the document's reading gives. -/
theorem gath_ke {α : Type} {n : Nat} {P : Int → List Fld → List α → Option Prob} {f : List Fld → α} {line : Int} {fs : List Fld} {st : RG α} {ke : Int × Int}
    (h1 : fs.length ≠ n → ke = (-1, 9)) (h2 : fs.length = n → P line fs st.ls = if ke.2 = 0 then none else some (line, placeOf fs ke.1, ke.2)) :
    gathStep n P f st (line, fs) = if ke.2 = 0 then ⟨st.ls ++ [f fs], st.lines ++ [line], st.ps⟩ else ⟨st.ls, st.lines, st.ps ++ [(line, placeOf fs ke.1, ke.2)]⟩ := by
  unfold gathStep
  dsimp only
  by_cases hn : fs.length = n
  · rw [if_pos hn, h2 hn]
    by_cases h0 : ke.2 = 0
    · rw [if_pos h0, if_pos h0]
    · rw [if_neg h0, if_neg h0]
  · rw [if_neg hn, h1 hn, if_neg (by decide)]
    rfl
/-- The place and the error of a room's record. -/
def roomKE (d sl b m n : Int) (fs : List Fld) (ls : List Room) : Int × Int :=
  if fs.length ≠ 5 then (-1, 9) else
  if codeB (textAt fs 0) = false then (0, 10) else
  if codeB (textAt fs 1) = false then (1, 10) else
  if numS 4 (textAt fs 2) = none then (2, 4) else
  if (shortV (textAt fs 3)).1 ≠ 0 then (3, ((shortV (textAt fs 3)).1 : Int)) else
  if timesE d sl b m n (partsOf (textAt fs 4)) ≠ 0 then (4, timesE d sl b m n (partsOf (textAt fs 4))) else
  if 0 ≤ idxS (textAt fs 0) (codesR ls) then (-1, 11) else
  if ls.length = 16 then (-1, 2) else (0, 0)
theorem room_ke (d sl b m n line : Int) (fs : List Fld) (ls : List Room) (hl : ls.length ≤ 16) (h5 : fs.length = 5) :
    roomP d sl b m n line fs ls = if (roomKE d sl b m n fs ls).2 = 0 then none else some (line, placeOf fs (roomKE d sl b m n fs ls).1, (roomKE d sl b m n fs ls).2) := by
  have e0 : placeOf fs 0 = colAt fs 1 := rfl
  have e1 : placeOf fs 1 = colAt fs 2 := rfl
  have e2 : placeOf fs 2 = colAt fs 3 := rfl
  have e3 : placeOf fs 3 = colAt fs 4 := rfl
  have e4 : placeOf fs 4 = colAt fs 5 := rfl
  have e9 : placeOf fs (-1) = 0 := rfl
  unfold roomP fieldsR roomKE
  rw [short_codes, if_neg (show ¬ fs.length ≠ 5 from fun h => h h5)]
  obtain ⟨s3, hs3⟩ : ∃ s3, (shortV (textAt fs 3)).1 = s3 := ⟨_, rfl⟩
  obtain ⟨t4, ht4⟩ : ∃ t4, timesE d sl b m n (partsOf (textAt fs 4)) = t4 := ⟨_, rfl⟩
  rw [hs3, ht4]
  cases codeB (textAt fs 0) with
  | false => simp [orP, noted, e0]
  | true =>
    cases codeB (textAt fs 1) with
    | false => simp [orP, noted, e1]
    | true =>
      cases numS 4 (textAt fs 2) with
      | none => simp [orP, noted, numP, e2]
      | some k =>
        by_cases h3 : s3 = 0
        · by_cases h4 : t4 = 0
          · by_cases hi : 0 ≤ idxS (textAt fs 0) (codesR ls)
            · simp [orP, noted, numP, h3, h4, probOf, hi, e9]
            · by_cases h16 : ls.length = 16
              · simp [orP, noted, numP, h3, h4, probOf, hi, h16, e9]
              · have : ¬ 16 ≤ ls.length := by omega
                simp [orP, noted, numP, h3, h4, probOf, hi, h16, this]
          · simp [orP, noted, numP, h3, h4, probOf, e4]
        · simp [orP, noted, numP, h3, e3]
theorem room_step {d sl b m n line : Int} {fs : List Fld} {st : RG Room} (hl : st.ls.length ≤ 16) :
    gathStep 5 (roomP d sl b m n) (roomOf d sl b m n) st (line, fs) = if (roomKE d sl b m n fs st.ls).2 = 0 then ⟨st.ls ++ [roomOf d sl b m n fs], st.lines ++ [line], st.ps⟩ else ⟨st.ls, st.lines, st.ps ++ [(line, placeOf fs (roomKE d sl b m n fs st.ls).1, (roomKE d sl b m n fs st.ls).2)]⟩ :=
  gath_ke (fun h => if_pos h) (fun h => room_ke d sl b m n line fs st.ls hl h)
theorem room_place (d sl b m n : Int) (fs : List Fld) (ls : List Room) : (roomKE d sl b m n fs ls).1 < fs.length := by
  unfold roomKE
  by_cases h5 : fs.length = 5
  · rw [if_neg (show ¬ fs.length ≠ 5 from fun h => h h5), h5]
    repeat' split
    all_goals first | decide | exact (show (3 : Int) < ((5 : Nat) : Int) by decide) | exact (show (4 : Int) < ((5 : Nat) : Int) by decide)
  · rw [if_pos h5]
    show (-1 : Int) < _
    omega
end Go.Proofs.YtimcdikeajbabaaGreatDoor
