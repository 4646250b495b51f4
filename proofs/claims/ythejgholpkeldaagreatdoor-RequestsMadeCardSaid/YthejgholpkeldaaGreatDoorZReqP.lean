/- What the document's reading of a room gives, beside the program's (plain). No walk. Walk of slices.ContainsFunc at rooms, with the closure of roomfile.Lines' reading. Conditions: the rooms' cells. Plain: the comparison of codes is a total order. No program here. Plain: data put in order one by one, whatever the order; the same in order once only; lists without doubles. No walk. A stable sort as the library does it: insertion in blocks, then merges by rotation (plain). No walk. What the library's stable sort gives is the order one by one (plain). No walk. Requests as data; what is wrong with them; what their reading gives; their students, and what a student wants (plain). No walk. -/
import Derived.Test.YthejgholpkeldaaGreatDoorRows
import Derived.WalkKit
import Derived.WalkSpells
import Derived.WalkLawsBesides
import Derived.BigGuardPart
import Derived.Lib.Hide
import Derived.Laws.BitsAllLaws
import Derived.Laws.BitsLemmas
import Derived.Lib.LaidTab
import Derived.Test.YthejgholpkeldaaGreatDoorShelf
import Derived.Lib.ConvBytes
import Derived.Deep.QuietTactic
import Derived.BigQuiet
import Derived.Laws.ResultCell
import Derived.RegionTactic
import Derived.BigRegion
import Derived.Deep.RegionHeld3
import Derived.Deep.DeepCutAuto
import Derived.Lib.SmallJoins
import Derived.Lib.SplitLaws
import Derived.Lib.CountLaws
import Derived.Lib.IndexMore
import Derived.Lib.Split
import Derived.Lib.Join
import Derived.Test.YthejgholpkeldaaGreatDoorShelfT
import Derived.Lib.ItoaNum
import Derived.Laws.AppendOwn
import Derived.Test.YthejgholpkeldaaGreatDoorShelfS
import Derived.Lib.ItoaLen
import Derived.Lib.AppendIntMem
import Derived.Deep.AppendLies
import Derived.Lib.PathFns
import Derived.Maps.Range
import Derived.Lib.OwnBridge
import Derived.Sort.OwnSorted
import Derived.Sort.Walk0
import Derived.Test.YthejgholpkeldaaGreatDoorCards
import Derived.Test.YthejgholpkeldaaGreatDoorTie
import Derived.ProofKit
import Derived.OpenShut
import Derived.LaidMore
import Derived.Lay
import Derived.SevenTiedAt
import Derived.Stop.Joined
import Derived.Stop.LaidErr
import Derived.Deep.DeepHandedRow
import Derived.Lib.LaidU8
import Derived.LaidSub
import Derived.Deep.Slices
import Derived.Deep.Fields
import Derived.ChangeSame
import Derived.Test.YthejgholpkeldaaGreatDoorZFound
import Derived.Maps.OwnSet
import Derived.Deep.RegionLaw
import Derived.Deep.RegionLawGrows
import Derived.StringKeys
import Derived.Test.YthejgholpkeldaaGreatDoorZCmpC
import Derived.Test.YthejgholpkeldaaGreatDoorZIdxS
import Derived.Test.YthejgholpkeldaaGreatDoorZWide
import Derived.Test.YthejgholpkeldaaGreatDoorZSameL
import Derived.Sort.LotA
import Derived.Test.YthejgholpkeldaaGreatDoorZPlainA
import Derived.Test.YthejgholpkeldaaGreatDoorZCmpR
import Derived.Test.YthejgholpkeldaaGreatDoorZROneP
import Derived.Test.YthejgholpkeldaaGreatDoorZShortP
import Derived.Test.YthejgholpkeldaaGreatDoorZMetP
namespace Go.Proofs.YthejgholpkeldaaGreatDoor
open Go.RowKit
set_option maxRecDepth 100000

/-- One record's step, told by the place and the error that the document's reading gives. -/
theorem gath_ke {α : Type} {n : Nat} {P : Int → List Fld → List α → Option Prob} {f : List Fld → α} {line : Int} {fs : List Fld} {st : RG α} {ke : Int × Int}
    (h1 : fs.length ≠ n → ke = (-1, 9)) (h2 : fs.length = n → P line fs st.ls = if ke.2 = 0 then none else some (line, placeOf fs ke.1, ke.2)) :
    gathStep n P f st (line, fs) = if ke.2 = 0 then ⟨st.ls ++ [f fs], st.lines ++ [line], st.ps⟩ else ⟨st.ls, st.lines, st.ps ++ [(line, placeOf fs ke.1, ke.2)]⟩ := by
  unfold gathStep
  dsimp only
  by_cases hn : fs.length = n
  · rw [if_pos hn, h2 hn]
    by_cases h0 : ke.2 = 0
    · rw [if_pos h0, if_pos h0]
    · rw [if_neg h0, if_neg h0]
  · rw [if_neg hn, h1 hn, if_neg (by decide)]
    rfl
end Go.Proofs.YthejgholpkeldaaGreatDoor

namespace Go.Proofs.YthejgholpkeldaaGreatDoor
open Go.RowKit
set_option maxRecDepth 100000

theorem idx_memS {z : ByteArray} {xs : List ByteArray} : 0 ≤ idxS z xs ↔ z ∈ xs := by
  constructor
  · intro h
    apply Classical.byContradiction
    intro hz
    rw [idxS_none (fun y hy => by rw [toList_dataL, toList_dataL]; exact beq_false_of_ne fun e => hz (dat_inj e ▸ hy))] at h
    exact absurd h (by decide)
  · intro hz
    apply Classical.byContradiction
    intro h
    have hall : ∀ n, n ≤ xs.length → ∀ y ∈ xs.take n, (y.toList == z.toList) = false := by
      intro n
      induction n with
      | zero => intro _ y hy; simp at hy
      | succ n ih =>
        intro hn y hy
        have hx : xs[n]? = some xs[n] := List.getElem?_eq_getElem (by omega)
        cases hq : (xs[n].toList == z.toList) with
        | false => exact take_miss hx (ih (by omega)) hq y hy
        | true => rw [idxS_hit hx (ih (by omega)) hq] at h; exact absurd (by omega) h
    have := hall xs.length (Nat.le_refl _) z (by rw [List.take_length]; exact hz)
    simp at this
end Go.Proofs.YthejgholpkeldaaGreatDoor

namespace Go.Proofs.YthejgholpkeldaaGreatDoor
open Go.RowKit
set_option maxRecDepth 100000

structure IsCmp {α : Type} (f : α → α → Int) : Prop where
  neg : ∀ x y, f y x = - f x y
  lo : ∀ x y, -1 ≤ f x y
  hi : ∀ x y, f x y ≤ 1
  tr : ∀ x y z, f x y ≤ 0 → f y z ≤ 0 → f x z ≤ 0
theorem IsCmp.lt {α : Type} {f : α → α → Int} (h : IsCmp f) {x y z : α} (h1 : f x y < 0) (h2 : f y z ≤ 0) : f x z < 0 := by
  by_cases hq : f x z < 0
  · exact hq
  · have a := h.tr y z x h2 (by rw [h.neg x z]; omega)
    rw [h.neg x y] at a
    omega
theorem IsCmp.lt' {α : Type} {f : α → α → Int} (h : IsCmp f) {x y z : α} (h1 : f x y ≤ 0) (h2 : f y z < 0) : f x z < 0 := by
  by_cases hq : f x z < 0
  · exact hq
  · have a := h.tr z x y (by rw [h.neg x z]; omega) h1
    rw [h.neg y z] at a
    omega
def lexC {α : Type} (f g : α → α → Int) (x y : α) : Int := if f x y ≠ 0 then f x y else g x y
theorem isCmp_lex {α : Type} {f g : α → α → Int} (hf : IsCmp f) (hg : IsCmp g) : IsCmp (lexC f g) := by
  refine ⟨fun x y => ?_, fun x y => ?_, fun x y => ?_, fun x y z h1 h2 => ?_⟩
  · unfold lexC
    have := hf.neg x y
    by_cases h : f x y = 0
    · rw [if_neg (by omega), if_neg (by omega)]; exact hg.neg x y
    · rw [if_pos (by omega), if_pos h]; exact this
  · unfold lexC; split
    · exact hf.lo x y
    · exact hg.lo x y
  · unfold lexC; split
    · exact hf.hi x y
    · exact hg.hi x y
  · unfold lexC at h1 h2 ⊢
    by_cases a : f x y = 0
    · rw [if_neg (by omega)] at h1
      by_cases b : f y z = 0
      · rw [if_neg (by omega)] at h2
        have c1 := hf.tr x y z (by omega) (by omega)
        have c2 := hf.tr z y x (by rw [hf.neg y z]; omega) (by rw [hf.neg x y]; omega)
        rw [hf.neg x z] at c2
        rw [if_neg (by omega)]
        exact hg.tr x y z h1 h2
      · rw [if_pos b] at h2
        have c := hf.lt' (x := x) (y := y) (z := z) (by omega) (by omega)
        rw [if_pos (by omega)]; omega
    · rw [if_pos a] at h1
      have c : f x z < 0 := by
        by_cases b : f y z = 0
        · exact hf.lt (y := y) (by omega) (by omega)
        · rw [if_pos b] at h2; exact hf.lt (y := y) (by omega) h2
      rw [if_pos (by omega)]; omega
theorem isCmp_on {α β : Type} {f : β → β → Int} (k : α → β) (h : IsCmp f) : IsCmp fun x y => f (k x) (k y) :=
  ⟨fun _ _ => h.neg _ _, fun _ _ => h.lo _ _, fun _ _ => h.hi _ _, fun _ _ _ => h.tr _ _ _⟩
theorem isCmp_of {α : Type} {f g : α → α → Int} (h : IsCmp g) (e : ∀ x y, f x y = g x y) : IsCmp f := by
  have : f = g := by funext x y; exact e x y
  rw [this]; exact h
def cmpNat (a b : Nat) : Int := if a < b then -1 else if b < a then 1 else 0
theorem isCmp_nat : IsCmp cmpNat := by
  refine ⟨fun x y => ?_, fun x y => ?_, fun x y => ?_, fun x y z => ?_⟩ <;> unfold cmpNat <;> (repeat' split) <;> omega
/-- Lists, by their elements, the shorter first. -/
def cmpL {α : Type} (f : α → α → Int) : List α → List α → Int
  | [], [] => 0
  | [], _ :: _ => -1
  | _ :: _, [] => 1
  | x :: xs, y :: ys => if f x y ≠ 0 then f x y else cmpL f xs ys
theorem cmpL_neg {α : Type} {f : α → α → Int} (h : IsCmp f) : ∀ x y, cmpL f y x = - cmpL f x y
  | [], [] => rfl
  | [], _ :: _ => rfl
  | _ :: _, [] => rfl
  | x :: xs, y :: ys => by
    rw [cmpL, cmpL]
    have := h.neg x y
    by_cases hq : f x y = 0
    · rw [if_neg (by omega), if_neg (by omega)]; exact cmpL_neg h xs ys
    · rw [if_pos (by omega), if_pos hq]; exact this
theorem cmpL_rng {α : Type} {f : α → α → Int} (h : IsCmp f) : ∀ x y, -1 ≤ cmpL f x y ∧ cmpL f x y ≤ 1
  | [], [] => by rw [cmpL]; decide
  | [], _ :: _ => by rw [cmpL]; decide
  | _ :: _, [] => by rw [cmpL]; decide
  | x :: xs, y :: ys => by
    rw [cmpL]
    split
    · exact ⟨h.lo x y, h.hi x y⟩
    · exact cmpL_rng h xs ys
theorem cmpL_tr {α : Type} {f : α → α → Int} (h : IsCmp f) : ∀ x y z, cmpL f x y ≤ 0 → cmpL f y z ≤ 0 → cmpL f x z ≤ 0
  | [], _, [], _, _ => by rw [cmpL]; exact Int.le_refl _
  | [], _, _ :: _, _, _ => by rw [cmpL]; decide
  | x :: xs, [], z, h1, _ => by rw [cmpL] at h1; omega
  | x :: xs, y :: ys, [], _, h2 => by rw [cmpL] at h2; omega
  | x :: xs, y :: ys, z :: zs, h1, h2 => by
    rw [cmpL] at h1 h2 ⊢
    by_cases a : f x y = 0
    · rw [if_neg (by omega)] at h1
      by_cases b : f y z = 0
      · rw [if_neg (by omega)] at h2
        have c1 := h.tr x y z (by omega) (by omega)
        have c2 := h.tr z y x (by rw [h.neg y z]; omega) (by rw [h.neg x y]; omega)
        rw [h.neg x z] at c2
        rw [if_neg (by omega)]
        exact cmpL_tr h xs ys zs h1 h2
      · rw [if_pos b] at h2
        have c := h.lt' (x := x) (y := y) (z := z) (by omega) (by omega)
        rw [if_pos (by omega)]; omega
    · rw [if_pos a] at h1
      have c : f x z < 0 := by
        by_cases b : f y z = 0
        · exact h.lt (y := y) (by omega) (by omega)
        · rw [if_pos b] at h2; exact h.lt (y := y) (by omega) h2
      rw [if_pos (by omega)]; omega
theorem isCmp_list {α : Type} {f : α → α → Int} (h : IsCmp f) : IsCmp (cmpL f) := ⟨cmpL_neg h, fun x y => (cmpL_rng h x y).1, fun x y => (cmpL_rng h x y).2, cmpL_tr h⟩
/-! Bytes. -/
def ordU (a b : UInt8) : Int := cmpNat a.toNat b.toNat
theorem ordL_eq : ∀ x y : List UInt8, ordL x y = cmpL ordU x y
  | [], [] => rfl
  | [], _ :: _ => rfl
  | c :: r, [] => rfl
  | c :: r, d :: s => by
    have ih := ordL_eq r s
    rw [cmpL, ← ih]
    by_cases h1 : c < d
    · have h3 : c.toNat < d.toNat := h1
      rw [show ordU c d = -1 from if_pos h3, if_pos (by decide)]
      unfold ordL
      rw [Op.bytesLess]
      simp [h1]
    · have h3 : ¬ c.toNat < d.toNat := h1
      by_cases h2 : c = d
      · subst h2
        rw [show ordU c c = 0 from (if_neg h3).trans (if_neg h3), if_neg (by decide)]
        unfold ordL
        rw [Op.bytesLess]
        simp
      · have h4 : c.toNat ≠ d.toNat := fun e => h2 (UInt8.toNat_inj.1 e)
        rw [show ordU c d = 1 from (if_neg h3).trans (if_pos (by omega)), if_pos (by decide)]
        unfold ordL
        rw [Op.bytesLess]
        simp [h1, h2]
theorem isCmp_ord : IsCmp ordL := by
  have h := isCmp_list (isCmp_on UInt8.toNat isCmp_nat)
  have e : ordL = cmpL ordU := by funext x y; exact ordL_eq x y
  rw [e]; exact h
theorem ord_eq {x y : List UInt8} (h : ordL x y = 0) : x = y := by
  unfold ordL at h
  split at h
  · cases h
  · split at h
    · rename_i hq; simpa using hq
    · cases h
/-! Elements. -/
def clsN (p : List UInt8) : Nat := if dg0 p = true then 0 else 1
def lenN (p : List UInt8) : Nat := if dg0 p = true then (bareL p).length else 0
def keyE (p : List UInt8) : List UInt8 := if dg0 p = true then bareL p else p
theorem elemC_eq (p q : List UInt8) : elemC p q = lexC (fun x y => cmpNat (clsN x) (clsN y)) (lexC (fun x y => cmpNat (lenN x) (lenN y)) (fun x y => ordL (keyE x) (keyE y))) p q := by
  unfold elemC lexC clsN lenN keyE numC cmpNat
  by_cases hp : dg0 p = true
  · by_cases hq : dg0 q = true
    · simp only [hp, hq, if_true]
      by_cases h1 : (bareL p).length < (bareL q).length
      · simp [h1]
      · by_cases h2 : (bareL q).length < (bareL p).length
        · simp [h1, h2]
        · simp [h1, h2]
    · simp [hp, hq]
  · by_cases hq : dg0 q = true
    · simp [hp, hq]
    · simp [hp, hq]
theorem isCmp_elem : IsCmp elemC := isCmp_of (isCmp_lex (isCmp_on clsN isCmp_nat) (isCmp_lex (isCmp_on lenN isCmp_nat) (isCmp_on keyE isCmp_ord))) elemC_eq
def elsN : Nat → List UInt8 → List (List UInt8)
  | 0, _ => []
  | n + 1, x => if x = [] then [] else x.take (elemN x) :: elsN n (x.drop (elemN x))
theorem cmpF_eq (a b : List UInt8) : ∀ (n m : Nat) (x y : List UInt8), x.length ≤ n → y.length ≤ m → cmpF a b n x y = if cmpL elemC (elsN n x) (elsN m y) ≠ 0 then cmpL elemC (elsN n x) (elsN m y) else ordL a b
  | 0, m, x, y, hx, hy => by
    obtain rfl : x = [] := List.eq_nil_of_length_eq_zero (by omega)
    by_cases h : y = []
    · subst h
      have e : elsN m [] = [] := by cases m <;> rfl
      rw [e]; rfl
    · obtain ⟨m', rfl⟩ : ∃ m', m = m' + 1 := ⟨m - 1, by have := List.length_pos_iff.2 h; omega⟩
      rw [cmpF, endC, if_pos rfl, if_neg h, elsN, elsN, if_neg h, cmpL]; rfl
  | n + 1, m, x, y, hx, hy => by
    by_cases h1 : x = []
    · subst h1
      rw [cmpF, if_pos (Or.inl rfl), endC, if_pos rfl, elsN, if_pos rfl]
      by_cases h : y = []
      · subst h
        have e : elsN m [] = [] := by cases m <;> rfl
        rw [e, if_pos rfl]; rfl
      · obtain ⟨m', rfl⟩ : ∃ m', m = m' + 1 := ⟨m - 1, by have := List.length_pos_iff.2 h; omega⟩
        rw [if_neg h, elsN, if_neg h, cmpL]; rfl
    · by_cases h : y = []
      · subst h
        have e : elsN m [] = [] := by cases m <;> rfl
        rw [cmpF, if_pos (Or.inr rfl), endC, if_neg h1, if_pos rfl, e, elsN, if_neg h1, cmpL]; rfl
      · obtain ⟨m', rfl⟩ : ∃ m', m = m' + 1 := ⟨m - 1, by have := List.length_pos_iff.2 h; omega⟩
        have lx := elemN_le x (List.length_pos_iff.2 h1)
        have ly := elemN_le y (List.length_pos_iff.2 h)
        have ih := cmpF_eq a b n m' (x.drop (elemN x)) (y.drop (elemN y)) (by rw [List.length_drop]; omega) (by rw [List.length_drop]; omega)
        rw [cmpF, if_neg (fun q => q.elim h1 h), elsN, if_neg h1, elsN, if_neg h, cmpL]
        by_cases hz : elemC (x.take (elemN x)) (y.take (elemN y)) = 0
        · have e2 : (if elemC (x.take (elemN x)) (y.take (elemN y)) ≠ 0 then elemC (x.take (elemN x)) (y.take (elemN y)) else cmpL elemC (elsN n (x.drop (elemN x))) (elsN m' (y.drop (elemN y)))) = cmpL elemC (elsN n (x.drop (elemN x))) (elsN m' (y.drop (elemN y))) := if_neg (fun q => q hz)
          rw [e2, if_neg (fun q => q hz)]; exact ih
        · have e2 : (if elemC (x.take (elemN x)) (y.take (elemN y)) ≠ 0 then elemC (x.take (elemN x)) (y.take (elemN y)) else cmpL elemC (elsN n (x.drop (elemN x))) (elsN m' (y.drop (elemN y)))) = elemC (x.take (elemN x)) (y.take (elemN y)) := if_pos hz
          rw [e2, if_pos hz, if_pos hz]
def keyS (s : List UInt8) : List (List UInt8) := elsN s.length s
theorem compareV_eq (a b : List UInt8) : compareV a b = lexC (fun x y => cmpL elemC (keyS x) (keyS y)) ordL a b := cmpF_eq a b a.length b.length a b (Nat.le_refl _) (Nat.le_refl _)
theorem isCmp_compare : IsCmp compareV := isCmp_of (isCmp_lex (isCmp_on keyS (isCmp_list isCmp_elem)) isCmp_ord) compareV_eq
theorem compare_zero (a b : List UInt8) : compareV a b = 0 ↔ a = b := by
  constructor
  · intro h
    rw [compareV_eq] at h
    unfold lexC at h
    split at h
    · contradiction
    · exact ord_eq h
  · intro h
    subst h
    have := isCmp_compare.neg a a
    omega
end Go.Proofs.YthejgholpkeldaaGreatDoor

namespace Go.Proofs.YthejgholpkeldaaGreatDoor
open Go.RowKit
set_option maxRecDepth 100000

section
variable {α : Type} (less : α → α → Bool) (dflt : α)
/-- Where x goes among the first k. -/
def posG (x : α) (out : List α) : Nat → Nat
  | 0 => 0
  | k + 1 => if less x (out.getD k dflt) = true then posG x out k else k + 1
def insG (out : List α) (x : α) : List α := out.take (posG less dflt x out out.length) ++ x :: out.drop (posG less dflt x out out.length)
def ascG (zs : List α) : List α := zs.foldl (insG less dflt) []
end
section
variable {α : Type} {less : α → α → Bool} {dflt : α}
theorem posG_le (x : α) (out : List α) : ∀ k, posG less dflt x out k ≤ k
  | 0 => Nat.le_refl _
  | k + 1 => by rw [posG]; split; exact Nat.le_trans (posG_le x out k) (Nat.le_succ k); exact Nat.le_refl _
theorem posG_above (x : α) (out : List α) : ∀ k j, posG less dflt x out k ≤ j → j < k → less x (out.getD j dflt) = true
  | 0, j, _, h => by omega
  | k + 1, j, h1, h2 => by
    rw [posG] at h1
    by_cases hl : less x (out.getD k dflt) = true
    · rw [if_pos hl] at h1
      by_cases e : j = k
      · rw [e]; exact hl
      · exact posG_above x out k j h1 (by omega)
    · rw [if_neg hl] at h1; omega
theorem posG_below (x : α) (out : List α) : ∀ k, 0 < posG less dflt x out k → less x (out.getD (posG less dflt x out k - 1) dflt) = false
  | 0, h => by simp [posG] at h
  | k + 1, h => by
    rw [posG] at h ⊢
    by_cases hl : less x (out.getD k dflt) = true
    · rw [if_pos hl] at h ⊢; exact posG_below x out k h
    · rw [if_neg hl] at h ⊢; simpa using hl
theorem insG_len (out : List α) (x : α) : (insG less dflt out x).length = out.length + 1 := by
  unfold insG
  have := posG_le (less := less) (dflt := dflt) x out out.length
  simp only [List.length_append, List.length_take, List.length_cons, List.length_drop]
  omega
theorem ascG_len (zs : List α) : (ascG less dflt zs).length = zs.length := by
  unfold ascG
  have key : ∀ (zs out : List α), (zs.foldl (insG less dflt) out).length = out.length + zs.length := by
    intro zs
    induction zs with
    | nil => intro out; rfl
    | cons z zs ih => intro out; rw [List.foldl_cons, ih, insG_len, List.length_cons]; omega
  simpa using key zs []
theorem ascG_snoc (zs : List α) (x : α) : ascG less dflt (zs ++ [x]) = insG less dflt (ascG less dflt zs) x := by
  unfold ascG
  rw [List.foldl_append]; rfl
theorem insG_perm (out : List α) (x : α) : (insG less dflt out x).Perm (x :: out) := by
  unfold insG
  refine List.perm_middle.trans ?_
  rw [List.take_append_drop]
theorem getD_atG {out : List α} {j : Nat} (h : j < out.length) : out.getD j dflt = out[j] := by rw [List.getD_eq_getElem?_getD, List.getElem?_eq_getElem h]; rfl
/-- x does not come behind y. -/
def LeG (less : α → α → Bool) (x y : α) : Prop := less y x = false
theorem insG_sorted (htr : ∀ x y z, less y x = false → less z y = false → less z x = false) (hof : ∀ x y, less x y = true → less y x = false) {out : List α} {x : α} (h : out.Pairwise (LeG less)) : (insG less dflt out x).Pairwise (LeG less) := by
  obtain ⟨k, hk⟩ : ∃ k, posG less dflt x out out.length = k := ⟨_, rfl⟩
  have hkl : k ≤ out.length := by rw [← hk]; exact posG_le _ _ _
  unfold insG
  rw [hk, List.pairwise_append, List.pairwise_cons]
  have hlow : ∀ y ∈ out.take k, LeG less y x := by
    intro y hy
    obtain ⟨j, hj⟩ := List.getElem?_of_mem hy
    rw [List.getElem?_take] at hj
    split at hj
    · rename_i hjk
      obtain ⟨hjl, e⟩ := List.getElem?_eq_some_iff.1 hj
      have hb := posG_below (less := less) (dflt := dflt) x out out.length (by rw [hk]; omega)
      rw [hk, getD_atG (by omega)] at hb
      by_cases e2 : j = k - 1
      · subst e2; rw [← e]; exact hb
      · refine htr y _ x (?_ : LeG less y _) hb
        rw [← e]
        exact List.pairwise_iff_getElem.1 h j (k - 1) hjl (by omega) (by omega)
    · cases hj
  refine ⟨h.sublist (List.take_sublist _ _), ⟨fun y hy => ?_, h.sublist (List.drop_sublist _ _)⟩, fun a ha b hb => ?_⟩
  · obtain ⟨j, hj⟩ := List.getElem?_of_mem hy
    rw [List.getElem?_drop] at hj
    obtain ⟨hjl, e⟩ := List.getElem?_eq_some_iff.1 hj
    have ha := posG_above (less := less) (dflt := dflt) x out out.length (k + j) (by rw [hk]; omega) hjl
    rw [getD_atG hjl, e] at ha
    exact hof _ _ ha
  · rcases List.mem_cons.1 hb with rfl | hb
    · exact hlow a ha
    · rw [← List.take_append_drop k out, List.pairwise_append] at h
      exact h.2.2 a ha b hb
theorem ascG_perm (zs : List α) : (ascG less dflt zs).Perm zs := by
  have key : ∀ (zs out : List α), (zs.foldl (insG less dflt) out).Perm (zs ++ out) := by
    intro zs
    induction zs with
    | nil => intro out; exact List.Perm.refl _
    | cons z zs ih =>
      intro out
      rw [List.foldl_cons]
      refine (ih _).trans ?_
      exact ((insG_perm out z).append_left zs).trans List.perm_middle
  have := key zs []
  rwa [List.append_nil] at this
theorem ascG_sorted (htr : ∀ x y z, less y x = false → less z y = false → less z x = false) (hof : ∀ x y, less x y = true → less y x = false) (zs : List α) : (ascG less dflt zs).Pairwise (LeG less) := by
  have key : ∀ (zs out : List α), out.Pairwise (LeG less) → (zs.foldl (insG less dflt) out).Pairwise (LeG less) := by
    intro zs
    induction zs with
    | nil => intro out h; exact h
    | cons z zs ih => intro out h; rw [List.foldl_cons]; exact ih _ (insG_sorted htr hof h)
  exact key zs [] .nil
/-- Two lists of the same data in order are one, where nothing but itself is level with a datum. -/
theorem sorted_eqG (ha : ∀ x y, less y x = false → less x y = false → x = y) {l m : List α} (hp : l.Perm m) (hl : l.Pairwise (LeG less)) (hm : m.Pairwise (LeG less)) : l = m :=
  List.Perm.eq_of_pairwise (le := LeG less) (fun a b _ _ h1 h2 => ha a b h1 h2) hl hm hp
end
/-! Lists without doubles. -/
section
variable {α : Type} [DecidableEq α] (dflt : α)
variable {dflt}
end
end Go.Proofs.YthejgholpkeldaaGreatDoor

namespace Go.Proofs.YthejgholpkeldaaGreatDoor
open Go.Sort
set_option maxRecDepth 100000

section
variable {α : Type} [Inhabited α]
/-! Two ranges exchanged, a rotation. -/
def swapR (d : Array α) (a b : Nat) : Nat → Array α
  | 0 => d
  | n + 1 => swp (swapR d a b n) (a + n) (b + n)
theorem swapR_size (d : Array α) (a b n : Nat) : (swapR d a b n).size = d.size := by
  induction n with
  | zero => rfl
  | succ n ih => rw [swapR, swp_size, ih]
theorem swapR_get (d : Array α) (a b n : Nat) (h : a + n ≤ b) (hb : b + n ≤ d.size) (k : Nat) :
    (swapR d a b n)[k]! = if a ≤ k ∧ k < a + n then d[k + (b - a)]! else if b ≤ k ∧ k < b + n then d[k - (b - a)]! else d[k]! := by
  induction n generalizing k with
  | zero => rw [swapR, if_neg (by omega), if_neg (by omega)]
  | succ n ih =>
    have ih := ih (by omega) (by omega)
    rw [swapR, swp_get _ (by rw [swapR_size]; omega) (by rw [swapR_size]; omega)]
    by_cases h1 : k = b + n
    · rw [if_pos h1, ih, if_neg (by omega), if_neg (by omega), if_neg (by omega), if_pos (by omega)]
      congr 1; omega
    · rw [if_neg h1]
      by_cases h2 : k = a + n
      · rw [if_pos h2, ih, if_neg (by omega), if_neg (by omega), if_pos (by omega)]
        congr 1; omega
      · rw [if_neg h2, ih]
        by_cases h3 : a ≤ k ∧ k < a + n
        · rw [if_pos h3, if_pos (by omega)]
        · rw [if_neg h3]
          by_cases h4 : b ≤ k ∧ k < b + n
          · rw [if_pos h4, if_neg (by omega), if_pos (by omega)]
          · rw [if_neg h4, if_neg (by omega), if_neg (by omega)]
theorem swapR_perm (d : Array α) (a b n lo hi : Nat) (h1 : lo ≤ a) (h2 : lo ≤ b) (h3 : a + n ≤ hi) (h4 : b + n ≤ hi) (hs : hi ≤ d.size) : PermIn lo hi d (swapR d a b n) := by
  induction n with
  | zero => exact permIn_refl _ _ _
  | succ n ih => exact permIn_trans _ _ _ _ _ (ih (by omega) (by omega)) (swp_permIn _ _ _ _ _ (by omega) (by omega) (by omega) (by omega) (by rw [swapR_size]; exact hs))
def rot (d : Array α) (m : Nat) : Nat → Nat → Nat → Array α
  | 0, i, _ => swapR d (m - i) m i
  | f + 1, i, j => if i = j then swapR d (m - i) m i else if j < i then rot (swapR d (m - i) m j) m f (i - j) j else rot (swapR d (m - i) (m + j - i) i) m f i (j - i)
theorem rot_size (m : Nat) : ∀ (f i j : Nat) (d : Array α), (rot d m f i j).size = d.size
  | 0, i, j, d => swapR_size _ _ _ _
  | f + 1, i, j, d => by
    rw [rot]
    split
    · exact swapR_size _ _ _ _
    · split
      · rw [rot_size m f, swapR_size]
      · rw [rot_size m f, swapR_size]
theorem rot_perm (m lo hi : Nat) : ∀ (f i j : Nat) (d : Array α), i + j ≤ f → 0 < i → 0 < j → lo + i ≤ m → m + j ≤ hi → hi ≤ d.size → PermIn lo hi d (rot d m f i j)
  | 0, i, j, d => by intro h1 h2; omega
  | f + 1, i, j, d => by
    intro h1 h2 h3 h4 h5 h6
    rw [rot]
    split
    · exact swapR_perm _ _ _ _ _ _ (by omega) (by omega) (by omega) (by omega) h6
    · split
      · exact permIn_trans _ _ _ _ _ (swapR_perm d (m - i) m j lo hi (by omega) (by omega) (by omega) (by omega) h6) (rot_perm m lo hi f _ _ _ (by omega) (by omega) h3 (by omega) h5 (by rw [swapR_size]; exact h6))
      · exact permIn_trans _ _ _ _ _ (swapR_perm d (m - i) (m + j - i) i lo hi (by omega) (by omega) (by omega) (by omega) h6) (rot_perm m lo hi f _ _ _ (by omega) h2 (by omega) h4 (by omega) (by rw [swapR_size]; exact h6))
theorem rot_get (m : Nat) : ∀ (f i j : Nat) (d : Array α) (k : Nat), i + j ≤ f → 0 < i → 0 < j → i ≤ m → m + j ≤ d.size →
    (rot d m f i j)[k]! = if m - i ≤ k ∧ k < m - i + j then d[k + i]! else if m - i + j ≤ k ∧ k < m + j then d[k - j]! else d[k]!
  | 0, i, j, d => by intro k h1 h2; omega
  | f + 1, i, j, d => by
    intro k h1 h2 h3 h4 h5
    rw [rot]
    split
    · rename_i he
      subst he
      rw [swapR_get _ _ _ _ (by omega) (by omega)]
      by_cases c1 : m - i ≤ k ∧ k < m - i + i
      · rw [if_pos c1, if_pos c1]; congr 1; omega
      · rw [if_neg c1, if_neg c1]
        by_cases c2 : m ≤ k ∧ k < m + i
        · rw [if_pos c2, if_pos (by omega)]; congr 1; omega
        · rw [if_neg c2, if_neg (by omega)]
    · split
      · rename_i hne hji
        have g := swapR_get d (m - i) m j (by omega) (by omega)
        rw [rot_get m f _ _ _ k (by omega) (by omega) h3 (by omega) (by rw [swapR_size]; exact h5)]
        by_cases c1 : m - (i - j) ≤ k ∧ k < m - (i - j) + j
        · rw [if_pos c1, g]
          by_cases c3 : m - i ≤ k + (i - j) ∧ k + (i - j) < m - i + j
          · exact absurd c3 (by omega)
          · rw [if_neg c3, if_pos (by omega), if_neg (by omega), if_pos (by omega)]
            congr 1; omega
        · rw [if_neg c1]
          by_cases c2 : m - (i - j) + j ≤ k ∧ k < m + j
          · rw [if_pos c2, g, if_neg (by omega), if_neg (by omega), if_neg (by omega), if_pos (by omega)]
          · rw [if_neg c2, g]
            by_cases c4 : m - i ≤ k ∧ k < m - i + j
            · rw [if_pos c4, if_pos c4]; congr 1; omega
            · rw [if_neg c4, if_neg c4, if_neg (by omega), if_neg (by omega)]
      · rename_i hne hji
        have g := swapR_get d (m - i) (m + j - i) i (by omega) (by omega)
        rw [rot_get m f _ _ _ k (by omega) h2 (by omega) h4 (by rw [swapR_size]; omega)]
        by_cases c1 : m - i ≤ k ∧ k < m - i + (j - i)
        · rw [if_pos c1, g, if_neg (by omega), if_neg (by omega), if_pos (by omega)]
        · rw [if_neg c1]
          by_cases c2 : m - i + (j - i) ≤ k ∧ k < m + (j - i)
          · rw [if_pos c2, g]
            rw [if_pos (by omega), if_pos (by omega)]
            congr 1; omega
          · rw [if_neg c2, g]
            by_cases c4 : m + j - i ≤ k ∧ k < m + j - i + i
            · rw [if_neg (by omega), if_pos c4, if_neg (by omega), if_pos (by omega)]; congr 1; omega
            · rw [if_neg (by omega), if_neg c4, if_neg (by omega), if_neg (by omega)]
/-! A binary search. -/
def bs (p : Nat → Bool) : Nat → Nat → Nat → Nat
  | 0, i, _ => i
  | f + 1, i, j => if i < j then (if p ((i + j) / 2) then bs p f ((i + j) / 2 + 1) j else bs p f i ((i + j) / 2)) else i
theorem bs_spec {p : Nat → Bool} : ∀ (f i j : Nat), j - i ≤ f → i ≤ j → (∀ x y, i ≤ x → x ≤ y → y < j → p y = true → p x = true) →
    i ≤ bs p f i j ∧ bs p f i j ≤ j ∧ (∀ x, i ≤ x → x < bs p f i j → p x = true) ∧ (∀ x, bs p f i j ≤ x → x < j → p x = false)
  | 0, i, j => by
    intro h1 h2 hm
    obtain rfl : i = j := by omega
    exact ⟨Nat.le_refl _, Nat.le_refl _, fun x a b => by rw [bs] at b; omega, fun x a b => by rw [bs] at a; omega⟩
  | f + 1, i, j => by
    intro h1 h2 hm
    rw [bs]
    by_cases hij : i < j
    · rw [if_pos hij]
      cases hp : p ((i + j) / 2) with
      | true =>
        rw [if_pos rfl]
        obtain ⟨e1, e2, e3, e4⟩ := bs_spec f ((i + j) / 2 + 1) j (by omega) (by omega) (fun x y a b c => hm x y (by omega) b c)
        refine ⟨by omega, e2, fun x a b => ?_, e4⟩
        by_cases hx : x ≤ (i + j) / 2
        · exact hm x _ a hx (by omega) hp
        · exact e3 x (by omega) b
      | false =>
        rw [if_neg (by simp)]
        obtain ⟨e1, e2, e3, e4⟩ := bs_spec f i ((i + j) / 2) (by omega) (by omega) (fun x y a b c => hm x y a b (by omega))
        refine ⟨e1, by omega, e3, fun x a b => ?_⟩
        by_cases hx : x < (i + j) / 2
        · exact e4 x a hx
        · cases hpx : p x with
          | false => rfl
          | true => rw [hm ((i + j) / 2) x (by omega) (by omega) b hpx] at hp; cases hp
    · rw [if_neg hij]
      exact ⟨Nat.le_refl _, h2, fun x a b => by omega, fun x a b => by omega⟩
/-! One element is moved up, or down. -/
def mvR (d : Array α) (a : Nat) : Nat → Array α
  | 0 => d
  | n + 1 => swp (mvR d a n) (a + n) (a + n + 1)
def mvL (d : Array α) (m : Nat) : Nat → Array α
  | 0 => d
  | n + 1 => swp (mvL d m n) (m - n) (m - n - 1)
theorem mvR_size (d : Array α) (a n : Nat) : (mvR d a n).size = d.size := by
  induction n with
  | zero => rfl
  | succ n ih => rw [mvR, swp_size, ih]
theorem mvL_size (d : Array α) (m n : Nat) : (mvL d m n).size = d.size := by
  induction n with
  | zero => rfl
  | succ n ih => rw [mvL, swp_size, ih]
theorem mvR_get (d : Array α) (a n : Nat) (h : a + n < d.size) (k : Nat) : (mvR d a n)[k]! = if a ≤ k ∧ k < a + n then d[k + 1]! else if k = a + n then d[a]! else d[k]! := by
  induction n generalizing k with
  | zero =>
    rw [mvR, if_neg (by omega)]
    by_cases e : k = a + 0
    · rw [if_pos e, e]; rfl
    · rw [if_neg e]
  | succ n ih =>
    have ih := ih (by omega)
    rw [mvR, swp_get _ (by rw [mvR_size]; omega) (by rw [mvR_size]; omega)]
    by_cases h1 : k = a + n + 1
    · rw [if_pos h1, ih, if_neg (by omega), if_pos rfl, if_neg (by omega), if_pos (by omega)]
    · rw [if_neg h1]
      by_cases h2 : k = a + n
      · rw [if_pos h2, ih, if_neg (by omega), if_neg (by omega), if_pos (by omega), h2]
      · rw [if_neg h2, ih]
        by_cases h3 : a ≤ k ∧ k < a + n
        · rw [if_pos h3, if_pos (by omega)]
        · rw [if_neg h3, if_neg h2, if_neg (by omega), if_neg (by omega)]
theorem mvL_get (d : Array α) (m n : Nat) (h : m < d.size) (hn : n ≤ m) (k : Nat) : (mvL d m n)[k]! = if m - n < k ∧ k ≤ m then d[k - 1]! else if k = m - n then d[m]! else d[k]! := by
  induction n generalizing k with
  | zero =>
    rw [mvL, if_neg (by omega)]
    by_cases e : k = m - 0
    · rw [if_pos e, e]; rfl
    · rw [if_neg e]
  | succ n ih =>
    have ih := ih (by omega)
    rw [mvL, swp_get _ (by rw [mvL_size]; omega) (by rw [mvL_size]; omega)]
    by_cases h1 : k = m - n - 1
    · rw [if_pos h1, ih, if_neg (by omega), if_pos rfl, if_neg (by omega), if_pos (by omega)]
    · rw [if_neg h1]
      by_cases h2 : k = m - n
      · rw [if_pos h2, ih, if_neg (by omega), if_neg (by omega), if_pos (by omega), h2]
      · rw [if_neg h2, ih]
        by_cases h3 : m - n < k ∧ k ≤ m
        · rw [if_pos h3, if_pos (by omega)]
        · rw [if_neg h3, if_neg h2, if_neg (by omega), if_neg (by omega)]
theorem mvR_perm (d : Array α) (a n lo hi : Nat) (h1 : lo ≤ a) (h2 : a + n < hi) (hs : hi ≤ d.size) : PermIn lo hi d (mvR d a n) := by
  induction n with
  | zero => exact permIn_refl _ _ _
  | succ n ih => exact permIn_trans _ _ _ _ _ (ih (by omega)) (swp_permIn _ _ _ _ _ (by omega) (by omega) (by omega) (by omega) (by rw [mvR_size]; exact hs))
theorem mvL_perm (d : Array α) (m n lo hi : Nat) (h1 : lo + n ≤ m) (h2 : m < hi) (hs : hi ≤ d.size) : PermIn lo hi d (mvL d m n) := by
  induction n with
  | zero => exact permIn_refl _ _ _
  | succ n ih => exact permIn_trans _ _ _ _ _ (ih (by omega)) (swp_permIn _ _ _ _ _ (by omega) (by omega) (by omega) (by omega) (by rw [mvL_size]; exact hs))
/-! The merge. -/
section
variable (lt : α → α → Bool)
def symS (d : Array α) (a m b : Nat) : Nat :=
  if (a + b) / 2 < m then bs (fun c => !lt d[(a + b) / 2 + m - 1 - c]! d[c]!) ((a + b) / 2) ((a + b) / 2 + m - b) ((a + b) / 2) else bs (fun c => !lt d[(a + b) / 2 + m - 1 - c]! d[c]!) m a m
def symM : Nat → Array α → Nat → Nat → Nat → Array α
  | 0, d, _, _, _ => d
  | f + 1, d, a, m, b =>
    if m - a = 1 then mvR d a (bs (fun h => lt d[h]! d[a]!) b m b - 1 - a) else
    if b - m = 1 then mvL d m (m - bs (fun h => !lt d[m]! d[h]!) m a m) else
    let mid := (a + b) / 2
    let s := symS lt d a m b
    let e := mid + m - s
    let d1 := if s < m ∧ m < e then rot d m (e - s) (m - s) (e - m) else d
    let d2 := if a < s ∧ s < mid then symM f d1 a s mid else d1
    if mid < e ∧ e < b then symM f d2 mid e b else d2
end
theorem sin_get {T : α → α → Bool} (hT : SWO T) {a b : Nat} {d : Array α} (h : SortedIn T a b d) {i j : Nat} (h1 : a ≤ i) (h2 : i ≤ j) (h3 : j < b) : T d[j]! d[i]! = false := by
  rcases Nat.lt_or_ge i j with hlt | hge
  · exact h i j h1 hlt h3
  · obtain rfl : i = j := by omega
    exact hT.irrefl _
theorem symS_spec {lt T : α → α → Bool} (hT : SWO T) {d : Array α} {a m b : Nat} (ham : a < m) (hmb : m < b) (hL : SortedIn T a m d) (hR : SortedIn T m b d) (hC : ∀ i j, a ≤ i → i < m → m ≤ j → j < b → lt d[j]! d[i]! = T d[j]! d[i]!) :
    a ≤ symS lt d a m b ∧ symS lt d a m b ≤ m ∧ symS lt d a m b ≤ (a + b) / 2 ∧ m ≤ (a + b) / 2 + m - symS lt d a m b ∧ (a + b) / 2 + m - symS lt d a m b ≤ b ∧
      (∀ c q, a ≤ c → c < symS lt d a m b → (a + b) / 2 + m - symS lt d a m b ≤ q → q < b → T d[q]! d[c]! = false) ∧
      (∀ c q, symS lt d a m b ≤ c → c < m → m ≤ q → q < (a + b) / 2 + m - symS lt d a m b → T d[c]! d[q]! = false) := by
  have main : ∀ st r s, s = bs (fun c => !lt d[(a + b) / 2 + m - 1 - c]! d[c]!) (r) st r → a ≤ st → st ≤ r → r ≤ m → r ≤ (a + b) / 2 → (a + b) / 2 + m - st ≤ b → (st = a ∨ (a + b) / 2 + m - st = b) → (r = m ∨ r = (a + b) / 2) →
      a ≤ s ∧ s ≤ m ∧ s ≤ (a + b) / 2 ∧ m ≤ (a + b) / 2 + m - s ∧ (a + b) / 2 + m - s ≤ b ∧
      (∀ c q, a ≤ c → c < s → (a + b) / 2 + m - s ≤ q → q < b → T d[q]! d[c]! = false) ∧
      (∀ c q, s ≤ c → c < m → m ≤ q → q < (a + b) / 2 + m - s → T d[c]! d[q]! = false) := by
    intro st r s hs h1 h2 h3 h4 h5 h6 h7
    have hp : ∀ x, st ≤ x → x < r → (!lt d[(a + b) / 2 + m - 1 - x]! d[x]!) = !T d[(a + b) / 2 + m - 1 - x]! d[x]! := fun x g1 g2 => by
      rw [hC x _ (by omega) (by omega) (by omega) (by omega)]
    obtain ⟨e1, e2, e3, e4⟩ := bs_spec (p := fun c => !lt d[(a + b) / 2 + m - 1 - c]! d[c]!) r st r (by omega) h2 (fun x y g1 g2 g3 g4 => by
      have g4 : (!lt d[(a + b) / 2 + m - 1 - y]! d[y]!) = true := g4
      show (!lt d[(a + b) / 2 + m - 1 - x]! d[x]!) = true
      rw [hp y (by omega) g3] at g4
      rw [hp x g1 (by omega)]
      have k1 : T d[(a + b) / 2 + m - 1 - x]! d[(a + b) / 2 + m - 1 - y]! = false := sin_get hT hR (by omega) (by omega) (by omega)
      have k2 : T d[(a + b) / 2 + m - 1 - y]! d[y]! = false := by simpa using g4
      have k3 : T d[y]! d[x]! = false := sin_get hT hL (by omega) g2 (by omega)
      rw [hT.ntrans _ _ _ (hT.ntrans _ _ _ k1 k2) k3]; rfl)
    rw [← hs] at e1 e2 e3 e4
    refine ⟨by omega, by omega, by omega, by omega, by omega, fun c q g1 g2 g3 g4 => ?_, fun c q g1 g2 g3 g4 => ?_⟩
    · by_cases hst : st < s
      · have k := e3 (s - 1) (by omega) (by omega)
        have k : (!lt d[(a + b) / 2 + m - 1 - (s - 1)]! d[s - 1]!) = true := k
        rw [hp (s - 1) (by omega) (by omega)] at k
        have k2 : T d[(a + b) / 2 + m - 1 - (s - 1)]! d[s - 1]! = false := by simpa using k
        have k1 : T d[q]! d[(a + b) / 2 + m - 1 - (s - 1)]! = false := sin_get hT hR (by omega) (by omega) g4
        have k3 : T d[s - 1]! d[c]! = false := sin_get hT hL g1 (by omega) (by omega)
        exact hT.ntrans _ _ _ (hT.ntrans _ _ _ k1 k2) k3
      · exact absurd g3 (by omega)
    · by_cases hsr : s < r
      · have k := e4 s (Nat.le_refl _) hsr
        have k : (!lt d[(a + b) / 2 + m - 1 - s]! d[s]!) = false := k
        rw [hp s (by omega) hsr] at k
        have k2 : T d[(a + b) / 2 + m - 1 - s]! d[s]! = true := by simpa using k
        have k2' := hT.asymmA k2
        have k1 : T d[c]! d[s]! = false := sin_get hT hL (by omega) g1 g2
        have k3 : T d[(a + b) / 2 + m - 1 - s]! d[q]! = false := sin_get hT hR g3 (by omega) (by omega)
        exact hT.ntrans _ _ _ (hT.ntrans _ _ _ k1 k2') k3
      · exact absurd g4 (by omega)
  unfold symS
  by_cases hm : (a + b) / 2 < m
  · rw [if_pos hm]
    exact main ((a + b) / 2 + m - b) ((a + b) / 2) _ rfl (by omega) (by omega) (by omega) (Nat.le_refl _) (by omega) (Or.inr (by omega)) (Or.inr rfl)
  · rw [if_neg hm]
    exact main a m _ rfl (Nat.le_refl _) (by omega) (Nat.le_refl _) (by omega) (by omega) (Or.inl rfl) (Or.inl rfl)
theorem symM_spec {lt T : α → α → Bool} (hT : SWO T) : ∀ (f a m b : Nat) (d : Array α), b - a ≤ f → a < m → m < b → b ≤ d.size → SortedIn T a m d → SortedIn T m b d → (∀ i j, a ≤ i → i < m → m ≤ j → j < b → lt d[j]! d[i]! = T d[j]! d[i]!) →
    PermIn a b d (symM lt f d a m b) ∧ SortedIn T a b (symM lt f d a m b)
  | 0, a, m, b, d => by intro h1 h2; omega
  | f + 1, a, m, b, d => by
    intro hf ham hmb hsz hL hR hC
    rw [symM]
    by_cases hm1 : m - a = 1
    · rw [if_pos hm1]
      obtain rfl : m = a + 1 := by omega
      obtain ⟨e1, e2, e3, e4⟩ := bs_spec (p := fun h => lt d[h]! d[a]!) b (a + 1) b (by omega) (by omega) (fun x y g1 g2 g3 g4 => by
        have g4 : lt d[y]! d[a]! = true := g4
        show lt d[x]! d[a]! = true
        rw [hC a y (by omega) (by omega) (by omega) g3] at g4
        rw [hC a x (by omega) (by omega) g1 (by omega)]
        cases hx : T d[x]! d[a]! with
        | true => rfl
        | false => rw [hT.ntrans _ _ _ (sin_get hT hR g1 g2 g3) hx] at g4; cases g4)
      obtain ⟨s, hs⟩ : ∃ s, bs (fun h => lt d[h]! d[a]!) b (a + 1) b = s := ⟨_, rfl⟩
      rw [hs] at e1 e2 e3 e4 ⊢
      have g := mvR_get d a (s - 1 - a) (by omega)
      refine ⟨mvR_perm d a _ a b (Nat.le_refl _) (by omega) hsz, fun i j h1 h2 h3 => ?_⟩
      rw [g, g]
      by_cases c1 : a ≤ i ∧ i < a + (s - 1 - a)
      · rw [if_pos c1]
        by_cases c2 : a ≤ j ∧ j < a + (s - 1 - a)
        · rw [if_pos c2]; exact hR (i + 1) (j + 1) (by omega) (by omega) (by omega)
        · rw [if_neg c2]
          by_cases c3 : j = a + (s - 1 - a)
          · rw [if_pos c3]
            have k : lt d[i + 1]! d[a]! = true := e3 (i + 1) (by omega) (by omega)
            rw [hC a (i + 1) (by omega) (by omega) (by omega) (by omega)] at k
            exact hT.asymmA k
          · rw [if_neg c3]; exact hR (i + 1) j (by omega) (by omega) h3
      · rw [if_neg c1]
        by_cases c3 : i = a + (s - 1 - a)
        · rw [if_pos c3, if_neg (by omega), if_neg (by omega)]
          have k : lt d[j]! d[a]! = false := e4 j (by omega) h3
          rw [hC a j (by omega) (by omega) (by omega) h3] at k
          exact k
        · rw [if_neg c3, if_neg (by omega), if_neg (by omega)]; exact hR i j (by omega) h2 h3
    · rw [if_neg hm1]
      by_cases hb1 : b - m = 1
      · rw [if_pos hb1]
        obtain rfl : b = m + 1 := by omega
        obtain ⟨e1, e2, e3, e4⟩ := bs_spec (p := fun h => !lt d[m]! d[h]!) m a m (by omega) (by omega) (fun x y g1 g2 g3 g4 => by
          have g4 : (!lt d[m]! d[y]!) = true := g4
          show (!lt d[m]! d[x]!) = true
          rw [hC y m (by omega) g3 (Nat.le_refl _) (by omega)] at g4
          rw [hC x m g1 (by omega) (Nat.le_refl _) (by omega)]
          have k : T d[m]! d[y]! = false := by simpa using g4
          rw [hT.ntrans _ _ _ k (sin_get hT hL g1 g2 g3)]; rfl)
        obtain ⟨s, hs⟩ : ∃ s, bs (fun h => !lt d[m]! d[h]!) m a m = s := ⟨_, rfl⟩
        rw [hs] at e1 e2 e3 e4 ⊢
        have g := mvL_get d m (m - s) (by omega) (by omega)
        refine ⟨mvL_perm d m _ a (m + 1) (by omega) (by omega) hsz, fun i j h1 h2 h3 => ?_⟩
        rw [g, g]
        by_cases c2 : m - (m - s) < j ∧ j ≤ m
        · rw [if_pos c2]
          by_cases c1 : m - (m - s) < i ∧ i ≤ m
          · rw [if_pos c1]; exact hL (i - 1) (j - 1) (by omega) (by omega) (by omega)
          · rw [if_neg c1]
            by_cases c3 : i = m - (m - s)
            · rw [if_pos c3]
              have k : (!lt d[m]! d[j - 1]!) = false := e4 (j - 1) (by omega) (by omega)
              have k : lt d[m]! d[j - 1]! = true := by simpa using k
              rw [hC (j - 1) m (by omega) (by omega) (Nat.le_refl _) (by omega)] at k
              exact hT.asymmA k
            · rw [if_neg c3]; exact hL i (j - 1) h1 (by omega) (by omega)
        · rw [if_neg c2]
          by_cases c3 : j = m - (m - s)
          · rw [if_pos c3, if_neg (by omega), if_neg (by omega)]
            have k : (!lt d[m]! d[i]!) = true := e3 i h1 (by omega)
            rw [hC i m h1 (by omega) (Nat.le_refl _) (by omega)] at k
            simpa using k
          · rw [if_neg c3, if_neg (by omega), if_neg (by omega)]; exact hL i j h1 h2 (by omega)
      · rw [if_neg hb1]
        obtain ⟨s1, s2, s3, s4, s5, s6, s7⟩ := symS_spec hT ham hmb hL hR hC
        dsimp only
        obtain ⟨s, hs⟩ : ∃ s, symS lt d a m b = s := ⟨_, rfl⟩
        rw [hs] at s1 s2 s3 s4 s5 s6 s7 ⊢
        obtain ⟨mid, hmid⟩ : ∃ mid, (a + b) / 2 = mid := ⟨_, rfl⟩
        rw [hmid] at s3 s4 s5 s6 s7 ⊢
        have hm2 : a < mid ∧ mid < b := by omega
        obtain ⟨e, he⟩ : ∃ e, mid + m - s = e := ⟨_, rfl⟩
        rw [he] at s4 s5 s6 s7 ⊢
        obtain ⟨d1, hd1⟩ : ∃ d1, (if s < m ∧ m < e then rot d m (e - s) (m - s) (e - m) else d) = d1 := ⟨_, rfl⟩
        rw [hd1]
        have z1 : d1.size = d.size := by
          rw [← hd1]; split
          · exact rot_size _ _ _ _ _
          · rfl
        have p1 : PermIn a b d d1 := by
          rw [← hd1]; split
          · exact rot_perm m a b _ _ _ d (by omega) (by omega) (by omega) (by omega) (by omega) hsz
          · exact permIn_refl _ _ _
        have g1 : ∀ k, d1[k]! = if s ≤ k ∧ k < mid then d[k + (m - s)]! else if mid ≤ k ∧ k < e then d[k - (e - m)]! else d[k]! := fun k => by
          rw [← hd1]
          by_cases hr : s < m ∧ m < e
          · rw [if_pos hr, rot_get m _ _ _ d k (by omega) (by omega) (by omega) (by omega) (by omega)]
            by_cases c1 : s ≤ k ∧ k < mid
            · rw [if_pos c1, if_pos (by omega)]
            · rw [if_neg c1, if_neg (by omega)]
              by_cases c2 : mid ≤ k ∧ k < e
              · rw [if_pos c2, if_pos (by omega)]
              · rw [if_neg c2, if_neg (by omega)]
          · rw [if_neg hr]
            by_cases c1 : s ≤ k ∧ k < mid
            · rw [if_pos c1]; congr 1; omega
            · rw [if_neg c1]
              by_cases c2 : mid ≤ k ∧ k < e
              · rw [if_pos c2]; congr 1; omega
              · rw [if_neg c2]
        have L1 : ∀ k, a ≤ k → k < s → d1[k]! = d[k]! := fun k h1 h2 => by rw [g1, if_neg (by omega), if_neg (by omega)]
        have R1 : ∀ k, s ≤ k → k < mid → d1[k]! = d[k + (m - s)]! := fun k h1 h2 => by rw [g1, if_pos ⟨h1, h2⟩]
        have L2 : ∀ k, mid ≤ k → k < e → d1[k]! = d[k - (e - m)]! := fun k h1 h2 => by rw [g1, if_neg (by omega), if_pos ⟨h1, h2⟩]
        have R2 : ∀ k, e ≤ k → k < b → d1[k]! = d[k]! := fun k h1 h2 => by rw [g1, if_neg (by omega), if_neg (by omega)]
        have cross : ∀ i j, a ≤ i → i < mid → mid ≤ j → j < b → T d1[j]! d1[i]! = false := fun i j h1 h2 h3 h4 => by
          by_cases c1 : i < s
          · rw [L1 i h1 c1]
            by_cases c2 : j < e
            · rw [L2 j h3 c2]; exact sin_get hT hL h1 (by omega) (by omega)
            · rw [R2 j (by omega) h4]; exact s6 i j h1 c1 (by omega) h4
          · rw [R1 i (by omega) h2]
            by_cases c2 : j < e
            · rw [L2 j h3 c2]; exact s7 _ _ (by omega) (by omega) (by omega) (by omega)
            · rw [R2 j (by omega) h4]; exact sin_get hT hR (by omega) (by omega) h4
        obtain ⟨d2, hd2⟩ : ∃ d2, (if a < s ∧ s < mid then symM lt f d1 a s mid else d1) = d2 := ⟨_, rfl⟩
        rw [hd2]
        have q2 : PermIn a mid d1 d2 ∧ SortedIn T a mid d2 := by
          rw [← hd2]
          by_cases hr : a < s ∧ s < mid
          · rw [if_pos hr]
            refine symM_spec hT f a s mid d1 (by omega) hr.1 hr.2 (by omega) (fun i j h1 h2 h3 => ?_) (fun i j h1 h2 h3 => ?_) (fun i j h1 h2 h3 h4 => ?_)
            · rw [L1 i h1 (by omega), L1 j (by omega) h3]; exact hL i j h1 h2 (by omega)
            · rw [R1 i h1 (by omega), R1 j (by omega) h3]; exact hR _ _ (by omega) (by omega) (by omega)
            · rw [L1 i h1 h2, R1 j h3 h4]; exact hC _ _ h1 (by omega) (by omega) (by omega)
          · rw [if_neg hr]
            refine ⟨permIn_refl _ _ _, fun i j h1 h2 h3 => ?_⟩
            by_cases c : s = a
            · rw [R1 i (by omega) (by omega), R1 j (by omega) h3]; exact hR _ _ (by omega) (by omega) (by omega)
            · rw [L1 i h1 (by omega), L1 j (by omega) (by omega)]; exact hL i j h1 h2 (by omega)
        obtain ⟨p2, o2⟩ := q2
        have z2 : d2.size = d1.size := p2.1
        have k2 : ∀ k, mid ≤ k → d2[k]! = d1[k]! := fun k hk => p2.2.1 k (Or.inr hk)
        have cross2 : ∀ i j, a ≤ i → i < mid → mid ≤ j → j < b → T d2[j]! d2[i]! = false := fun i j h1 h2 h3 h4 => by
          rw [k2 j h3]
          exact permIn_all d1 d2 a mid (fun x => T d1[j]! x = false) (by omega) p2 (fun i h1 h2 => cross i j h1 h2 h3 h4) i h1 h2
        have q3 : PermIn mid b d2 (if mid < e ∧ e < b then symM lt f d2 mid e b else d2) ∧ SortedIn T mid b (if mid < e ∧ e < b then symM lt f d2 mid e b else d2) := by
          by_cases hr : mid < e ∧ e < b
          · rw [if_pos hr]
            refine symM_spec hT f mid e b d2 (by omega) hr.1 hr.2 (by omega) (fun i j h1 h2 h3 => ?_) (fun i j h1 h2 h3 => ?_) (fun i j h1 h2 h3 h4 => ?_)
            · rw [k2 i h1, k2 j (by omega), L2 i h1 (by omega), L2 j (by omega) h3]; exact hL _ _ (by omega) (by omega) (by omega)
            · rw [k2 i (by omega), k2 j (by omega), R2 i h1 (by omega), R2 j (by omega) h3]; exact hR _ _ (by omega) h2 h3
            · rw [k2 i h1, k2 j (by omega), L2 i h1 h2, R2 j h3 h4]; exact hC _ _ (by omega) (by omega) (by omega) h4
          · rw [if_neg hr]
            refine ⟨permIn_refl _ _ _, fun i j h1 h2 h3 => ?_⟩
            rw [k2 i h1, k2 j (by omega)]
            by_cases c : e = mid
            · rw [R2 i (by omega) (by omega), R2 j (by omega) h3]; exact hR _ _ (by omega) h2 h3
            · rw [L2 i h1 (by omega), L2 j (by omega) (by omega)]; exact hL _ _ (by omega) (by omega) (by omega)
        obtain ⟨p3, o3⟩ := q3
        obtain ⟨d3, hd3⟩ : ∃ d3, (if mid < e ∧ e < b then symM lt f d2 mid e b else d2) = d3 := ⟨_, rfl⟩
        rw [hd3] at p3 o3 ⊢
        have k3 : ∀ k, k < mid → d3[k]! = d2[k]! := fun k hk => p3.2.1 k (Or.inl hk)
        refine ⟨permIn_trans _ _ _ _ _ p1 (permIn_trans _ _ _ _ _ (permIn_mono _ _ _ _ _ _ (Nat.le_refl _) (by omega) (by omega) p2) (permIn_mono _ _ _ _ _ _ (by omega) (Nat.le_refl _) (by omega) p3)), fun i j h1 h2 h3 => ?_⟩
        by_cases c1 : j < mid
        · rw [k3 i (by omega), k3 j c1]; exact o2 i j h1 h2 c1
        · by_cases c2 : mid ≤ i
          · exact o3 i j c2 h2 h3
          · rw [k3 i (by omega)]
            exact permIn_all d2 d3 mid b (fun y => T y d2[i]! = false) (by omega) p3 (fun j h3 h4 => cross2 i j h1 (by omega) h3 h4) j (by omega) h3
/-! Blocks of twenty, then merges. -/
section
variable (lt : α → α → Bool)
def insB (n : Nat) : Nat → Nat → Array α → Array α
  | 0, a, d => insertionSort lt d a n
  | f + 1, a, d => if a + 20 ≤ n then insB n f (a + 20) (insertionSort lt d a (a + 20)) else insertionSort lt d a n
def mrgB (n k : Nat) : Nat → Nat → Array α → Array α
  | 0, _, d => d
  | f + 1, a, d => if a + 2 * k ≤ n then mrgB n k f (a + 2 * k) (symM lt n d a (a + k) (a + 2 * k)) else if a + k < n then symM lt n d a (a + k) n else d
def stabB (n : Nat) : Nat → Nat → Array α → Array α
  | 0, _, d => d
  | f + 1, k, d => if k < n then stabB n f (2 * k) (mrgB lt n k n 0 d) else d
def stable (n : Nat) (d : Array α) : Array α := stabB lt n n 20 (insB lt n n 0 d)
/-- Less, or level and with the lesser mark. -/
def marked (tg : α → Nat) (x y : α) : Bool := lt x y || (!lt y x && decide (tg x < tg y))
end
section
variable {lt : α → α → Bool} {tg : α → Nat}
omit [Inhabited α] in
theorem marked_no {x y : α} : marked lt tg x y = false ↔ lt x y = false ∧ (lt y x = false → tg y ≤ tg x) := by
  unfold marked
  cases lt x y <;> cases lt y x <;> simp
omit [Inhabited α] in
theorem marked_yes {x y : α} : marked lt tg x y = true ↔ lt x y = true ∨ (lt y x = false ∧ tg x < tg y) := by
  unfold marked
  cases lt x y <;> cases lt y x <;> simp
omit [Inhabited α] in
theorem marked_of {x y : α} (h : tg x < tg y) : lt y x = marked lt tg y x := by
  unfold marked
  rw [show decide (tg y < tg x) = false from decide_eq_false (by omega)]
  simp
omit [Inhabited α] in
theorem marked_swo (h : SWO lt) : SWO (marked lt tg) where
  irrefl x := by rw [marked_no]; exact ⟨h.irrefl x, fun _ => Nat.le_refl _⟩
  trans x y z h1 h2 := by
    rw [marked_yes] at *
    cases hxz : lt x z with
    | true => exact Or.inl rfl
    | false =>
      refine Or.inr ?_
      have n1 : lt x y = false := by
        cases hxy : lt x y with
        | false => rfl
        | true =>
          exfalso
          rcases h2 with h2 | ⟨h2, -⟩
          · rw [h.trans _ _ _ hxy h2] at hxz; cases hxz
          · have := h.ntrans _ _ _ hxz h2; rw [hxy] at this; cases this
      have h1 : lt y x = false ∧ tg x < tg y := by rcases h1 with h1 | h1; · rw [n1] at h1; cases h1
                                                   · exact h1
      have n2 : lt y z = false := by
        cases hyz : lt y z with
        | false => rfl
        | true => have := h.ntrans _ _ _ h1.1 hxz; rw [hyz] at this; cases this
      have h2 : lt z y = false ∧ tg y < tg z := by rcases h2 with h2 | h2; · rw [n2] at h2; cases h2
                                                   · exact h2
      exact ⟨h.ntrans _ _ _ h2.1 h1.1, by omega⟩
  ntrans x y z h1 h2 := by
    rw [marked_no] at *
    refine ⟨h.ntrans _ _ _ h1.1 h2.1, fun h3 => ?_⟩
    have a1 := h2.2 (h.ntrans _ _ _ h3 h1.1)
    have a2 := h1.2 (h.ntrans _ _ _ h2.1 h3)
    omega
theorem insInner_size (lt : α → α → Bool) (a : Nat) : ∀ (j : Nat) (d : Array α), (insInner lt a j d).size = d.size
  | 0, d => rfl
  | j + 1, d => by
    rw [insInner]; split
    · rw [insInner_size lt a j, swp_size]
    · rfl
theorem insInner_perm (lt : α → α → Bool) (a hi : Nat) : ∀ (j : Nat) (d : Array α), j < hi → hi ≤ d.size → PermIn a hi d (insInner lt a j d)
  | 0, d => fun _ _ => permIn_refl _ _ _
  | j + 1, d => fun h1 h2 => by
    rw [insInner]; split
    · rename_i hc
      have hc : j + 1 > a := by simp at hc; omega
      exact permIn_trans _ _ _ _ _ (swp_permIn d a hi (j + 1) j (by omega) h1 (by omega) (by omega) h2) (insInner_perm lt a hi j _ (by omega) (by rw [swp_size]; exact h2))
    · exact permIn_refl _ _ _
theorem insInner_marked (a : Nat) : ∀ (j : Nat) (d : Array α), j < d.size → (∀ p, a ≤ p → p < j → tg d[p]! < tg d[j]!) → insInner lt a j d = insInner (marked lt tg) a j d
  | 0, d => fun _ _ => rfl
  | j + 1, d => fun hs hp => by
    rw [insInner, insInner]
    by_cases ha : a ≤ j
    · rw [← marked_of (hp j ha (by omega))]
      split
      · refine insInner_marked a j _ (by rw [swp_size]; omega) fun p h1 h2 => ?_
        rw [swp_other _ _ _ _ (by omega) (by omega), swp_right _ _ _ (by omega)]
        exact hp p h1 (by omega)
      · rfl
    · rw [if_neg (by simp; omega), if_neg (by simp; omega)]
theorem insOuter_marked (a b : Nat) : ∀ (f i : Nat) (d : Array α), b - i ≤ f → a ≤ i → b ≤ d.size → (∀ p q, a ≤ p → p < q → i ≤ q → q < b → tg d[p]! < tg d[q]!) → insOuter lt a b i d = insOuter (marked lt tg) a b i d
  | f, i, d => by
    intro hf hai hb hp
    by_cases hib : i < b
    · obtain ⟨f, rfl⟩ : ∃ f', f = f' + 1 := ⟨f - 1, by omega⟩
      have e1 : insOuter lt a b i d = insOuter lt a b (i + 1) (insInner lt a i d) := by rw [insOuter, if_pos hib]
      have e2 : insOuter (marked lt tg) a b i d = insOuter (marked lt tg) a b (i + 1) (insInner (marked lt tg) a i d) := by rw [insOuter, if_pos hib]
      rw [e1, e2, ← insInner_marked (tg := tg) a i d (by omega) (fun p h1 h2 => hp p i h1 h2 (Nat.le_refl _) hib)]
      have P := insInner_perm lt a (i + 1) i d (by omega) (by omega)
      refine insOuter_marked a b f (i + 1) _ (by omega) (by omega) (by rw [insInner_size]; exact hb) fun p q h1 h2 h3 h4 => ?_
      have eq : (insInner lt a i d)[q]! = d[q]! := P.2.1 q (Or.inr h3)
      rw [eq]
      by_cases hpi : p < i + 1
      · exact permIn_all _ _ a (i + 1) (fun x => tg x < tg d[q]!) (by omega) P (fun r g1 g2 => hp r q g1 (by omega) (by omega) h4) p h1 hpi
      · rw [P.2.1 p (Or.inr (by omega))]; exact hp p q h1 h2 (by omega) h4
    · have e1 : insOuter lt a b i d = d := by rw [insOuter, if_neg hib]
      have e2 : insOuter (marked lt tg) a b i d = d := by rw [insOuter, if_neg hib]
      rw [e1, e2]
/-- Where blocks of k begin. -/
def Bd (k t : Nat) : Prop := ∃ q, t = q * k
theorem bd_next {k a t : Nat} (ha : Bd k a) (ht : Bd k t) (h : a < t) : a + k ≤ t := by
  obtain ⟨q, rfl⟩ := ha
  obtain ⟨r, rfl⟩ := ht
  have : q < r := Nat.lt_of_mul_lt_mul_right h
  calc q * k + k = (q + 1) * k := by rw [Nat.add_mul, Nat.one_mul]
    _ ≤ r * k := Nat.mul_le_mul_right k this
theorem bd_add {k a : Nat} (ha : Bd k a) : Bd k (a + k) := by obtain ⟨q, rfl⟩ := ha; exact ⟨q + 1, by rw [Nat.add_mul, Nat.one_mul]⟩
theorem bd_two {k t : Nat} (h : Bd (2 * k) t) : Bd k t := by obtain ⟨q, rfl⟩ := h; exact ⟨q * 2, by rw [Nat.mul_assoc]⟩
theorem bd_one (t : Nat) : Bd 1 t := ⟨t, by omega⟩
/-- The blocks of k are in order, and their marks rise from block to block. -/
structure Blk (T : α → α → Bool) (tg : α → Nat) (n k : Nat) (d : Array α) : Prop where
  srt : ∀ t, Bd k t → SortedIn T t (min (t + k) n) d
  mks : ∀ i t j, Bd k t → i < t → t ≤ j → j < n → tg d[i]! < tg d[j]!
/-- Blocks of K up to a, blocks of k from there on. -/
structure Mid (T : α → α → Bool) (tg : α → Nat) (n k K a : Nat) (d : Array α) : Prop where
  s1 : ∀ t, Bd K t → t + K ≤ a → SortedIn T t (t + K) d
  s2 : ∀ t, Bd k t → a ≤ t → SortedIn T t (min (t + k) n) d
  m1 : ∀ i t j, Bd K t → i < t → t ≤ j → j < n → tg d[i]! < tg d[j]!
  m2 : ∀ i t j, Bd k t → a ≤ i → i < t → t ≤ j → j < n → tg d[i]! < tg d[j]!
theorem SortedIn_congr {T : α → α → Bool} {a b : Nat} {d d' : Array α} (h : SortedIn T a b d) (he : ∀ p, a ≤ p → p < b → d'[p]! = d[p]!) : SortedIn T a b d' := fun i j h1 h2 h3 => by
  rw [he i h1 (by omega), he j (by omega) h3]; exact h i j h1 h2 h3
section
variable {T : α → α → Bool} {n k K a : Nat} {d d' : Array α}
theorem Blk.mid (h : Blk T tg n k d) (hK : ∀ t, Bd K t → Bd k t) : Mid T tg n k K 0 d :=
  ⟨fun t ht h1 => by
    intro i j g1 g2 g3; omega, fun t ht _ => h.srt t ht, fun i t j ht => h.mks i t j (hK t ht), fun i t j ht _ => h.mks i t j ht⟩
theorem Mid.marks (h : Mid T tg n k K a d) (ha : Bd K a) {hi : Nat} (hh : hi = min (a + K) n) (hn : n ≤ d.size) (P : PermIn a hi d d') : ∀ i t j, Bd K t → i < t → t ≤ j → j < n → tg d'[i]! < tg d'[j]! := by
  intro i t j ht h1 h2 h3
  have ei : (i < a ∨ hi ≤ i) → d'[i]! = d[i]! := P.2.1 i
  have ej : (j < a ∨ hi ≤ j) → d'[j]! = d[j]! := P.2.1 j
  by_cases c1 : i < a
  · rw [ei (Or.inl c1)]
    by_cases c2 : j < a ∨ hi ≤ j
    · rw [ej c2]; exact h.m1 i t j ht h1 h2 h3
    · exact permIn_all _ _ a hi (fun y => tg d[i]! < tg y) (by omega) P (fun r g1 g2 => h.m1 i a r ha c1 g1 (by omega)) j (by omega) (by omega)
  · by_cases c2 : i < hi
    · have := bd_next ha ht (by omega)
      rw [ej (Or.inr (by omega))]
      exact permIn_all _ _ a hi (fun y => tg y < tg d[j]!) (by omega) P (fun r g1 g2 => h.m1 r t j ht (by omega) h2 h3) i (by omega) c2
    · rw [ei (Or.inr (by omega)), ej (Or.inr (by omega))]; exact h.m1 i t j ht h1 h2 h3
theorem Mid.step (h : Mid T tg n k K a d) (ha : Bd K a) (hK : 0 < K) (hn : n ≤ d.size) (hle : a + K ≤ n) (P : PermIn a (a + K) d d') (S : SortedIn T a (a + K) d') : Mid T tg n k K (a + K) d' := by
  refine ⟨fun t ht h1 => ?_, fun t ht h1 => ?_, h.marks ha (hi := a + K) (by omega) hn P, fun i t j ht h1 h2 h3 h4 => ?_⟩
  · by_cases e : t = a
    · rw [e]; exact S
    · have h2 : t < a := by omega
      have := bd_next ht ha h2
      exact SortedIn_congr (h.s1 t ht this) fun p g1 g2 => P.2.1 p (Or.inl (by omega))
  · exact SortedIn_congr (h.s2 t ht (by omega)) fun p g1 g2 => P.2.1 p (Or.inr (by omega))
  · rw [P.2.1 i (Or.inr h1), P.2.1 j (Or.inr (by omega))]; exact h.m2 i t j ht (by omega) h2 h3 h4
theorem Mid.last (h : Mid T tg n k K a d) (ha : Bd K a) (hn : n ≤ d.size) (han : a ≤ n) (hle : n ≤ a + K) (P : PermIn a n d d') (S : SortedIn T a n d') : Blk T tg n K d' := by
  refine ⟨fun t ht => ?_, h.marks ha (hi := n) (by omega) hn P⟩
  rcases Nat.lt_trichotomy t a with c | rfl | c
  · have := bd_next ht ha c
    rw [Nat.min_eq_left (by omega)]
    exact SortedIn_congr (h.s1 t ht this) fun p g1 g2 => P.2.1 p (Or.inl (by omega))
  · rw [Nat.min_eq_right hle]; exact S
  · have := bd_next ha ht c
    intro i j g1 g2 g3; omega
end
theorem insertion_marked (hT : SWO lt) {d : Array α} {a b : Nat} (hab : a ≤ b) (hb : b ≤ d.size) (hm : ∀ p q, a ≤ p → p < q → q < b → tg d[p]! < tg d[q]!) :
    PermIn a b d (insertionSort lt d a b) ∧ SortedIn (marked lt tg) a b (insertionSort lt d a b) := by
  have e : insertionSort lt d a b = insertionSort (marked lt tg) d a b := insOuter_marked a b b (a + 1) d (by omega) (by omega) hb (fun p q h1 h2 _ h4 => hm p q h1 h2 h4)
  rw [e]
  exact insertionSort_holds (marked_swo hT) d a b hab hb
theorem insB_spec (hT : SWO lt) (n : Nat) : ∀ (f a : Nat) (d : Array α), n - a ≤ f → n ≤ d.size → a ≤ n → Bd 20 a → Mid (marked lt tg) tg n 1 20 a d → PermIn a n d (insB lt n f a d) ∧ Blk (marked lt tg) tg n 20 (insB lt n f a d)
  | f, a, d => by
    intro hf hn han hB hM
    by_cases hle : a + 20 ≤ n
    · obtain ⟨f, rfl⟩ : ∃ f', f = f' + 1 := ⟨f - 1, by omega⟩
      rw [insB, if_pos hle]
      obtain ⟨P, S⟩ := insertion_marked (tg := tg) hT (d := d) (a := a) (b := a + 20) (by omega) (by omega) (fun p q h1 h2 h3 => hM.m2 p q q (bd_one q) h1 h2 (Nat.le_refl _) (by omega))
      obtain ⟨P2, B⟩ := insB_spec hT n f (a + 20) _ (by omega) (by rw [P.1]; exact hn) hle (bd_add hB) (hM.step hB (by decide) hn hle P S)
      exact ⟨permIn_trans _ _ _ _ _ (permIn_mono _ _ _ _ _ _ (Nat.le_refl _) hle hn P) (permIn_mono _ _ _ _ _ _ (by omega) (Nat.le_refl _) (by rw [P.1]; exact hn) P2), B⟩
    · have e : insB lt n f a d = insertionSort lt d a n := by
        cases f with
        | zero => rfl
        | succ f => rw [insB, if_neg hle]
      rw [e]
      obtain ⟨P, S⟩ := insertion_marked (tg := tg) hT (d := d) (a := a) (b := n) han hn (fun p q h1 h2 h3 => hM.m2 p q q (bd_one q) h1 h2 (Nat.le_refl _) (by omega))
      exact ⟨P, hM.last hB hn han (by omega) P S⟩
theorem mrgB_spec (hT : SWO lt) (n k : Nat) (hk : 0 < k) : ∀ (f a : Nat) (d : Array α), n - a ≤ f → n ≤ d.size → a ≤ n → Bd (2 * k) a → Mid (marked lt tg) tg n k (2 * k) a d → PermIn a n d (mrgB lt n k f a d) ∧ Blk (marked lt tg) tg n (2 * k) (mrgB lt n k f a d)
  | f, a, d => by
    intro hf hn han hB hM
    have hak : Bd k a := bd_two hB
    have hak2 : Bd k (a + k) := bd_add hak
    have s1 := hM.s2 a hak (Nat.le_refl _)
    have s2 := hM.s2 (a + k) hak2 (by omega)
    have hC : ∀ b, b ≤ n → ∀ i j, a ≤ i → i < a + k → a + k ≤ j → j < b → lt d[j]! d[i]! = marked lt tg d[j]! d[i]! := fun b hb i j h1 h2 h3 h4 => marked_of (hM.m2 i (a + k) j hak2 h1 h2 h3 (by omega))
    by_cases hle : a + 2 * k ≤ n
    · obtain ⟨f, rfl⟩ : ∃ f', f = f' + 1 := ⟨f - 1, by omega⟩
      rw [mrgB, if_pos hle]
      rw [Nat.min_eq_left (by omega)] at s1 s2
      rw [show a + k + k = a + 2 * k from by omega] at s2
      obtain ⟨P, S⟩ := symM_spec (lt := lt) (marked_swo (tg := tg) hT) n a (a + k) (a + 2 * k) d (by omega) (by omega) (by omega) (by omega) s1 s2 (hC _ hle)
      obtain ⟨P2, B⟩ := mrgB_spec hT n k hk f (a + 2 * k) _ (by omega) (by rw [P.1]; exact hn) hle (bd_add hB) (hM.step hB (by omega) hn hle P S)
      exact ⟨permIn_trans _ _ _ _ _ (permIn_mono _ _ _ _ _ _ (Nat.le_refl _) hle hn P) (permIn_mono _ _ _ _ _ _ (by omega) (Nat.le_refl _) (by rw [P.1]; exact hn) P2), B⟩
    · by_cases hlt : a + k < n
      · obtain ⟨f, rfl⟩ : ∃ f', f = f' + 1 := ⟨f - 1, by omega⟩
        rw [mrgB, if_neg hle, if_pos hlt]
        rw [Nat.min_eq_left (by omega)] at s1
        rw [Nat.min_eq_right (by omega)] at s2
        obtain ⟨P, S⟩ := symM_spec (lt := lt) (marked_swo (tg := tg) hT) n a (a + k) n d (by omega) (by omega) hlt hn s1 s2 (hC n (Nat.le_refl _))
        exact ⟨P, hM.last hB hn han (by omega) P S⟩
      · have e : mrgB lt n k f a d = d := by
          cases f with
          | zero => rfl
          | succ f => rw [mrgB, if_neg hle, if_neg hlt]
        rw [e]
        rw [Nat.min_eq_right (by omega)] at s1
        exact ⟨permIn_refl _ _ _, hM.last hB hn han (by omega) (permIn_refl _ _ _) s1⟩
theorem stabB_spec (hT : SWO lt) (n : Nat) : ∀ (f k : Nat) (d : Array α), n - k ≤ f → 0 < k → n ≤ d.size → Blk (marked lt tg) tg n k d → PermIn 0 n d (stabB lt n f k d) ∧ SortedIn (marked lt tg) 0 n (stabB lt n f k d)
  | f, k, d => by
    intro hf hk hn hB
    by_cases hlt : k < n
    · obtain ⟨f, rfl⟩ : ∃ f', f = f' + 1 := ⟨f - 1, by omega⟩
      rw [stabB, if_pos hlt]
      obtain ⟨P, B⟩ := mrgB_spec hT n k hk n 0 d (by omega) hn (Nat.zero_le _) ⟨0, by omega⟩ (hB.mid fun t => bd_two)
      obtain ⟨P2, S⟩ := stabB_spec hT n f (2 * k) _ (by omega) (by omega) (by rw [P.1]; exact hn) B
      exact ⟨permIn_trans _ _ _ _ _ P P2, S⟩
    · have e : stabB lt n f k d = d := by
        cases f with
        | zero => rfl
        | succ f => rw [stabB, if_neg hlt]
      rw [e]
      have := hB.srt 0 ⟨0, by omega⟩
      rw [Nat.min_eq_right (by omega)] at this
      exact ⟨permIn_refl _ _ _, this⟩
/-- A stable sort: by the order, and level ones by their marks. -/
theorem stable_spec (hT : SWO lt) (d : Array α) (hm : ∀ p q, p < q → q < d.size → tg d[p]! < tg d[q]!) : PermIn 0 d.size d (stable lt d.size d) ∧ SortedIn (marked lt tg) 0 d.size (stable lt d.size d) := by
  have M : Mid (marked lt tg) tg d.size 1 20 0 d := ⟨fun t ht h => by intro i j g1 g2 g3; omega, fun t ht h => by intro i j g1 g2 g3; omega, fun i t j _ h1 h2 h3 => hm i j (by omega) h3, fun i t j _ _ h1 h2 h3 => hm i j (by omega) h3⟩
  obtain ⟨P, B⟩ := insB_spec hT d.size d.size 0 d (by omega) (Nat.le_refl _) (Nat.zero_le _) ⟨0, rfl⟩ M
  obtain ⟨P2, S⟩ := stabB_spec hT d.size d.size 20 _ (by omega) (by decide) (by rw [P.1]; exact Nat.le_refl _) B
  exact ⟨permIn_trans _ _ _ _ _ P P2, S⟩
end
end
end Go.Proofs.YthejgholpkeldaaGreatDoor

namespace Go.Proofs.YthejgholpkeldaaGreatDoor
open Go.Sort
set_option maxRecDepth 100000

theorem snoc_ind {α : Type} {P : List α → Prop} (h0 : P []) (h1 : ∀ (l : List α) (x : α), P l → P (l ++ [x])) (l : List α) : P l := by
  have key : ∀ m : List α, P m.reverse := by
    intro m
    induction m with
    | nil => exact h0
    | cons x m ih => rw [List.reverse_cons]; exact h1 _ _ ih
  have := key l.reverse
  rwa [List.reverse_reverse] at this
section
variable {β : Type} {less : β → β → Bool} {dflt : β}
/-- Less by the first part alone. -/
def lessM (less : β → β → Bool) (x y : β × Nat) : Bool := less x.1 y.1
theorem lessM_swo (h : SWO less) : SWO (lessM less) := ⟨fun _ => h.irrefl _, fun _ _ _ => h.trans _ _ _, fun _ _ _ => h.ntrans _ _ _⟩
theorem posG_marks {x : β} {n : Nat} {out : List (β × Nat)} (hm : ∀ y ∈ out, y.2 < n) : ∀ k, k ≤ out.length → posG (marked (lessM less) Prod.snd) (dflt, 0) (x, n) out k = posG less dflt x (out.map Prod.fst) k
  | 0, _ => rfl
  | k + 1, h => by
    have hk : out[k]? = some out[k] := List.getElem?_eq_getElem (by omega)
    have e1 : out.getD k (dflt, 0) = out[k] := by rw [List.getD_eq_getElem?_getD, hk]; rfl
    have e2 : (out.map Prod.fst).getD k dflt = out[k].1 := by rw [List.getD_eq_getElem?_getD, List.getElem?_map, hk]; rfl
    have e3 : marked (lessM less) Prod.snd (x, n) out[k] = less x out[k].1 := (marked_of (lt := lessM less) (tg := Prod.snd) (x := out[k]) (y := (x, n)) (hm _ (List.getElem_mem _))).symm
    rw [posG, posG, e1, e2, e3, posG_marks hm k (by omega)]
theorem ascG_marks (less : β → β → Bool) (dflt : β) (l : List β) : (ascG (marked (lessM less) Prod.snd) (dflt, 0) l.zipIdx).map Prod.fst = ascG less dflt l := by
  induction l using snoc_ind with
  | h0 => rfl
  | h1 l x ih =>
    have e : (l ++ [x]).zipIdx = l.zipIdx ++ [(x, l.length)] := by simp [List.zipIdx_append]
    rw [e, ascG_snoc, ascG_snoc, ← ih]
    obtain ⟨out, ho⟩ : ∃ out, ascG (marked (lessM less) Prod.snd) (dflt, 0) l.zipIdx = out := ⟨_, rfl⟩
    have hm : ∀ y ∈ out, y.2 < l.length := fun y hy => by
      rw [← ho] at hy
      have hy := (ascG_perm l.zipIdx).mem_iff.1 hy
      have := List.mem_zipIdx_iff_getElem?.1 hy
      exact (List.getElem?_eq_some_iff.1 this).1
    rw [ho]
    unfold insG
    rw [posG_marks hm _ (Nat.le_refl _), List.length_map, List.map_append, List.map_take, List.map_cons, List.map_drop]
variable [Inhabited β]
/-- A stable sort of a list puts it in order as one by one. -/
theorem stable_ascG (h : SWO less) (dflt : β) (l : List β) : (stable (lessM less) l.length l.zipIdx.toArray).toList.map Prod.fst = ascG less dflt l := by
  have hT := marked_swo (tg := Prod.snd) (lessM_swo h)
  have hn : l.zipIdx.toArray.size = l.length := by simp
  obtain ⟨P, S⟩ := stable_spec (lt := lessM less) (tg := Prod.snd) (lessM_swo h) l.zipIdx.toArray (fun p q h1 h2 => by
    rw [hn] at h2
    rw [getElem!_pos _ p (by rw [hn]; omega), getElem!_pos _ q (by rw [hn]; omega)]
    simp only [List.getElem_toArray, List.getElem_zipIdx]
    omega)
  rw [hn] at P S
  obtain ⟨m, hm⟩ : ∃ m, (stable (lessM less) l.length l.zipIdx.toArray).toList = m := ⟨_, rfl⟩
  have hml : m.length = l.length := by rw [← hm, Array.length_toList, P.1, hn]
  have hp : m.Perm l.zipIdx := by
    have h3 := P.2.2
    obtain ⟨d', hd'⟩ : ∃ d', stable (lessM less) l.length l.zipIdx.toArray = d' := ⟨_, rfl⟩
    rw [hd'] at h3 hm P
    have e1 : (d'.extract 0 l.length).toList = m := by
      have hz : d'.size = l.length := by rw [P.1, hn]
      rw [← hz, ← hm]; simp
    have e2 : (l.zipIdx.toArray.extract 0 l.length).toList = l.zipIdx := by
      have : ∀ (z : Array (β × Nat)) (k : Nat), z.size = k → (z.extract 0 k).toList = z.toList := fun z k hk => by subst hk; simp
      rw [this _ _ hn]
    rw [e1, e2] at h3
    exact h3
  have hs : m.Pairwise (LeG (marked (lessM less) Prod.snd)) := by
    rw [List.pairwise_iff_getElem]
    intro i j hi hj hij
    have k := S i j (Nat.zero_le _) hij (by omega)
    have hz : ∀ q (hq : q < m.length), (stable (lessM less) l.length l.zipIdx.toArray)[q]! = m[q] := fun q hq => by
      rw [getElem!_pos _ q (by rw [P.1, hn]; omega)]
      subst hm
      simp
    rw [hz i hi, hz j hj] at k
    exact k
  have ho := ascG_sorted (less := marked (lessM less) Prod.snd) (dflt := (dflt, 0)) (fun x y z h1 h2 => hT.ntrans _ _ _ h2 h1) (fun x y h => hT.asymmA h) l.zipIdx
  have hq := ascG_perm (less := marked (lessM less) Prod.snd) (dflt := (dflt, 0)) l.zipIdx
  have e : m = ascG (marked (lessM less) Prod.snd) (dflt, 0) l.zipIdx := List.Perm.eq_of_pairwise (le := LeG (marked (lessM less) Prod.snd)) (fun a b ha hb h1 h2 => by
    have ha := List.mem_zipIdx_iff_getElem?.1 (hp.mem_iff.1 ha)
    have hb := List.mem_zipIdx_iff_getElem?.1 (hq.mem_iff.1 hb)
    obtain ⟨a1, a2⟩ := marked_no.1 h1
    obtain ⟨b1, b2⟩ := marked_no.1 h2
    have i1 := a2 b1
    have i2 := b2 a1
    have : a.2 = b.2 := by omega
    rw [this, hb] at ha
    exact Prod.ext (Option.some.inj ha).symm this) hs ho (hp.trans hq.symm)
  rw [hm, e, ascG_marks]
end
end Go.Proofs.YthejgholpkeldaaGreatDoor

namespace Go.Proofs.YthejgholpkeldaaGreatDoor
open Go.RowKit
set_option maxRecDepth 100000

/-- A request: student, course, priority, courses instead. -/
abbrev Req := ByteArray × ByteArray × Int × List ByteArray
def kReq : Kind Req := kPair kStr (kPair kStr (kPair kInt (kSlice kStr)))
theorem At.req {S : Nat → Prop} {w : World} {A : Option Addr} {l : List Req} {j : Nat} {x : Req} (h : At kReq S w A l) (hj : l[j]? = some x) :
    ∃ b off F c, A = some ⟨b, off, none⟩ ∧ S b ∧ b < w.heap.size ∧ (w.cell? ⟨b, off + j * 4, none⟩ = some (.string x.1) ∧ w.cell? ⟨b, off + j * 4 + 1, none⟩ = some (.string x.2.1) ∧ w.cell? ⟨b, off + j * 4 + 2, none⟩ = some (.int .i64 x.2.2.1) ∧ w.cell? ⟨b, off + j * 4 + 3, none⟩ = some (.slice F x.2.2.2.length c)) ∧
      x.2.2.2.length ≤ c ∧ At kStr S w F x.2.2.2 := by
  obtain ⟨b, off, vs, e, hs, hlt, hr, hc⟩ := h.get hj
  obtain ⟨u0, r0, e0, h0, hr⟩ := hr
  obtain ⟨u1, r1, e1, h1, hr⟩ := hr
  obtain ⟨u2, u3, e2, h2, h3⟩ := hr
  obtain ⟨F, c, rfl, l3, a3⟩ := h3
  have h0 : u0 = [.string x.1] := h0
  have h1 : u1 = [.string x.2.1] := h1
  have h2 : u2 = [.int .i64 x.2.2.1] := h2
  subst h0 h1 h2 e2 e1 e0
  have hk : ∀ i u, ([Value.string x.1, .string x.2.1, .int .i64 x.2.2.1, .slice F x.2.2.2.length c] : List Value)[i]? = some u → w.cell? ⟨b, off + j * 4 + i, none⟩ = some u := hc
  exact ⟨b, off, F, c, e, hs, hlt, ⟨hk 0 _ rfl, hk 1 _ rfl, hk 2 _ rfl, hk 3 _ rfl⟩, l3, a3⟩
/-! What is wrong with requests. -/
/-- The error of the courses instead, over the first k. -/
def insE (co : ByteArray) (l : List ByteArray) : Nat → Nat
  | 0 => 0
  | k + 1 => if insE co l k ≠ 0 then insE co l k else if codeB (l.getD k ⟨#[]⟩) = false then 10 else if l.getD k ⟨#[]⟩ = co ∨ 0 ≤ idxS (l.getD k ⟨#[]⟩) (l.take k) then 11 else 0
theorem insE_hit {co : ByteArray} {l : List ByteArray} {j : Nat} (h : insE co l j ≠ 0) : ∀ k, j ≤ k → insE co l k = insE co l j := by
  intro k
  induction k with
  | zero =>
    intro hk
    obtain rfl : j = 0 := by omega
    rfl
  | succ k ih =>
    intro hk
    rcases Nat.lt_or_ge k j with h1 | h1
    · obtain rfl : j = k + 1 := by omega
      rfl
    · have e := ih h1
      rw [insE, if_pos (by rw [e]; exact h), e]
def reqEx (x : Req) : Nat :=
  if codeB x.1 = false then 10 else if codeB x.2.1 = false then 10 else if x.2.2.1 < 1 then 3 else if 9 < x.2.2.1 then 3 else if 8 < x.2.2.2.length then 2 else insE x.2.1 x.2.2.2 x.2.2.2.length
/-- Is there a request of a student for a course. -/
def hasQ (l : List Req) (s c : ByteArray) : Bool := l.any fun x => decide (x.1 = s ∧ x.2.1 = c)
def studs (l : List Req) : List ByteArray := l.map fun x => x.1
/-- Each text once, where it is met first. -/
def freshS (l : List ByteArray) : List ByteArray := l.foldl (fun acc s => if 0 ≤ idxS s acc then acc else acc ++ [s]) []
theorem freshS_snoc (l : List ByteArray) (s : ByteArray) : freshS (l ++ [s]) = if 0 ≤ idxS s (freshS l) then freshS l else freshS l ++ [s] := by unfold freshS; rw [List.foldl_append]; rfl
theorem mem_fresh (l : List ByteArray) (s : ByteArray) : s ∈ freshS l ↔ s ∈ l := by
  induction l using snoc_ind with
  | h0 => simp [freshS]
  | h1 l x ih =>
    rw [freshS_snoc]
    split
    · rename_i h
      replace h := idx_memS.1 h
      rw [ih, List.mem_append]
      constructor
      · exact Or.inl
      · rintro (h1 | h1)
        · exact h1
        · simp at h1; subst h1; exact ih.1 h
    · rw [List.mem_append, List.mem_append, ih]
theorem fresh_nodup (l : List ByteArray) : (freshS l).Nodup := by
  induction l using snoc_ind with
  | h0 => simp [freshS]
  | h1 l x ih =>
    rw [freshS_snoc]
    split
    · exact ih
    · rename_i h
      replace h : ¬ x ∈ freshS l := fun hm => h (idx_memS.2 hm)
      exact List.nodup_append.2 ⟨ih, by simp, fun a ha b hb => by simp at hb; subst hb; rintro rfl; exact h ha⟩
theorem fresh_len (l : List ByteArray) : (freshS l).length ≤ l.length := by
  induction l using snoc_ind with
  | h0 => simp [freshS]
  | h1 l x ih =>
    rw [freshS_snoc, List.length_append]
    split
    · omega
    · rw [List.length_append]; simp; omega
def reqE (x : Req) (prev : List Req) : Nat := if reqEx x ≠ 0 then reqEx x else if hasQ prev x.1 x.2.1 = true then 11 else if 64 < (freshS (studs (prev ++ [x]))).length then 2 else 0
def reqEi (l : List Req) (i : Nat) : Nat := match l[i]? with
  | some x => reqE x (l.take i)
  | none => 0
def reqErr (l : List Req) : Nat → Nat
  | 0 => 0
  | k + 1 => if reqErr l k ≠ 0 then reqErr l k else reqEi l k
def validQ (l : List Req) : Nat := if 400 < l.length then 2 else reqErr l l.length
theorem reqErr_hit {l : List Req} {j : Nat} (h : reqErr l j ≠ 0) : ∀ k, j ≤ k → reqErr l k = reqErr l j := by
  intro k
  induction k with
  | zero =>
    intro hk
    obtain rfl : j = 0 := by omega
    rfl
  | succ k ih =>
    intro hk
    rcases Nat.lt_or_ge k j with h1 | h1
    · obtain rfl : j = k + 1 := by omega
      rfl
    · have e := ih h1
      rw [reqErr, if_pos (by rw [e]; exact h), e]
theorem req_end {l : List Req} {j N e : Nat} {x : Req} (hx : l[j]? = some x) (h0 : reqErr l j = 0) (he : reqE x (l.take j) = e) (hne : e ≠ 0) (hj : j < N) : reqErr l N = e := by
  have h1 : reqErr l (j + 1) = e := by
    rw [reqErr, if_neg (by rw [h0]; simp)]
    unfold reqEi
    rw [hx]
    exact he
  rw [reqErr_hit (by rw [h1]; exact hne) N hj, h1]
theorem req_on {l : List Req} {j : Nat} {x : Req} (hx : l[j]? = some x) (h0 : reqErr l j = 0) (he : reqE x (l.take j) = 0) : reqErr l (j + 1) = 0 := by
  rw [reqErr, if_neg (by rw [h0]; simp)]
  unfold reqEi
  rw [hx]
  exact he
/-! Reading. -/
/-- The problem of a request's fields. -/
def fieldsQ (line : Int) (fs : List Fld) : Option Prob :=
  orP (orP (orP (if codeB (textAt fs 0) then none else some (line, colAt fs 1, 10)) (if codeB (textAt fs 1) then none else some (line, colAt fs 2, 10))) (numP (numS 1 (textAt fs 2)) (line, colAt fs 3, 4))) (codesP 8 line (colAt fs 4) (textAt fs 3))
/-- Are there too many for one more of a student. -/
def manyQ (ls : List Req) (s : ByteArray) : Bool := decide (400 ≤ ls.length) || (decide (64 ≤ (freshS (studs ls)).length) && decide (¬ 0 ≤ idxS s (studs ls)))
/-- The problem of the record of a request, behind others. -/
def reqP (line : Int) (fs : List Fld) (ls : List Req) : Option Prob :=
  noted (noted (noted (fieldsQ line fs) (decide (0 ≤ idxS (textAt fs 1) (listV (textAt fs 3)).2)) (line, colAt fs 4, 11)) (hasQ ls (textAt fs 0) (textAt fs 1)) (line, 0, 11)) (manyQ ls (textAt fs 0)) (line, 0, 2)
def reqOf (fs : List Fld) : Req := (textAt fs 0, textAt fs 1, (((numE 1 (textAt fs 2)).getD 0 : Nat) : Int), (listV (textAt fs 3)).2)
theorem req_steps {line : Int} {fs : List Fld} {ls : List Req} {k1 k2 k3 k4 nn : Nat} {t0 t1 : ByteArray} {l : List ByteArray} {pr1 pr2 pr3 pr4 pr5 : Option Prob}
    (a1 : k1 = 0 + 1 ∧ t0 = textAt fs 0 ∧ pr1 = if codeB (textAt fs 0) then none else some (line, colAt fs (0 + 1), 10))
    (b1 : pr1 = none → k2 = k1 + 1 ∧ t1 = textAt fs k1 ∧ pr2 = if codeB (textAt fs k1) then none else some (line, colAt fs (k1 + 1), 10)) (b2 : ∀ p, pr1 = some p → pr2 = some p)
    (c1 : pr2 = none → k3 = k2 + 1 ∧ nn = (numE 1 (textAt fs k2)).getD 0 ∧ pr3 = numP (numS 1 (textAt fs k2)) (line, colAt fs (k2 + 1), 4)) (c2 : ∀ p, pr2 = some p → pr3 = some p)
    (d1 : pr3 = none → k4 = k3 + 1 ∧ l = (listV (textAt fs k3)).2 ∧ pr4 = codesP 8 line (colAt fs (k3 + 1)) (textAt fs k3)) (d2 : ∀ p, pr3 = some p → pr4 = some p)
    (h5 : noted pr4 (decide (0 ≤ idxS t1 l)) (line, colAt fs k4, 11) = pr5) :
    noted (noted pr5 (hasQ ls t0 t1) (line, 0, 11)) (manyQ ls t0) (line, 0, 2) = reqP line fs ls ∧ (reqP line fs ls = none → (t0, t1, (nn : Int), l) = reqOf fs) := by
  obtain ⟨rfl, rfl, hp1⟩ := a1
  have bad : ∀ p, pr4 = some p → fieldsQ line fs = some p → noted (noted pr5 (hasQ ls (textAt fs 0) t1) (line, 0, 11)) (manyQ ls (textAt fs 0)) (line, 0, 2) = reqP line fs ls ∧ (reqP line fs ls = none → (textAt fs 0, t1, (nn : Int), l) = reqOf fs) := fun p h1 h2 => by
    subst h5
    unfold reqP
    rw [h1, h2]
    exact ⟨rfl, fun h => by cases h⟩
  unfold fieldsQ at bad
  rw [show (if codeB (textAt fs 0) then none else some (line, colAt fs 1, (10 : Int))) = pr1 from hp1.symm] at bad
  cases h1 : pr1 with
  | some p => rw [h1] at bad; exact bad p (d2 p (c2 p (b2 p h1))) rfl
  | none =>
    obtain ⟨rfl, rfl, hp2⟩ := b1 h1
    rw [show (if codeB (textAt fs 1) then none else some (line, colAt fs 2, (10 : Int))) = pr2 from hp2.symm, h1] at bad
    cases h2 : pr2 with
    | some p => rw [h2] at bad; exact bad p (d2 p (c2 p h2)) rfl
    | none =>
      obtain ⟨rfl, rfl, hp3⟩ := c1 h2
      rw [show numP (numS 1 (textAt fs 2)) (line, colAt fs 3, 4) = pr3 from hp3.symm, h2] at bad
      cases h3 : pr3 with
      | some p => rw [h3] at bad; exact bad p (d2 p h3) rfl
      | none =>
        obtain ⟨rfl, rfl, hp4⟩ := d1 h3
        subst h5
        have hf : fieldsQ line fs = pr4 := by
          unfold fieldsQ
          rw [show (if codeB (textAt fs 0) then none else some (line, colAt fs 1, (10 : Int))) = pr1 from hp1.symm, show (if codeB (textAt fs 1) then none else some (line, colAt fs 2, (10 : Int))) = pr2 from hp2.symm, show numP (numS 1 (textAt fs 2)) (line, colAt fs 3, 4) = pr3 from hp3.symm, h1, h2, h3]
          exact hp4.symm
        unfold reqP
        rw [hf]
        exact ⟨rfl, fun _ => rfl⟩
/-- The place and the error of a request's record. -/
def reqKE (fs : List Fld) (ls : List Req) : Int × Int :=
  if fs.length ≠ 4 then (-1, 9) else
  if codeB (textAt fs 0) = false then (0, 10) else
  if codeB (textAt fs 1) = false then (1, 10) else
  if numS 1 (textAt fs 2) = none then (2, 4) else
  if (shortV (textAt fs 3)).1 ≠ 0 then (3, ((shortV (textAt fs 3)).1 : Int)) else
  if 0 ≤ idxS (textAt fs 1) (shortV (textAt fs 3)).2 then (3, 11) else
  if hasQ ls (textAt fs 0) (textAt fs 1) = true then (-1, 11) else
  if manyQ ls (textAt fs 0) = true then (-1, 2) else (0, 0)
theorem req_ke (line : Int) (fs : List Fld) (ls : List Req) (h4 : fs.length = 4) :
    reqP line fs ls = if (reqKE fs ls).2 = 0 then none else some (line, placeOf fs (reqKE fs ls).1, (reqKE fs ls).2) := by
  have e0 : placeOf fs 0 = colAt fs 1 := rfl
  have e1 : placeOf fs 1 = colAt fs 2 := rfl
  have e2 : placeOf fs 2 = colAt fs 3 := rfl
  have e3 : placeOf fs 3 = colAt fs 4 := rfl
  have e9 : placeOf fs (-1) = 0 := rfl
  have hsk := @short_ok (textAt fs 3)
  unfold reqP fieldsQ reqKE
  rw [short_codes, if_neg (show ¬ fs.length ≠ 4 from fun h => h h4)]
  obtain ⟨s3, hs3⟩ : ∃ s3, shortV (textAt fs 3) = s3 := ⟨_, rfl⟩
  obtain ⟨l3, hl3⟩ : ∃ l3, (listV (textAt fs 3)).2 = l3 := ⟨_, rfl⟩
  rw [hs3, hl3] at hsk
  rw [hs3, hl3]
  cases codeB (textAt fs 0) with
  | false => simp [orP, noted, e0]
  | true =>
    cases codeB (textAt fs 1) with
    | false => simp [orP, noted, e1]
    | true =>
      cases numS 1 (textAt fs 2) with
      | none => simp [orP, noted, numP, e2]
      | some k =>
        by_cases h3 : s3.1 = 0
        · rw [hsk h3]
          by_cases hm : 0 ≤ idxS (textAt fs 1) l3
          · simp [orP, noted, numP, h3, hm, e3]
          · cases hasQ ls (textAt fs 0) (textAt fs 1) with
            | true => simp [orP, noted, numP, h3, hm, e9]
            | false =>
              cases manyQ ls (textAt fs 0) with
              | true => simp [orP, noted, numP, h3, hm, e9]
              | false => simp [orP, noted, numP, h3, hm]
        · simp [orP, noted, numP, h3, e3]
theorem req_step {line : Int} {fs : List Fld} {st : RG Req} :
    gathStep 4 reqP reqOf st (line, fs) = if (reqKE fs st.ls).2 = 0 then ⟨st.ls ++ [reqOf fs], st.lines ++ [line], st.ps⟩ else ⟨st.ls, st.lines, st.ps ++ [(line, placeOf fs (reqKE fs st.ls).1, (reqKE fs st.ls).2)]⟩ :=
  gath_ke (fun h => if_pos h) (fun h => req_ke line fs st.ls h)
theorem req_place (fs : List Fld) (ls : List Req) : (reqKE fs ls).1 < fs.length := by
  unfold reqKE
  by_cases h4 : fs.length = 4
  · rw [if_neg (show ¬ fs.length ≠ 4 from fun h => h h4), h4]
    repeat' split
    all_goals first | decide | exact (show (3 : Int) < ((4 : Nat) : Int) by decide)
  · rw [if_pos h4]
    show (-1 : Int) < _
    omega
def readReq (rs : List Rec) : RG Req := readAll 4 reqP reqOf rs
theorem reqP_len (line : Int) (fs : List Fld) (ls : List Req) (h : reqP line fs ls = none) : ls.length < 400 ∧ (64 ≤ (freshS (studs ls)).length → 0 ≤ idxS (textAt fs 0) (studs ls)) := by
  unfold reqP at h
  have h1 := (noted_none h).2
  unfold manyQ at h1
  simp at h1
  exact ⟨by omega, fun h => by
    by_cases hm : 0 ≤ idxS (textAt fs 0) (studs ls)
    · exact hm
    · have := h1.2 h; exact absurd hm (by omega)⟩
theorem readReq_len (rs : List Rec) : (readReq rs).ls.length ≤ 400 ∧ (readReq rs).lines.length = (readReq rs).ls.length ∧ (readReq rs).ps.length ≤ rs.length := readAll_len (fun line fs ls h => (reqP_len line fs ls h).1) rs
theorem studs_snoc (l : List Req) (x : Req) : studs (l ++ [x]) = studs l ++ [x.1] := by simp [studs]
/-- Never more than 64 students are read. -/
theorem readReq_studs : ∀ rs : List Rec, (freshS (studs (readReq rs).ls)).length ≤ 64 := by
  intro rs
  induction rs using snoc_ind with
  | h0 => simp [readReq, readAll, studs, freshS]
  | h1 rs r ih =>
    obtain ⟨line, fs⟩ := r
    have hst : readReq (rs ++ [(line, fs)]) = gathStep 4 reqP reqOf (readReq rs) (line, fs) := by simp [readReq, readAll, List.foldl_append]
    rw [hst]
    unfold gathStep
    dsimp only
    by_cases h4 : fs.length = 4
    · rw [if_pos h4]
      cases hp : reqP line fs (readReq rs).ls with
      | some p => exact ih
      | none =>
        dsimp only
        have h1 := (reqP_len line fs _ hp).2
        rw [studs_snoc, freshS_snoc]
        split
        · exact ih
        · rename_i hm
          rw [List.length_append]
          have : ¬ 64 ≤ (freshS (studs (readReq rs).ls)).length := fun h => hm (idx_memS.2 ((mem_fresh _ _).2 (idx_memS.1 (h1 h))))
          simp; omega
    · rw [if_neg h4]; exact ih
/-! Students in natural order; what a student wants, by priority. -/
def lessN (a b : ByteArray) : Bool := decide (compareV a.data.toList b.data.toList < 0)
theorem lessN_no (a b : ByteArray) : lessN a b = false ↔ 0 ≤ compareV a.data.toList b.data.toList := by unfold lessN; simp
abbrev ascN (l : List ByteArray) : List ByteArray := ascG lessN ⟨#[]⟩ l
theorem lessN_trans (x y z : ByteArray) (h1 : lessN y x = false) (h2 : lessN z y = false) : lessN z x = false := by
  rw [lessN_no] at *
  have hc := isCmp_compare
  have e1 := hc.neg y.data.toList x.data.toList
  have e2 := hc.neg z.data.toList y.data.toList
  have e3 := hc.neg z.data.toList x.data.toList
  have := hc.tr x.data.toList y.data.toList z.data.toList (by omega) (by omega)
  omega
theorem lessN_of (x y : ByteArray) (h : lessN x y = true) : lessN y x = false := by
  rw [lessN_no]
  unfold lessN at h
  have h := of_decide_eq_true h
  have e := isCmp_compare.neg x.data.toList y.data.toList
  omega
theorem lessN_anti (x y : ByteArray) (h1 : lessN y x = false) (h2 : lessN x y = false) : x = y := by
  rw [lessN_no] at *
  have e := isCmp_compare.neg x.data.toList y.data.toList
  exact met_inj ((compare_zero _ _).1 (by omega))
theorem ascN_sorted (l : List ByteArray) : (ascN l).Pairwise (LeG lessN) := ascG_sorted lessN_trans lessN_of l
theorem ascN_eq {l m : List ByteArray} (hp : m.Perm l) (hm : m.Pairwise (LeG lessN)) : m = ascN l :=
  sorted_eqG lessN_anti (hp.trans (ascG_perm l).symm) hm (ascN_sorted l)
def studsV (l : List Req) : List ByteArray := ascN (freshS (studs l))
def lessQ (a b : Req) : Bool := decide (a.2.2.1 < b.2.2.1)
def zReq : Req := (⟨#[]⟩, ⟨#[]⟩, 0, [])
abbrev ascQ (l : List Req) : List Req := ascG lessQ zReq l
def ofS (s : ByteArray) (l : List Req) : List Req := l.filter fun x => decide (x.1 = s)
def wantV (s : ByteArray) (l : List Req) : List Req := ascQ (ofS s l)
end Go.Proofs.YthejgholpkeldaaGreatDoor
