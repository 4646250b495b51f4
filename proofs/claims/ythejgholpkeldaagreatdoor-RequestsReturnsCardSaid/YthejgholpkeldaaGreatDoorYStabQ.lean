/- Walk of Dice.Spoil: it gives a text of at most one byte more. Conditions: short texts. Walks of Dice.Times and Dice.Staff: what is made, told by bounds. Conditions: the dice's cells; the variable people. Walk of Dice.Staff: lecturers that are made, told by bounds. Conditions: the dice's cells; the variable people. Plain: a list of at most eight codes. No condition. What the document's reading of a room gives, beside the program's (plain). No walk. A map in which codes are noted, as it is read and written. No condition. Walk of slices.ContainsFunc at rooms, with the closure of roomfile.Lines' reading. Conditions: the rooms' cells. What the library's stable sort gives is the order one by one (plain). No walk. -/
import Derived.Test.YthejgholpkeldaaGreatDoorRows
import Derived.WalkKit
import Derived.WalkSpells
import Derived.WalkLawsBesides
import Derived.BigGuardPart
import Derived.Lib.Hide
import Derived.Laws.BitsAllLaws
import Derived.Laws.BitsLemmas
import Derived.Lib.LaidTab
import Derived.Test.YthejgholpkeldaaGreatDoorShelf
import Derived.Lib.ConvBytes
import Derived.Deep.QuietTactic
import Derived.BigQuiet
import Derived.Laws.ResultCell
import Derived.RegionTactic
import Derived.BigRegion
import Derived.Deep.RegionHeld3
import Derived.Deep.DeepCutAuto
import Derived.Lib.SmallJoins
import Derived.Laws.AppendOwn
import Derived.Deep.RegionLaw
import Derived.Deep.RegionLawGrows
import Derived.Test.YthejgholpkeldaaGreatDoorYSameL
import Derived.Test.YthejgholpkeldaaGreatDoorCards
import Derived.Test.YthejgholpkeldaaGreatDoorTie
import Derived.ProofKit
import Derived.OpenShut
import Derived.LaidMore
import Derived.Lay
import Derived.SevenTiedAt
import Derived.Stop.Joined
import Derived.Stop.LaidErr
import Derived.Deep.DeepHandedRow
import Derived.Lib.LaidU8
import Derived.LaidSub
import Derived.Lib.SplitLaws
import Derived.Lib.CountLaws
import Derived.Lib.IndexMore
import Derived.Lib.Split
import Derived.Lib.Join
import Derived.Lib.ItoaNum
import Derived.Deep.Slices
import Derived.Deep.Fields
import Derived.ChangeSame
import Derived.Deep.AppendLies
import Derived.Lib.PathFns
import Derived.Test.YthejgholpkeldaaGreatDoorYPlainA
import Derived.Test.YthejgholpkeldaaGreatDoorShelfS
import Derived.Test.YthejgholpkeldaaGreatDoorShelfT
import Derived.Lib.ItoaLen
import Derived.Lib.AppendIntMem
import Derived.Maps.Range
import Derived.Lib.OwnBridge
import Derived.Sort.OwnSorted
import Derived.Test.YthejgholpkeldaaGreatDoorYFound
import Derived.Sort.Walk0
import Derived.Maps.OwnSet
import Derived.StringKeys
import Derived.Test.YthejgholpkeldaaGreatDoorYCmpC
import Derived.Test.YthejgholpkeldaaGreatDoorYIdxS
import Derived.Test.YthejgholpkeldaaGreatDoorYJoinP
import Derived.Sort.LotA
import Derived.Test.YthejgholpkeldaaGreatDoorYDigT
import Derived.Test.YthejgholpkeldaaGreatDoorYStabP
namespace Go.Proofs.YthejgholpkeldaaGreatDoor
open Go.RowKit
set_option maxRecDepth 100000

theorem DiceOk.far {B C : Nat} {w w' : World} {g : Nat} (h : DiceOk B w g) (hC : g < C) (hb : Below C w w') : DiceOk B w' g := by
  obtain ⟨hB, A, n, c, k, hg, h1, h2, h3⟩ := h
  refine ⟨hB, A, n, c, k, (hb.block g hC).trans hg, h1, h2, fun hn => ?_⟩
  obtain ⟨b, off, hA, hlt, hc⟩ := h3 hn
  refine ⟨b, off, hA, hlt, fun j hj => ?_⟩
  obtain ⟨x, hx⟩ := hc j hj
  exact ⟨x, (hb.cell (p := ⟨b, off + j, none⟩) (by show b < C; omega)).trans hx⟩
theorem Thrown.far {B : Nat} {a b c : World} {g : Nat} (h : Thrown B a g b) (k : Below a.heap.size b c) : Thrown B a g c :=
  ⟨h.lt, h.dice.far h.lt k, ⟨k.os.trans h.only.os, k.tape.trans h.only.tape, k.output.trans h.only.output, Nat.le_trans h.only.size k.size, fun i hi hne => (k.block i hi).trans (h.only.block i hi hne)⟩⟩
end Go.Proofs.YthejgholpkeldaaGreatDoor

namespace Go.Proofs.YthejgholpkeldaaGreatDoor
open Go.RowKit
set_option maxRecDepth 100000

/-- A row grown, or new memory: the dice stay. -/
theorem Thrown.grown {B : Nat} {a b c : World} {g : Nat} {v : Value} (h : Thrown B a g b) (hg : b.grownBy c v.ownBlock) (hv : ∀ y, v.ownBlock = some y → a.heap.size ≤ y) : Thrown B a g c :=
  h.far (Below.grown (Below.refl a.heap.size b) hg h.size hv)
end Go.Proofs.YthejgholpkeldaaGreatDoor

namespace Go.Proofs.YthejgholpkeldaaGreatDoor
open Go.RowKit
set_option maxRecDepth 100000

theorem Own.thrown {α : Type} {K : Kind α} {t : TypeId} {ts : List TypeId} {B B0 C g : Nat} {w w' : World} {v : Value} {l : List α} (h : Own K t ts B0 C w v l) (T : Thrown B w g w') (hg : g < C) (hB : B0 ≤ g) : Own K t ts B0 C w' v l :=
  h.kept T.only (by
    cases hv : v.ownBlock with
    | none => exact .inl rfl
    | some y => exact .inr fun e => by injection e with e; have := (h.lt y hv).1; omega) (fun y hy => by injection hy with hy; subst hy; exact ⟨hB, fun h => by have := h.1; omega⟩)
section
variable {B : Nat} {w1 V V' : World} {g gb pb po pc q : Nat} {z : ByteArray} {d s b m : Int} {u : Value} {ls : List Lect}
end
end Go.Proofs.YthejgholpkeldaaGreatDoor

namespace Go.Proofs.YthejgholpkeldaaGreatDoor
open Go.RowKit
set_option maxRecDepth 100000

/-- A list of at most eight codes. -/
def shortV (s : ByteArray) : Nat × List ByteArray := if (listV s).1 = 0 ∧ 8 < (listV s).2.length then (2, []) else listV s
theorem short_codes (line col : Int) (t : ByteArray) : codesP 8 line col t = if (shortV t).1 = 0 then none else some (line, col, ((shortV t).1 : Int)) := by
  unfold codesP shortV
  obtain ⟨⟨en, l⟩, hlv⟩ : ∃ r, listV t = r := ⟨_, rfl⟩
  rw [hlv]
  dsimp only
  by_cases he : en = 0
  · subst he
    by_cases h8 : 8 < l.length
    · simp [h8, noted]
    · simp [h8, noted]
  · simp [he, noted]
theorem short_ok {t : ByteArray} (h : (shortV t).1 = 0) : (shortV t).2 = (listV t).2 := by
  unfold shortV at h ⊢
  split at h
  · cases h
  · rename_i hh
    rw [if_neg hh]
end Go.Proofs.YthejgholpkeldaaGreatDoor

namespace Go.Proofs.YthejgholpkeldaaGreatDoor
open Go.RowKit
set_option maxRecDepth 100000

/-- One record's step, told by the place and the error that the document's reading gives. -/
theorem gath_ke {α : Type} {n : Nat} {P : Int → List Fld → List α → Option Prob} {f : List Fld → α} {line : Int} {fs : List Fld} {st : RG α} {ke : Int × Int}
    (h1 : fs.length ≠ n → ke = (-1, 9)) (h2 : fs.length = n → P line fs st.ls = if ke.2 = 0 then none else some (line, placeOf fs ke.1, ke.2)) :
    gathStep n P f st (line, fs) = if ke.2 = 0 then ⟨st.ls ++ [f fs], st.lines ++ [line], st.ps⟩ else ⟨st.ls, st.lines, st.ps ++ [(line, placeOf fs ke.1, ke.2)]⟩ := by
  unfold gathStep
  dsimp only
  by_cases hn : fs.length = n
  · rw [if_pos hn, h2 hn]
    by_cases h0 : ke.2 = 0
    · rw [if_pos h0, if_pos h0]
    · rw [if_neg h0, if_neg h0]
  · rw [if_neg hn, h1 hn, if_neg (by decide)]
    rfl
end Go.Proofs.YthejgholpkeldaaGreatDoor

namespace Go.Proofs.YthejgholpkeldaaGreatDoor
open Go.RowKit
set_option maxRecDepth 100000

theorem met_inj {x y : ByteArray} (h : x.data.toList = y.data.toList) : x = y := by
  cases x; cases y
  simp only [ByteArray.mk.injEq]
  exact Array.toList_inj.1 h
end Go.Proofs.YthejgholpkeldaaGreatDoor

namespace Go.Proofs.YthejgholpkeldaaGreatDoor
open Go.RowKit
set_option maxRecDepth 100000

theorem idx_memS {z : ByteArray} {xs : List ByteArray} : 0 ≤ idxS z xs ↔ z ∈ xs := by
  constructor
  · intro h
    apply Classical.byContradiction
    intro hz
    rw [idxS_none (fun y hy => by rw [toList_dataL, toList_dataL]; exact beq_false_of_ne fun e => hz (dat_inj e ▸ hy))] at h
    exact absurd h (by decide)
  · intro hz
    apply Classical.byContradiction
    intro h
    have hall : ∀ n, n ≤ xs.length → ∀ y ∈ xs.take n, (y.toList == z.toList) = false := by
      intro n
      induction n with
      | zero => intro _ y hy; simp at hy
      | succ n ih =>
        intro hn y hy
        have hx : xs[n]? = some xs[n] := List.getElem?_eq_getElem (by omega)
        cases hq : (xs[n].toList == z.toList) with
        | false => exact take_miss hx (ih (by omega)) hq y hy
        | true => rw [idxS_hit hx (ih (by omega)) hq] at h; exact absurd (by omega) h
    have := hall xs.length (Nat.le_refl _) z (by rw [List.take_length]; exact hz)
    simp at this
end Go.Proofs.YthejgholpkeldaaGreatDoor

namespace Go.Proofs.YthejgholpkeldaaGreatDoor
open Go.Sort
set_option maxRecDepth 100000

theorem snoc_ind {α : Type} {P : List α → Prop} (h0 : P []) (h1 : ∀ (l : List α) (x : α), P l → P (l ++ [x])) (l : List α) : P l := by
  have key : ∀ m : List α, P m.reverse := by
    intro m
    induction m with
    | nil => exact h0
    | cons x m ih => rw [List.reverse_cons]; exact h1 _ _ ih
  have := key l.reverse
  rwa [List.reverse_reverse] at this
section
variable {β : Type} {less : β → β → Bool} {dflt : β}
/-- Less by the first part alone. -/
def lessM (less : β → β → Bool) (x y : β × Nat) : Bool := less x.1 y.1
theorem lessM_swo (h : SWO less) : SWO (lessM less) := ⟨fun _ => h.irrefl _, fun _ _ _ => h.trans _ _ _, fun _ _ _ => h.ntrans _ _ _⟩
theorem posG_marks {x : β} {n : Nat} {out : List (β × Nat)} (hm : ∀ y ∈ out, y.2 < n) : ∀ k, k ≤ out.length → posG (marked (lessM less) Prod.snd) (dflt, 0) (x, n) out k = posG less dflt x (out.map Prod.fst) k
  | 0, _ => rfl
  | k + 1, h => by
    have hk : out[k]? = some out[k] := List.getElem?_eq_getElem (by omega)
    have e1 : out.getD k (dflt, 0) = out[k] := by rw [List.getD_eq_getElem?_getD, hk]; rfl
    have e2 : (out.map Prod.fst).getD k dflt = out[k].1 := by rw [List.getD_eq_getElem?_getD, List.getElem?_map, hk]; rfl
    have e3 : marked (lessM less) Prod.snd (x, n) out[k] = less x out[k].1 := (marked_of (lt := lessM less) (tg := Prod.snd) (x := out[k]) (y := (x, n)) (hm _ (List.getElem_mem _))).symm
    rw [posG, posG, e1, e2, e3, posG_marks hm k (by omega)]
theorem ascG_marks (less : β → β → Bool) (dflt : β) (l : List β) : (ascG (marked (lessM less) Prod.snd) (dflt, 0) l.zipIdx).map Prod.fst = ascG less dflt l := by
  induction l using snoc_ind with
  | h0 => rfl
  | h1 l x ih =>
    have e : (l ++ [x]).zipIdx = l.zipIdx ++ [(x, l.length)] := by simp [List.zipIdx_append]
    rw [e, ascG_snoc, ascG_snoc, ← ih]
    obtain ⟨out, ho⟩ : ∃ out, ascG (marked (lessM less) Prod.snd) (dflt, 0) l.zipIdx = out := ⟨_, rfl⟩
    have hm : ∀ y ∈ out, y.2 < l.length := fun y hy => by
      rw [← ho] at hy
      have hy := (ascG_perm l.zipIdx).mem_iff.1 hy
      have := List.mem_zipIdx_iff_getElem?.1 hy
      exact (List.getElem?_eq_some_iff.1 this).1
    rw [ho]
    unfold insG
    rw [posG_marks hm _ (Nat.le_refl _), List.length_map, List.map_append, List.map_take, List.map_cons, List.map_drop]
variable [Inhabited β]
/-- A stable sort of a list puts it in order as one by one. -/
theorem stable_ascG (h : SWO less) (dflt : β) (l : List β) : (stable (lessM less) l.length l.zipIdx.toArray).toList.map Prod.fst = ascG less dflt l := by
  have hT := marked_swo (tg := Prod.snd) (lessM_swo h)
  have hn : l.zipIdx.toArray.size = l.length := by simp
  obtain ⟨P, S⟩ := stable_spec (lt := lessM less) (tg := Prod.snd) (lessM_swo h) l.zipIdx.toArray (fun p q h1 h2 => by
    rw [hn] at h2
    rw [getElem!_pos _ p (by rw [hn]; omega), getElem!_pos _ q (by rw [hn]; omega)]
    simp only [List.getElem_toArray, List.getElem_zipIdx]
    omega)
  rw [hn] at P S
  obtain ⟨m, hm⟩ : ∃ m, (stable (lessM less) l.length l.zipIdx.toArray).toList = m := ⟨_, rfl⟩
  have hml : m.length = l.length := by rw [← hm, Array.length_toList, P.1, hn]
  have hp : m.Perm l.zipIdx := by
    have h3 := P.2.2
    obtain ⟨d', hd'⟩ : ∃ d', stable (lessM less) l.length l.zipIdx.toArray = d' := ⟨_, rfl⟩
    rw [hd'] at h3 hm P
    have e1 : (d'.extract 0 l.length).toList = m := by
      have hz : d'.size = l.length := by rw [P.1, hn]
      rw [← hz, ← hm]; simp
    have e2 : (l.zipIdx.toArray.extract 0 l.length).toList = l.zipIdx := by
      have : ∀ (z : Array (β × Nat)) (k : Nat), z.size = k → (z.extract 0 k).toList = z.toList := fun z k hk => by subst hk; simp
      rw [this _ _ hn]
    rw [e1, e2] at h3
    exact h3
  have hs : m.Pairwise (LeG (marked (lessM less) Prod.snd)) := by
    rw [List.pairwise_iff_getElem]
    intro i j hi hj hij
    have k := S i j (Nat.zero_le _) hij (by omega)
    have hz : ∀ q (hq : q < m.length), (stable (lessM less) l.length l.zipIdx.toArray)[q]! = m[q] := fun q hq => by
      rw [getElem!_pos _ q (by rw [P.1, hn]; omega)]
      subst hm
      simp
    rw [hz i hi, hz j hj] at k
    exact k
  have ho := ascG_sorted (less := marked (lessM less) Prod.snd) (dflt := (dflt, 0)) (fun x y z h1 h2 => hT.ntrans _ _ _ h2 h1) (fun x y h => hT.asymmA h) l.zipIdx
  have hq := ascG_perm (less := marked (lessM less) Prod.snd) (dflt := (dflt, 0)) l.zipIdx
  have e : m = ascG (marked (lessM less) Prod.snd) (dflt, 0) l.zipIdx := List.Perm.eq_of_pairwise (le := LeG (marked (lessM less) Prod.snd)) (fun a b ha hb h1 h2 => by
    have ha := List.mem_zipIdx_iff_getElem?.1 (hp.mem_iff.1 ha)
    have hb := List.mem_zipIdx_iff_getElem?.1 (hq.mem_iff.1 hb)
    obtain ⟨a1, a2⟩ := marked_no.1 h1
    obtain ⟨b1, b2⟩ := marked_no.1 h2
    have i1 := a2 b1
    have i2 := b2 a1
    have : a.2 = b.2 := by omega
    rw [this, hb] at ha
    exact Prod.ext (Option.some.inj ha).symm this) hs ho (hp.trans hq.symm)
  rw [hm, e, ascG_marks]
end
end Go.Proofs.YthejgholpkeldaaGreatDoor
