/- Walks of timetableref06.Format and Weekday. The listed variables hold their words. Walks of timetableref06.Weekday and Parse. Conditions: texts shorter than 2^30 bytes; the listed variables hold their words. Walk of timetableref06.Parse. Conditions: texts shorter than 2^30 bytes; the listed variables hold their words. -/
import Derived.Test.YtonpfohhedcjbaaGreatDoorKTgK
import Derived.Test.YtonpfohhedcjbaaGreatDoorKRef5D
import Derived.Test.YtonpfohhedcjbaaGreatDoorKTgF
namespace Go.Proofs.YtonpfohhedcjbaaGreatDoor
open Go.RowKit
set_option maxRecDepth 100000

theorem span_full : ((List.range 21).all fun n => n < 1 || spanN 1 n == 2 ^ n - 1) = true := by decide +kernel
theorem spanN_full {n : Nat} (h1 : 1 ≤ n) (h : n ≤ 20) : spanN 1 n = 2 ^ n - 1 := by
  have := List.all_eq_true.1 span_full n (List.mem_range.2 (by omega))
  have h0 : decide (n < 1) = false := by simp; omega
  rw [h0, Bool.false_or, beq_iff_eq] at this
  exact this
theorem formatL_all {s n : Nat} (h1 : 1 ≤ n) (h : n ≤ 20) (s1 : 1 ≤ s) (hs : s < 2 ^ n) : formatL s n = wAll ↔ s = 2 ^ n - 1 := by
  have hf := spanN_full h1 h
  have hname : formatL (2 ^ n - 1) n = wAll := formatL_name (k := 0) (by unfold nameIdx; rw [if_pos (by show spanN 1 n = _; exact hf)]) (by omega)
  have h2 : 2 ≤ 2 ^ n := by have := Nat.pow_le_pow_right (n := 2) (by omega) h1; simpa using this
  constructor
  · intro e
    have p1 := parse_format h1 h hs (by omega : s ≠ 0)
    have p2 := parse_format (s := 2 ^ n - 1) h1 h (by omega) (by omega)
    rw [e] at p1
    rw [hname, p1] at p2
    exact congrArg Prod.fst p2
  · rintro rfl; exact hname
end Go.Proofs.YtonpfohhedcjbaaGreatDoor

namespace Go.Proofs.YtonpfohhedcjbaaGreatDoor
open Go.RowKit
set_option maxRecDepth 100000

theorem idx_hit (x : ByteArray) : ∀ (zs : List ByteArray) (i k : Nat), (∀ j, j < k → zs[j]? ≠ some x) → zs[k]? = some x → Lib.idxFromS zs x i = ((i + k : Nat) : Int)
  | [], i, k, _, h => by simp at h
  | z :: zs, i, 0, _, h => by
    simp at h
    unfold Lib.idxFromS
    rw [if_pos h]; rfl
  | z :: zs, i, k + 1, hm, h => by
    have h0 := hm 0 (by omega)
    simp at h0 h
    unfold Lib.idxFromS
    rw [if_neg h0, idx_hit x zs (i + 1) k (fun j hj => by have := hm (j + 1) (by omega); simpa using this) h]
    congr 1
    omega
theorem idx_miss (x : ByteArray) : ∀ (zs : List ByteArray) (i : Nat), (∀ j : Nat, zs[j]? ≠ some x) → Lib.idxFromS zs x i = -1
  | [], _, _ => rfl
  | z :: zs, i, hm => by
    have h0 := hm 0
    simp at h0
    unfold Lib.idxFromS
    rw [if_neg h0]
    exact idx_miss x zs (i + 1) (fun j => by have := hm (j + 1); simpa using this)
theorem dayNames_get (k : Nat) (hk : k < 7) : dayNames[k]? = some (dayB k) := by
  match k, hk with
  | 0, _ | 1, _ | 2, _ | 3, _ | 4, _ | 5, _ | 6, _ => rfl
theorem dayI_hit {x : ByteArray} {k : Nat} (hk : k < 7) (hm : ∀ j, j < k → dayB j ≠ x) (h : dayB k = x) : dayI x = (k : Int) := by
  have := idx_hit x dayNames 0 k (fun j hj e => hm j hj (Option.some.inj ((dayNames_get j (by omega)).symm.trans e))) ((dayNames_get k hk).trans (congrArg some h))
  rw [Nat.zero_add] at this
  exact this
theorem dayI_miss {x : ByteArray} (hm : ∀ j, j < 7 → dayB j ≠ x) : dayI x = -1 :=
  idx_miss x dayNames 0 (fun j e => by
    by_cases hj : j < 7
    · exact hm j hj (Option.some.inj ((dayNames_get j hj).symm.trans e))
    · rw [List.getElem?_eq_none (by show 7 ≤ j; omega)] at e; cases e)
theorem toList_inj {a b : ByteArray} : (a.toList == b.toList) = decide (a = b) := by
  rw [Bool.eq_iff_iff, beq_iff_eq, decide_eq_true_eq, Lib.toList_data, Lib.toList_data]
  constructor
  · intro h; apply ByteArray.ext; exact Array.toList_inj.1 h
  · rintro rfl; rfl
end Go.Proofs.YtonpfohhedcjbaaGreatDoor

namespace Go.Proofs.YtonpfohhedcjbaaGreatDoor
open Go.RowKit
set_option maxRecDepth 100000

/-- The error of a text cut at its spaces. -/
def cutE (d sl : Int) (a b c : List UInt8) (two three four : Bool) : Int :=
  if two = false ∨ four = true ∨ (three = true ∧ c = []) ∨ dayI ⟨a.toArray⟩ < 0 ∨ slotsOk b = false then 4 else if d ≤ dayI ⟨a.toArray⟩ ∨ sl < slotsTo b ∨ slotsTo b < slotsFrom b then 14 else 0
def cutT (d sl bg m n : Int) (a b c : List UInt8) (two three four : Bool) : Int × Int × Int × Int × Int :=
  if weekB d sl bg m n = false then (0, 0, 0, 0, 1) else
  if cutE d sl a b c two three four ≠ 0 then (0, 0, 0, 0, cutE d sl a b c two three four) else
  if three = true then (if (parseV ⟨c.toArray⟩ n).2 = 0 then ((parseV ⟨c.toArray⟩ n).1, dayI ⟨a.toArray⟩, slotsFrom b - 1, slotsTo b - slotsFrom b + 1, 0) else (0, 0, 0, 0, (parseV ⟨c.toArray⟩ n).2))
  else (2 ^ n.toNat - 1, dayI ⟨a.toArray⟩, slotsFrom b - 1, slotsTo b - slotsFrom b + 1, 0)
theorem ba_of (x : ByteArray) : (⟨x.data.toList.toArray⟩ : ByteArray) = x := by apply ByteArray.ext; simp
theorem size_zero {c : List UInt8} : (⟨c.toArray⟩ : ByteArray).size = 0 ↔ c = [] := by
  show c.toArray.size = 0 ↔ c = []
  rw [List.size_toArray]; exact List.length_eq_zero_iff
/-- Cutting at the spaces one after another comes to what splitting does. -/
theorem cut_parse {d sl bg m n : Int} {s : ByteArray} {a r b c p q : List UInt8} {two three four : Bool} (h1 : cut1 32 s.data.toList = (a, r, two)) (h2 : cut1 32 r = (b, c, three)) (h3 : cut1 32 c = (p, q, four)) :
    cutT d sl bg m n a b c two three four = parseT d sl bg m n (Lib.splitB ⟨#[32]⟩ 0 (Lib.countB s ⟨#[32]⟩) s) := by
  unfold cutT
  cases hw : weekB d sl bg m n
  · rw [if_pos rfl, show ∀ zs, parseT d sl bg m n zs = (0, 0, 0, 0, 1) from fun zs => if_pos hw]
  rw [if_neg (by simp)]
  have e1 : splitOn1 32 s.data.toList = if two then a :: splitOn1 32 r else [s.data.toList] := by rw [splitOn1_cut, h1]
  have e2 : splitOn1 32 r = if three then b :: splitOn1 32 c else [r] := by rw [splitOn1_cut, h2]
  have e3 : splitOn1 32 c = if four then p :: splitOn1 32 q else [c] := by rw [splitOn1_cut, h3]
  cases two with
  | false =>
    rw [split_text s [s] (by rw [e1]; rfl)]
    rw [show cutE d sl a b c false three four = 4 from if_pos (Or.inl rfl), if_pos (by decide)]
    simp [parseT, hw]
  | true =>
    cases three with
    | false =>
      obtain ⟨f1, f2, -⟩ := cut1_none 32 r (by rw [h2])
      rw [h2] at f1 f2
      have f1 : b = r := f1
      have f2 : c = [] := f2
      subst f1 f2
      have h4 : four = false := by have : cut1 32 [] = ([], [], false) := rfl; rw [this] at h3; exact (congrArg (·.2.2) h3).symm
      subst h4
      rw [split_text s [⟨a.toArray⟩, ⟨b.toArray⟩] (by rw [e1, e2]; rfl)]
      have hE : cutE d sl a b [] true false false = slotE d sl ⟨a.toArray⟩ ⟨b.toArray⟩ ⟨b.toArray⟩ := by
        by_cases hd : dayI ⟨a.toArray⟩ < 0
        · exact (if_pos (by simp [hd])).trans (if_pos (Or.inl hd)).symm
        · cases ho : slotsOk b
          · exact (if_pos (by simp [ho])).trans (if_pos (Or.inr (Or.inl ho))).symm
          · have hz := slotsOk_size (y := ⟨b.toArray⟩) ho
            have hL : cutE d sl a b [] true false false = if d ≤ dayI ⟨a.toArray⟩ ∨ sl < slotsTo b ∨ slotsTo b < slotsFrom b then 14 else 0 := if_neg (by simp [hd, ho])
            have hR : slotE d sl ⟨a.toArray⟩ ⟨b.toArray⟩ ⟨b.toArray⟩ = if d ≤ dayI ⟨a.toArray⟩ ∨ slotsTo b < slotsFrom b ∨ sl < slotsTo b then 14 else 0 := if_neg (by
              rintro (h | h | h)
              · exact hd h
              · exact absurd (ho.symm.trans h) (by simp)
              · exact hz h)
            rw [hL, hR]
            by_cases hc : d ≤ dayI ⟨a.toArray⟩ ∨ sl < slotsTo b ∨ slotsTo b < slotsFrom b
            · rw [if_pos hc, if_pos (by omega)]
            · rw [if_neg hc, if_neg (by omega)]
      rw [hE]
      by_cases he : slotE d sl ⟨a.toArray⟩ ⟨b.toArray⟩ ⟨b.toArray⟩ = 0
      · rw [parseT2_ok hw he, if_neg (by simp [he]), if_neg (by simp)]
      · rw [parseT2_err hw rfl he, if_pos he]
    | true =>
      cases four with
      | true =>
        have hz := splitOn1_ne 32 q
        cases hq : splitOn1 32 q with
        | nil => exact absurd hq hz
        | cons u v =>
          rw [split_text s (⟨a.toArray⟩ :: ⟨b.toArray⟩ :: ⟨p.toArray⟩ :: ⟨u.toArray⟩ :: v.map fun x => ⟨x.toArray⟩) (by
            rw [e1, e2, e3, hq]
            simp [Function.comp_def])]
          rw [show cutE d sl a b c true true true = 4 from if_pos (by simp), if_pos (by decide)]
          simp [parseT, hw]
      | false =>
        rw [split_text s [⟨a.toArray⟩, ⟨b.toArray⟩, ⟨c.toArray⟩] (by rw [e1, e2, e3]; rfl)]
        have hE : cutE d sl a b c true true false = slotE d sl ⟨a.toArray⟩ ⟨b.toArray⟩ ⟨c.toArray⟩ := by
          by_cases hd : dayI ⟨a.toArray⟩ < 0 ∨ slotsOk b = false ∨ c = []
          · refine (if_pos ?_).trans (if_pos ?_).symm
            · rcases hd with h | h | h
              · exact Or.inr (Or.inr (Or.inr (Or.inl h)))
              · exact Or.inr (Or.inr (Or.inr (Or.inr h)))
              · exact Or.inr (Or.inr (Or.inl ⟨rfl, h⟩))
            · rcases hd with h | h | h
              · exact Or.inl h
              · exact Or.inr (Or.inl h)
              · exact Or.inr (Or.inr (size_zero.2 h))
          · have hL : cutE d sl a b c true true false = if d ≤ dayI ⟨a.toArray⟩ ∨ sl < slotsTo b ∨ slotsTo b < slotsFrom b then 14 else 0 := if_neg (by
              rintro (h | h | ⟨-, h⟩ | h | h)
              · cases h
              · cases h
              · exact hd (Or.inr (Or.inr h))
              · exact hd (Or.inl h)
              · exact hd (Or.inr (Or.inl h)))
            have hR : slotE d sl ⟨a.toArray⟩ ⟨b.toArray⟩ ⟨c.toArray⟩ = if d ≤ dayI ⟨a.toArray⟩ ∨ slotsTo b < slotsFrom b ∨ sl < slotsTo b then 14 else 0 := if_neg (by
              rintro (h | h | h)
              · exact hd (Or.inl h)
              · exact hd (Or.inr (Or.inl h))
              · exact hd (Or.inr (Or.inr (size_zero.1 h))))
            rw [hL, hR]
            by_cases hc : d ≤ dayI ⟨a.toArray⟩ ∨ sl < slotsTo b ∨ slotsTo b < slotsFrom b
            · rw [if_pos hc, if_pos (by omega)]
            · rw [if_neg hc, if_neg (by omega)]
        rw [hE]
        by_cases he : slotE d sl ⟨a.toArray⟩ ⟨b.toArray⟩ ⟨c.toArray⟩ = 0
        · rw [if_neg (by simp [he]), if_pos rfl]
          by_cases hp : (parseV ⟨c.toArray⟩ n).2 = 0
          · rw [parseT3_ok hw he hp, if_pos hp]
          · rw [parseT3_err2 hw he hp, if_neg hp]
        · rw [parseT3_err hw rfl he, if_pos he]

theorem slots_eq {b x y : List UInt8} {both : Bool} (h : cut1 45 b = (x, y, both)) : slotsFrom b = numV x ∧ slotsTo b = numV (if both then y else x) ∧ slotsOk b = (decide (numV x ≠ 0) && decide (numV (if both then y else x) ≠ 0)) := by
  unfold slotsFrom slotsTo slotsOk slotsZ
  rw [cut_eq, h, numOk_iff, numOk_iff]
  exact ⟨rfl, rfl, rfl⟩
end Go.Proofs.YtonpfohhedcjbaaGreatDoor
