/- Walks of package weekset, on: items. Conditions: n from 1 to 20, texts shorter than 2^30 bytes. -/
import Derived.Test.YtonpfohhedcjbaaGreatDoorKWsB
namespace Go.Proofs.YtonpfohhedcjbaaGreatDoor
open Go.RowKit

def wAll : List UInt8 := [97, 108, 108]
def wOdd : List UInt8 := [111, 100, 100]
def wEven : List UInt8 := [101, 118, 101, 110]
def wFirst : List UInt8 := [102, 105, 114, 115, 116]
def wSecond : List UInt8 := [115, 101, 99, 111, 110, 100]
/-- The k-th word and its set. -/
def wordName : Nat → List UInt8
  | 0 => wAll | 1 => wOdd | 2 => wEven | 3 => wFirst | _ => wSecond
def wordVal (n : Nat) : Nat → Nat
  | 0 => spanN 1 n | 1 => everyN 1 n | 2 => everyN 2 n | 3 => spanN 1 ((n + 1) / 2) | _ => spanN ((n + 1) / 2 + 1) n
/-- Which word a text is; 5: none. -/
def wordIdx (l : List UInt8) : Nat := if l = wAll then 0 else if l = wOdd then 1 else if l = wEven then 2 else if l = wFirst then 3 else if l = wSecond then 4 else 5
theorem wordIdx_le (l : List UInt8) : wordIdx l ≤ 5 := by unfold wordIdx; repeat (first | omega | split)
theorem word_hit (s : ByteArray) (k : Nat) (hk : k < 5) (h : wordIdx s.data.toList = k) : (wordName k == s.toList) = true := by
  rw [Lib.toList_data, beq_iff_eq]
  subst h
  unfold wordIdx at hk ⊢
  by_cases h0 : s.data.toList = wAll
  · rw [if_pos h0]; exact h0.symm
  rw [if_neg h0]
  by_cases h1 : s.data.toList = wOdd
  · rw [if_pos h1]; exact h1.symm
  rw [if_neg h1]
  by_cases h2 : s.data.toList = wEven
  · rw [if_pos h2]; exact h2.symm
  rw [if_neg h2]
  by_cases h3 : s.data.toList = wFirst
  · rw [if_pos h3]; exact h3.symm
  rw [if_neg h3]
  by_cases h4 : s.data.toList = wSecond
  · rw [if_pos h4]; exact h4.symm
  rw [if_neg h0, if_neg h1, if_neg h2, if_neg h3, if_neg h4] at hk
  omega
theorem word_cells (n k : Nat) (hk : k < 5) : (wordCells n)[k * 2]? = some (.string ⟨(wordName k).toArray⟩) ∧ (wordCells n)[k * 2 + 1]? = some (.int .i64 (wordVal n k)) := by
  match k, hk with
  | 0, _ | 1, _ | 2, _ | 3, _ | 4, _ => exact ⟨rfl, rfl⟩
theorem word_miss (s : ByteArray) (k : Nat) (h : k < wordIdx s.data.toList) : (wordName k == s.toList) = false := by
  rw [Lib.toList_data, beq_eq_false_iff_ne]
  rintro e
  rw [← e] at h
  match k with
  | 0 => revert h; decide
  | 1 => revert h; decide
  | 2 => revert h; decide
  | 3 => revert h; decide
  | k + 4 => 
    have : wordIdx (wordName (k + 4)) = 4 := by show wordIdx wSecond = 4; decide
    omega

/-- strings.Cut, with its results named. -/
theorem cut_walk (s sep : ByteArray) (x y : List UInt8) (t : Bool) (hs : s.size < 4294967281) (w : World) (hS : Std w) (hc : Lib.cut s.data.toList sep.data.toList = (x, y, t)) :
    Calls Tryz.prog 85 #[.string s, .string sep] w fun e w' => e = .returned (.tuple #[.string ⟨x.toArray⟩, .string ⟨y.toArray⟩, .bool t]) ∧ Below w.heap.size w w' := by
  obtain ⟨m, hm⟩ := hS.maxLen
  refine (Tryz.strings_Cut s sep m w hs hm).mono fun e w' ⟨he, n, hn⟩ => ?_
  subst hn
  rw [hc] at he
  exact ⟨he, below_drewN (Below.refl _ _) _⟩
/-- A number, read or not. -/
def numV (l : List UInt8) : Nat := (numL l).getD 0
def numOk (l : List UInt8) : Bool := (numL l).isSome
-- <numany>
/-- A range of two numbers: a set, and an error (0: none). -/
def itemR (x z : List UInt8) (n : Nat) : Nat × Nat :=
  if numOk x = false ∨ numOk z = false then (0, 4) else
  if n < numV x ∨ n < numV z ∨ numV z < numV x then (0, 3) else (spanN (numV x) (numV z), 0)
/-- What an item is: a set, and an error (0: none). -/
def itemV (l : List UInt8) (n : Nat) : Nat × Nat :=
  if wordIdx l < 5 then (wordVal n (wordIdx l), 0) else itemR (Lib.cut l [45]).1 (if (Lib.cut l [45]).2.2 then (Lib.cut l [45]).2.1 else (Lib.cut l [45]).1) n
theorem numV_pos {l : List UInt8} (h : numOk l = true) : 1 ≤ numV l ∧ numV l ≤ 99 := by
  unfold numOk at h; unfold numV
  cases hl : numL l with
  | none => simp [hl] at h
  | some n => have := numL_parts hl; simpa using ⟨this.2.2.1, this.2.2.2.1⟩

end Go.Proofs.YtonpfohhedcjbaaGreatDoor
