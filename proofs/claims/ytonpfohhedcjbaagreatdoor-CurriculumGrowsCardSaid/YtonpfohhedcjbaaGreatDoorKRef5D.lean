/- Walks of package timetableref05: the functions of numbers and of texts. Conditions: texts shorter than 2^30 bytes. Walks of package timetableref05, on: numbers in decimal, cutting, small numbers. Conditions: texts shorter than 2^30 bytes. Walks of package timetableref05, on: item, Parse. Conditions: texts shorter than 2^30 bytes; the variable words holds its five words. Walk of timetableref05.Format. The variable words holds its five words. -/
import Derived.Test.YtonpfohhedcjbaaGreatDoorKRuns
import Derived.Lib.PathFns
import Derived.Lib.ConvBytes
import Derived.Test.YtonpfohhedcjbaaGreatDoorKWsF
namespace Go.Proofs.YtonpfohhedcjbaaGreatDoor
open Go.RowKit

/-- Is week i + 1 in the k-th named set of n weeks. -/
def nameP (n : Nat) : Nat → Nat → Bool
  | 0, _ => true
  | 1, i => decide ((i + 1) % 2 = 1)
  | 2, i => decide ((i + 1) % 2 = 0)
  | 3, i => decide (i + 1 ≤ (n + 1) / 2)
  | _, i => decide ((n + 1) / 2 < i + 1)
theorem maskTo_cut (p : Nat → Bool) (h : Nat) : ∀ n, h ≤ n → maskTo (fun i => decide (i + 1 ≤ h) && p i) n = maskTo p h := by
  intro n hn
  apply Nat.eq_of_testBit_eq
  intro i
  rw [maskTo_bit, maskTo_bit]
  by_cases e : i < h
  · simp [e, show i < n from by omega, show i + 1 ≤ h from by omega]
  · simp [e, show ¬ i + 1 ≤ h from by omega]
theorem named_eq (n k : Nat) (h1 : 1 ≤ n) (hk : k < 5) : maskTo (nameP n k) n = wordVal n k := by
  match k, hk with
  | 0, _ => exact maskTo_congr fun i _ => by simp [nameP, spanP]
  | 1, _ => exact maskTo_congr fun i _ => by simp only [nameP, everyP]; rw [Bool.eq_iff_iff]; simp only [Bool.and_eq_true, decide_eq_true_eq]; omega
  | 2, _ => exact maskTo_congr fun i _ => by simp only [nameP, everyP]; rw [Bool.eq_iff_iff]; simp only [Bool.and_eq_true, decide_eq_true_eq]; omega
  | 3, _ =>
    show _ = maskTo (spanP 1) ((n + 1) / 2)
    rw [← maskTo_cut (spanP 1) ((n + 1) / 2) n (by omega)]
    exact maskTo_congr fun i _ => by simp [nameP, spanP]
  | 4, _ => exact maskTo_congr fun i _ => by simp only [nameP, spanP]; rw [decide_eq_decide]; omega
end Go.Proofs.YtonpfohhedcjbaaGreatDoor

namespace Go.Proofs.YtonpfohhedcjbaaGreatDoor
open Go.RowKit
set_option maxRecDepth 100000

theorem numV_1 (a : UInt8) : numV [a] = if 49 ≤ a.toNat ∧ a.toNat ≤ 57 then a.toNat - 48 else 0 := by
  simp only [numV, numL]; split <;> rfl
theorem numV_2 (a b : UInt8) : numV [a, b] = if 49 ≤ a.toNat ∧ a.toNat ≤ 57 ∧ 48 ≤ b.toNat ∧ b.toNat ≤ 57 then 10 * (a.toNat - 48) + (b.toNat - 48) else 0 := by
  simp only [numV, numL]; split <;> rfl
theorem numV_other {l : List UInt8} (h : l.length < 1 ∨ 2 < l.length) : numV l = 0 := by
  match l, h with
  | [], _ => rfl
  | [_], h => simp at h
  | [_, _], h => simp at h
  | _ :: _ :: _ :: _, _ => rfl
end Go.Proofs.YtonpfohhedcjbaaGreatDoor

namespace Go.Proofs.YtonpfohhedcjbaaGreatDoor
open Go.RowKit
set_option maxRecDepth 100000

theorem word_hit' (s : ByteArray) (k : Nat) (hk : k < 5) (h : wordIdx s.data.toList = k) : (s.toList == wordName k) = true := by
  have := word_hit s k hk h
  rw [beq_iff_eq] at this ⊢
  exact this.symm
theorem word_miss' (s : ByteArray) (k : Nat) (h : k < wordIdx s.data.toList) : (s.toList == wordName k) = false := by
  have := word_miss s k h
  rw [beq_eq_false_iff_ne] at this ⊢
  exact fun e => this e.symm
theorem numOk_iff (l : List UInt8) : numOk l = decide (numV l ≠ 0) := by
  unfold numOk numV
  cases h : numL l with
  | none => rfl
  | some n => have := numL_parts h; simp; omega
theorem numV_le (l : List UInt8) : numV l ≤ 99 := by
  unfold numV
  cases h : numL l with
  | none => simp
  | some n => have := numL_parts h; simp; omega
/-- What itemR comes to, in terms of the two numbers. -/
theorem itemR_ways (x z : List UInt8) (n : Nat) : (numV x = 0 ∧ itemR x z n = (0, 4)) ∨ (numV x ≠ 0 ∧ numV z = 0 ∧ itemR x z n = (0, 4)) ∨
    (1 ≤ numV x ∧ 1 ≤ numV z ∧ (n < numV x ∨ n < numV z ∨ numV z < numV x) ∧ itemR x z n = (0, 3)) ∨
    (1 ≤ numV x ∧ 1 ≤ numV z ∧ numV x ≤ n ∧ numV z ≤ n ∧ numV x ≤ numV z ∧ itemR x z n = (spanN (numV x) (numV z), 0)) := by
  unfold itemR
  rw [numOk_iff, numOk_iff]
  by_cases h1 : numV x = 0
  · exact Or.inl ⟨h1, by rw [if_pos (by simp [h1])]⟩
  · by_cases h2 : numV z = 0
    · exact Or.inr (Or.inl ⟨h1, h2, by rw [if_pos (by simp [h2])]⟩)
    · rw [if_neg (by simp [h1, h2])]
      by_cases h3 : n < numV x ∨ n < numV z ∨ numV z < numV x
      · exact Or.inr (Or.inr (Or.inl ⟨by omega, by omega, h3, if_pos h3⟩))
      · exact Or.inr (Or.inr (Or.inr ⟨by omega, by omega, by omega, by omega, by omega, if_neg h3⟩))

/-- What is still to come of a text. -/
def remV (n : Nat) (r : List UInt8) (more : Bool) (acc : Nat) : Nat × Nat := if more then itemsV n (splitOn1 44 r) acc else itemsV n [] acc
def moreM (s m : Value) : Nat := match s, m with
  | .string b, .bool true => b.size + 1
  | _, _ => 0
theorem remV_step {n : Nat} {r x y : List UInt8} {t : Bool} (hc : cut1 44 r = (x, y, t)) (acc : Nat) : remV n r true acc = if (itemV x n).2 = 0 then remV n y t (acc ||| (itemV x n).1) else (0, (itemV x n).2) := by
  have h1 : remV n r true acc = itemsV n (splitOn1 44 r) acc := rfl
  rw [h1, splitOn1_cut, hc]
  cases t with
  | true => exact itemsV_cons n x _ acc
  | false =>
    obtain ⟨h2, -, -⟩ := cut1_none 44 r (by rw [hc])
    rw [hc] at h2
    have h2 : x = r := h2
    subst h2
    exact itemsV_cons n x [] acc
theorem cut1_len {c : UInt8} {r x y : List UInt8} {t : Bool} (hc : cut1 c r = (x, y, t)) : x.length ≤ r.length ∧ y.length ≤ r.length ∧ (t = true → y.length < r.length) := by
  cases t with
  | true =>
    have h := cut1_split c r (by rw [hc])
    rw [hc] at h
    have h := congrArg List.length h
    simp at h
    exact ⟨by omega, by omega, fun _ => by omega⟩
  | false =>
    obtain ⟨h1, h2, -⟩ := cut1_none c r (by rw [hc])
    rw [hc] at h1 h2
    have h1 : x = r := h1
    have h2 : y = [] := h2
    subst h1 h2
    exact ⟨Nat.le_refl _, by simp, fun h => by cases h⟩
end Go.Proofs.YtonpfohhedcjbaaGreatDoor

namespace Go.Proofs.YtonpfohhedcjbaaGreatDoor
open Go.RowKit
set_option maxRecDepth 100000

theorem join_snoc (c : UInt8) (x : List UInt8) : ∀ (xs : List (List UInt8)), Lib.join (xs ++ [x]) [c] = if xs = [] then x else Lib.join xs [c] ++ c :: x
  | [] => by simp [Lib.join_one]
  | y :: r => by
    rw [if_neg (by simp), ← join_two (y :: r) [x] c (by simp) (by simp), Lib.join_one]
theorem dec2_ne (k : Nat) : dec2 k ≠ [] := by unfold dec2; split <;> simp
theorem runT_ne (r : Nat × Nat) : runT r ≠ [] := by
  unfold runT
  split
  · exact dec2_ne _
  · simp
theorem join_ne {xs : List (List UInt8)} (h : ∀ x ∈ xs, x ≠ []) (hx : xs ≠ []) : Lib.join xs [44] ≠ [] := by
  match xs, hx with
  | [x], _ => rw [Lib.join_one]; exact h x (by simp)
  | x :: y :: r, _ =>
    have : Lib.join (x :: y :: r) [44] = x ++ 44 :: Lib.join (y :: r) [44] := by simp [Lib.join, List.intercalate]
    rw [this]; simp
theorem runs_take1 {p : Nat → Bool} {n w : Nat} (h : w ≤ n) (e : runE p n w ≠ w) : runs p n w = (w, runE p n w - 1) :: runs p n (runE p n w) := by
  obtain ⟨f1, f2, -, f4⟩ := runE_facts p n _ w (Nat.le_refl _) (by omega)
  rw [runs_take h e]
  congr 1
  by_cases hE : runE p n w ≤ n
  · exact (runs_skip hE (runE_stop (by rw [f4 hE]; simp))).symm
  · rw [runs_done (by omega), runs_done (by omega)]
theorem str_eq {a : ByteArray} {l : List UInt8} (h : a.data.toList = l) : Value.string a = Value.string ⟨l.toArray⟩ := by
  subst h; rfl
end Go.Proofs.YtonpfohhedcjbaaGreatDoor
