/- Plain: data put in order one by one, whatever the order; the same in order once only; lists without doubles. No walk. Plain: a number in decimal. No condition. -/
import Derived.Test.YtimcdikeajbabaaGreatDoorRows
import Derived.WalkKit
import Derived.WalkSpells
import Derived.WalkLawsBesides
import Derived.BigGuardPart
import Derived.Lib.Hide
import Derived.Laws.BitsAllLaws
import Derived.Laws.BitsLemmas
import Derived.Lib.LaidTab
import Derived.Test.YtimcdikeajbabaaGreatDoorShelf
import Derived.Lib.ConvBytes
import Derived.Deep.QuietTactic
import Derived.BigQuiet
namespace Go.Proofs.YtimcdikeajbabaaGreatDoor
open Go.RowKit
set_option maxRecDepth 100000

section
variable {α : Type} (less : α → α → Bool) (dflt : α)
/-- Where x goes among the first k. -/
def posG (x : α) (out : List α) : Nat → Nat
  | 0 => 0
  | k + 1 => if less x (out.getD k dflt) = true then posG x out k else k + 1
def insG (out : List α) (x : α) : List α := out.take (posG less dflt x out out.length) ++ x :: out.drop (posG less dflt x out out.length)
def ascG (zs : List α) : List α := zs.foldl (insG less dflt) []
end
section
variable {α : Type} {less : α → α → Bool} {dflt : α}
theorem posG_le (x : α) (out : List α) : ∀ k, posG less dflt x out k ≤ k
  | 0 => Nat.le_refl _
  | k + 1 => by rw [posG]; split; exact Nat.le_trans (posG_le x out k) (Nat.le_succ k); exact Nat.le_refl _
theorem posG_above (x : α) (out : List α) : ∀ k j, posG less dflt x out k ≤ j → j < k → less x (out.getD j dflt) = true
  | 0, j, _, h => by omega
  | k + 1, j, h1, h2 => by
    rw [posG] at h1
    by_cases hl : less x (out.getD k dflt) = true
    · rw [if_pos hl] at h1
      by_cases e : j = k
      · rw [e]; exact hl
      · exact posG_above x out k j h1 (by omega)
    · rw [if_neg hl] at h1; omega
theorem posG_below (x : α) (out : List α) : ∀ k, 0 < posG less dflt x out k → less x (out.getD (posG less dflt x out k - 1) dflt) = false
  | 0, h => by simp [posG] at h
  | k + 1, h => by
    rw [posG] at h ⊢
    by_cases hl : less x (out.getD k dflt) = true
    · rw [if_pos hl] at h ⊢; exact posG_below x out k h
    · rw [if_neg hl] at h ⊢; simpa using hl
theorem insG_len (out : List α) (x : α) : (insG less dflt out x).length = out.length + 1 := by
  unfold insG
  have := posG_le (less := less) (dflt := dflt) x out out.length
  simp only [List.length_append, List.length_take, List.length_cons, List.length_drop]
  omega
theorem ascG_len (zs : List α) : (ascG less dflt zs).length = zs.length := by
  unfold ascG
  have key : ∀ (zs out : List α), (zs.foldl (insG less dflt) out).length = out.length + zs.length := by
    intro zs
    induction zs with
    | nil => intro out; rfl
    | cons z zs ih => intro out; rw [List.foldl_cons, ih, insG_len, List.length_cons]; omega
  simpa using key zs []
theorem ascG_snoc (zs : List α) (x : α) : ascG less dflt (zs ++ [x]) = insG less dflt (ascG less dflt zs) x := by
  unfold ascG
  rw [List.foldl_append]; rfl
theorem ascG_take {zs : List α} {i : Nat} {x : α} (h : zs[i]? = some x) : ascG less dflt (zs.take (i + 1)) = insG less dflt (ascG less dflt (zs.take i)) x := by
  rw [List.take_add_one, h]
  exact ascG_snoc _ _
theorem insG_perm (out : List α) (x : α) : (insG less dflt out x).Perm (x :: out) := by
  unfold insG
  refine List.perm_middle.trans ?_
  rw [List.take_append_drop]
theorem getD_atG {out : List α} {j : Nat} (h : j < out.length) : out.getD j dflt = out[j] := by rw [List.getD_eq_getElem?_getD, List.getElem?_eq_getElem h]; rfl
/-- x does not come behind y. -/
def LeG (less : α → α → Bool) (x y : α) : Prop := less y x = false
theorem insG_sorted (htr : ∀ x y z, less y x = false → less z y = false → less z x = false) (hof : ∀ x y, less x y = true → less y x = false) {out : List α} {x : α} (h : out.Pairwise (LeG less)) : (insG less dflt out x).Pairwise (LeG less) := by
  obtain ⟨k, hk⟩ : ∃ k, posG less dflt x out out.length = k := ⟨_, rfl⟩
  have hkl : k ≤ out.length := by rw [← hk]; exact posG_le _ _ _
  unfold insG
  rw [hk, List.pairwise_append, List.pairwise_cons]
  have hlow : ∀ y ∈ out.take k, LeG less y x := by
    intro y hy
    obtain ⟨j, hj⟩ := List.getElem?_of_mem hy
    rw [List.getElem?_take] at hj
    split at hj
    · rename_i hjk
      obtain ⟨hjl, e⟩ := List.getElem?_eq_some_iff.1 hj
      have hb := posG_below (less := less) (dflt := dflt) x out out.length (by rw [hk]; omega)
      rw [hk, getD_atG (by omega)] at hb
      by_cases e2 : j = k - 1
      · subst e2; rw [← e]; exact hb
      · refine htr y _ x (?_ : LeG less y _) hb
        rw [← e]
        exact List.pairwise_iff_getElem.1 h j (k - 1) hjl (by omega) (by omega)
    · cases hj
  refine ⟨h.sublist (List.take_sublist _ _), ⟨fun y hy => ?_, h.sublist (List.drop_sublist _ _)⟩, fun a ha b hb => ?_⟩
  · obtain ⟨j, hj⟩ := List.getElem?_of_mem hy
    rw [List.getElem?_drop] at hj
    obtain ⟨hjl, e⟩ := List.getElem?_eq_some_iff.1 hj
    have ha := posG_above (less := less) (dflt := dflt) x out out.length (k + j) (by rw [hk]; omega) hjl
    rw [getD_atG hjl, e] at ha
    exact hof _ _ ha
  · rcases List.mem_cons.1 hb with rfl | hb
    · exact hlow a ha
    · rw [← List.take_append_drop k out, List.pairwise_append] at h
      exact h.2.2 a ha b hb
theorem ascG_perm (zs : List α) : (ascG less dflt zs).Perm zs := by
  have key : ∀ (zs out : List α), (zs.foldl (insG less dflt) out).Perm (zs ++ out) := by
    intro zs
    induction zs with
    | nil => intro out; exact List.Perm.refl _
    | cons z zs ih =>
      intro out
      rw [List.foldl_cons]
      refine (ih _).trans ?_
      exact ((insG_perm out z).append_left zs).trans List.perm_middle
  have := key zs []
  rwa [List.append_nil] at this
theorem ascG_sorted (htr : ∀ x y z, less y x = false → less z y = false → less z x = false) (hof : ∀ x y, less x y = true → less y x = false) (zs : List α) : (ascG less dflt zs).Pairwise (LeG less) := by
  have key : ∀ (zs out : List α), out.Pairwise (LeG less) → (zs.foldl (insG less dflt) out).Pairwise (LeG less) := by
    intro zs
    induction zs with
    | nil => intro out h; exact h
    | cons z zs ih => intro out h; rw [List.foldl_cons]; exact ih _ (insG_sorted htr hof h)
  exact key zs [] .nil
/-- Two lists of the same data in order are one, where nothing but itself is level with a datum. -/
theorem sorted_eqG (ha : ∀ x y, less y x = false → less x y = false → x = y) {l m : List α} (hp : l.Perm m) (hl : l.Pairwise (LeG less)) (hm : m.Pairwise (LeG less)) : l = m :=
  List.Perm.eq_of_pairwise (le := LeG less) (fun a b _ _ h1 h2 => ha a b h1 h2) hl hm hp
end
/-! Lists without doubles. -/
section
variable {α : Type} [DecidableEq α] (dflt : α)
/-- The first k differ. -/
def freshTo (l : List α) : Nat → Bool
  | 0 => true
  | k + 1 => freshTo l k && !decide (l.getD k dflt ∈ l.take k)
variable {dflt}
theorem freshTo_false {l : List α} {k : Nat} (h : freshTo dflt l k = false) : ∀ m, k ≤ m → freshTo dflt l m = false
  | 0, hk => by
    have e : k = 0 := by omega
    rw [e] at h; exact h
  | m + 1, hk => by
    by_cases e : k = m + 1
    · rw [← e]; exact h
    · rw [freshTo, freshTo_false h m (by omega), Bool.false_and]
theorem freshTo_iff (l : List α) : ∀ k, k ≤ l.length → (freshTo dflt l k = true ↔ (l.take k).Nodup)
  | 0, _ => by simp [freshTo]
  | k + 1, h => by
    have e : l.take (k + 1) = l.take k ++ [l.getD k dflt] := by
      rw [List.take_add_one, List.getElem?_eq_getElem (by omega), getD_atG (by omega)]; rfl
    rw [freshTo, e, Bool.and_eq_true, freshTo_iff l k (by omega), List.nodup_append]
    simp only [Bool.not_eq_true', decide_eq_false_iff_not, List.nodup_cons, List.not_mem_nil, not_false_eq_true, List.nodup_nil, and_self, List.mem_singleton, true_and]
    constructor
    · rintro ⟨h1, h2⟩
      exact ⟨h1, fun a ha b hb e => h2 (by rw [← hb, ← e]; exact ha)⟩
    · rintro ⟨h1, h2⟩
      exact ⟨h1, fun hm => h2 _ hm _ rfl rfl⟩
theorem freshTo_all (l : List α) : freshTo dflt l l.length = true ↔ l.Nodup := by
  rw [freshTo_iff l l.length (Nat.le_refl _), List.take_length]
/-- Neighbours differ. -/
def nextDiff : List α → Bool
  | [] => true
  | [_] => true
  | a :: b :: r => !decide (a = b) && nextDiff (b :: r)
/-- Where the data stand in order, neighbours differ exactly if all do. -/
theorem nextDiff_iff {R : α → α → Prop} (ha : ∀ x y, R x y → R y x → x = y) : ∀ (l : List α), l.Pairwise R → (nextDiff l = true ↔ l.Nodup)
  | [], _ => by simp [nextDiff]
  | [a], _ => by simp [nextDiff]
  | a :: b :: r, h => by
    have ih := nextDiff_iff ha (b :: r) (List.pairwise_cons.1 h).2
    rw [nextDiff, Bool.and_eq_true, ih, show (a :: b :: r).Nodup ↔ a ∉ b :: r ∧ (b :: r).Nodup from List.nodup_cons]
    simp only [Bool.not_eq_true', decide_eq_false_iff_not]
    constructor
    · rintro ⟨h1, h2⟩
      refine ⟨fun hm => ?_, h2⟩
      rcases List.mem_cons.1 hm with e | hm
      · exact h1 e
      · have hab := (List.pairwise_cons.1 h).1 b (by simp)
        have hba := (List.pairwise_cons.1 (List.pairwise_cons.1 h).2).1 a hm
        exact h1 (ha a b hab hba)
    · rintro ⟨h1, h2⟩
      exact ⟨fun e => h1 (by rw [e]; simp), h2⟩
end
end Go.Proofs.YtimcdikeajbabaaGreatDoor

namespace Go.Proofs.YtimcdikeajbabaaGreatDoor
open Go.RowKit
set_option maxRecDepth 100000

/-- A number in decimal. -/
def decB (n : Nat) : ByteArray := ⟨(Lib.itoa n).toArray⟩
end Go.Proofs.YtimcdikeajbabaaGreatDoor
