/- Plain: texts put in order one by one are the texts sorted; ascending texts. No walk. -/
import Derived.Test.YtnbcaklnpflihaaGreatDoorKRunC
import Derived.Sort.Walk0
namespace Go.Proofs.YtnbcaklnpflihaaGreatDoor
open Go.RowKit
set_option maxRecDepth 100000

/-- x comes before y. -/
def lessS (x y : ByteArray) : Bool := Op.bytesLess x.toList y.toList
theorem lessS_iff (x y : ByteArray) : lessS x y = true ↔ x.data.toList < y.data.toList := by
  unfold lessS
  rw [bytesLess_eq, Lib.toList_data, Lib.toList_data]
  simp
theorem lessS_not {x y : ByteArray} (h : lessS x y = false) : y.data.toList ≤ x.data.toList := by
  refine List.not_lt.1 fun h2 => ?_
  rw [(lessS_iff x y).2 h2] at h
  cases h
/-- Where x goes among the first k. -/
def posS (x : ByteArray) (out : List ByteArray) : Nat → Nat
  | 0 => 0
  | k + 1 => if lessS x (out.getD k ⟨#[]⟩) = true then posS x out k else k + 1
theorem posS_le (x : ByteArray) (out : List ByteArray) : ∀ k, posS x out k ≤ k
  | 0 => Nat.le_refl _
  | k + 1 => by rw [posS]; split; exact Nat.le_trans (posS_le x out k) (Nat.le_succ k); exact Nat.le_refl _
theorem posS_above (x : ByteArray) (out : List ByteArray) : ∀ k j, posS x out k ≤ j → j < k → lessS x (out.getD j ⟨#[]⟩) = true
  | 0, j, _, h => by omega
  | k + 1, j, h1, h2 => by
    rw [posS] at h1
    by_cases hl : lessS x (out.getD k ⟨#[]⟩) = true
    · rw [if_pos hl] at h1
      by_cases e : j = k
      · rw [e]; exact hl
      · exact posS_above x out k j h1 (by omega)
    · rw [if_neg hl] at h1; omega
theorem posS_below (x : ByteArray) (out : List ByteArray) : ∀ k, 0 < posS x out k → lessS x (out.getD (posS x out k - 1) ⟨#[]⟩) = false
  | 0, h => by simp [posS] at h
  | k + 1, h => by
    rw [posS] at h ⊢
    by_cases hl : lessS x (out.getD k ⟨#[]⟩) = true
    · rw [if_pos hl] at h ⊢; exact posS_below x out k h
    · rw [if_neg hl] at h ⊢; simpa using hl
def insS (out : List ByteArray) (x : ByteArray) : List ByteArray := out.take (posS x out out.length) ++ x :: out.drop (posS x out out.length)
def ascS (zs : List ByteArray) : List ByteArray := zs.foldl insS []
theorem insS_len (out : List ByteArray) (x : ByteArray) : (insS out x).length = out.length + 1 := by
  unfold insS
  have := posS_le x out out.length
  simp only [List.length_append, List.length_take, List.length_cons, List.length_drop]
  omega
theorem ascS_len (zs : List ByteArray) : (ascS zs).length = zs.length := by
  unfold ascS
  have key : ∀ (zs out : List ByteArray), (zs.foldl insS out).length = out.length + zs.length := by
    intro zs
    induction zs with
    | nil => intro out; rfl
    | cons z zs ih => intro out; rw [List.foldl_cons, ih, insS_len, List.length_cons]; omega
  simpa using key zs []
abbrev LeS (x y : ByteArray) : Prop := x.data.toList ≤ y.data.toList
theorem insS_perm (out : List ByteArray) (x : ByteArray) : (insS out x).Perm (x :: out) := by
  unfold insS
  refine List.perm_middle.trans ?_
  rw [List.take_append_drop]
theorem getD_at {out : List ByteArray} {j : Nat} (h : j < out.length) : out.getD j ⟨#[]⟩ = out[j] := by rw [List.getD_eq_getElem?_getD, List.getElem?_eq_getElem h]; rfl
theorem insS_sorted {out : List ByteArray} {x : ByteArray} (h : out.Pairwise LeS) : (insS out x).Pairwise LeS := by
  obtain ⟨k, hk⟩ : ∃ k, posS x out out.length = k := ⟨_, rfl⟩
  have hkl : k ≤ out.length := by rw [← hk]; exact posS_le _ _ _
  unfold insS
  rw [hk, List.pairwise_append, List.pairwise_cons]
  have hlow : ∀ y ∈ out.take k, LeS y x := by
    intro y hy
    obtain ⟨j, hj⟩ := List.getElem?_of_mem hy
    rw [List.getElem?_take] at hj
    split at hj
    · rename_i hjk
      obtain ⟨hjl, e⟩ := List.getElem?_eq_some_iff.1 hj
      have hb := posS_below x out out.length (by rw [hk]; omega)
      rw [hk, getD_at (by omega)] at hb
      have h2 := lessS_not hb
      by_cases e2 : j = k - 1
      · subst e2; rw [← e]; exact h2
      · refine List.le_trans (?_ : y.data.toList ≤ _) h2
        rw [← e]
        exact List.pairwise_iff_getElem.1 h j (k - 1) hjl (by omega) (by omega)
    · cases hj
  refine ⟨h.sublist (List.take_sublist _ _), ⟨fun y hy => ?_, h.sublist (List.drop_sublist _ _)⟩, fun a ha b hb => ?_⟩
  · obtain ⟨j, hj⟩ := List.getElem?_of_mem hy
    rw [List.getElem?_drop] at hj
    obtain ⟨hjl, e⟩ := List.getElem?_eq_some_iff.1 hj
    have ha := posS_above x out out.length (k + j) (by rw [hk]; omega) hjl
    rw [getD_at hjl, e] at ha
    exact List.le_of_lt ((lessS_iff x y).1 ha)
  · rcases List.mem_cons.1 hb with rfl | hb
    · exact hlow a ha
    · rw [← List.take_append_drop k out, List.pairwise_append] at h
      exact h.2.2 a ha b hb
theorem ascS_spec (zs : List ByteArray) : (ascS zs).Perm zs ∧ (ascS zs).Pairwise LeS := by
  have key : ∀ (zs out : List ByteArray), out.Pairwise LeS → (zs.foldl insS out).Perm (zs ++ out) ∧ (zs.foldl insS out).Pairwise LeS := by
    intro zs
    induction zs with
    | nil => intro out h; exact ⟨List.Perm.refl _, h⟩
    | cons z zs ih =>
      intro out h
      rw [List.foldl_cons]
      obtain ⟨h1, h2⟩ := ih _ (insS_sorted (x := z) h)
      refine ⟨h1.trans ?_, h2⟩
      exact ((insS_perm out z).append_left zs).trans List.perm_middle
  obtain ⟨h1, h2⟩ := key zs [] .nil
  rw [List.append_nil] at h1
  exact ⟨h1, h2⟩
theorem asc_eq (zs : List ByteArray) : (ascS zs).map (·.data.toList) = (zs.map (·.data.toList)).mergeSort fun x y => decide (x ≤ y) := by
  obtain ⟨h1, h2⟩ := ascS_spec zs
  refine List.Perm.eq_of_pairwise (le := fun x y => x ≤ y) (fun a b _ _ h3 h4 => List.le_antisymm h3 h4) ?_ ?_ ?_
  · exact List.pairwise_map.2 h2
  · have := List.pairwise_mergeSort (le := fun x y : List UInt8 => decide (x ≤ y)) (fun a b c h3 h4 => by simp only [decide_eq_true_eq] at h3 h4 ⊢; exact List.le_trans h3 h4) (fun a b => by simp only [Bool.or_eq_true, decide_eq_true_eq]; exact List.le_total a b) (zs.map (·.data.toList))
    exact this.imp fun h => by simpa using h
  · exact (h1.map _).trans (List.mergeSort_perm _ _).symm
end Go.Proofs.YtnbcaklnpflihaaGreatDoor
