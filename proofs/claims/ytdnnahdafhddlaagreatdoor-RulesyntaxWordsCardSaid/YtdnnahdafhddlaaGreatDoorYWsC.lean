/- Walks of package weekset, on: numbers, items. Walks of package weekset, on: items. Conditions: n from 1 to 20, texts shorter than 2^30 bytes. -/
import Derived.Lib.SmallJoins
import Derived.Test.YtdnnahdafhddlaaGreatDoorYWs
namespace Go.Proofs.YtdnnahdafhddlaaGreatDoor
open Go.RowKit

/-- The number that a text of one or two digits reads as (the first not 0); none for all others. -/
def numL : List UInt8 → Option Nat
  | [a] => if 49 ≤ a.toNat ∧ a.toNat ≤ 57 then some (a.toNat - 48) else none
  | [a, b] => if 49 ≤ a.toNat ∧ a.toNat ≤ 57 ∧ 48 ≤ b.toNat ∧ b.toNat ≤ 57 then some (10 * (a.toNat - 48) + (b.toNat - 48)) else none
  | _ => none
theorem numL_parts {l : List UInt8} {n : Nat} (h : numL l = some n) : l.length ≤ 2 ∧ (∃ a, l[0]? = some a ∧ 49 ≤ a.toNat ∧ a.toNat ≤ 57) ∧ 1 ≤ n ∧ n ≤ 99 ∧ Lib.atoi l = some (n : Int) := by
  match l, h with
  | [a], h =>
    simp only [numL] at h
    split at h
    · rename_i hd
      obtain rfl := Option.some.inj h
      have h43 : ¬ a = 43 := by rintro rfl; revert hd; decide
      have h45 : ¬ a = 45 := by rintro rfl; revert hd; decide
      have hv : Lib.digitVal a = some (a.toNat - 48) := by rw [Lib.digitVal, if_pos (by omega)]
      refine ⟨by simp, ⟨a, rfl, hd.1, hd.2⟩, by omega, by omega, ?_⟩
      simp [Lib.atoi, h43, h45, Lib.decNat, Lib.decFrom, hv]
    · cases h
  | [a, b], h =>
    simp only [numL] at h
    split at h
    · rename_i hd
      obtain rfl := Option.some.inj h
      have h43 : ¬ a = 43 := by rintro rfl; revert hd; simp
      have h45 : ¬ a = 45 := by rintro rfl; revert hd; simp
      have hv : Lib.digitVal a = some (a.toNat - 48) := by rw [Lib.digitVal, if_pos (by omega)]
      have hw : Lib.digitVal b = some (b.toNat - 48) := by rw [Lib.digitVal, if_pos (by omega)]
      refine ⟨by simp, ⟨a, rfl, hd.1, hd.2.1⟩, by omega, by omega, ?_⟩
      simp [Lib.atoi, h43, h45, Lib.decNat, Lib.decFrom, hv, hw]
      omega
    · cases h
  | [], h => simp [numL] at h
  | _ :: _ :: _ :: _, h => simp [numL] at h
theorem atoi_none {l : List UInt8} (hl : l.length ≤ 2) (a : UInt8) (ha : l[0]? = some a) (h1 : 49 ≤ a.toNat) (h2 : a.toNat ≤ 57) (h : numL l = none) : Lib.atoi l = none := by
  match l, hl, ha, h with
  | [x], _, ha, h =>
    obtain rfl : x = a := by simpa using ha
    simp [numL, h1, h2] at h
  | [x, b], _, ha, h =>
    obtain rfl : x = a := by simpa using ha
    have h43 : ¬ x = 43 := by rintro rfl; revert h1; decide
    have h45 : ¬ x = 45 := by rintro rfl; revert h1; decide
    have hv : Lib.digitVal x = some (x.toNat - 48) := by rw [Lib.digitVal, if_pos (by omega)]
    have hw : Lib.digitVal b = none := by
      rw [Lib.digitVal, if_neg]
      intro hb
      simp [numL, h1, h2, hb] at h
    simp [Lib.atoi, h43, h45, Lib.decNat, Lib.decFrom, hv, hw]
theorem ba_at0 (s : ByteArray) (h : 0 < s.size) : s.data.toList[0]? = some s[0] := by
  have h' : 0 < s.data.toList.length := by simpa using h
  rw [List.getElem?_eq_getElem h']; rfl
theorem ba_len (s : ByteArray) : s.data.toList.length = s.size := by simp

-- <number>
set_option maxHeartbeats 400000 in
theorem number_yes (s : ByteArray) (n : Nat) (h : numL s.data.toList = some n) (w : World) :
    Calls Tryz.prog 206 #[.string s] w fun e w' => e = .returned (.tuple #[.int .i64 n, .bool true]) ∧ Below w.heap.size w w' := by
  obtain ⟨hl, ⟨a, ha, h1, h2⟩, _, _, hat⟩ := numL_parts h
  rw [ba_len] at hl
  have h0 : 0 < s.size := by
    rw [← ba_len]; exact (List.getElem?_eq_some_iff.1 ha).1
  rw [ba_at0 s h0] at ha
  obtain rfl := Option.some.inj ha
  have hat := hide hat
  clear h ha
  go_enter Tryz.func206, Tryz.ntmps206
  go_wp2_with (go_at_call 204; refine (Tryz.strconv_Atoi s n (by omega) hat.out _).mono ?_; rintro e w' ⟨rfl, t, rfl⟩)
  go_quiet (fail)
  go_wp2
  go_ret2
  exact ⟨rfl, below_drewN (Joins.below_bytesWorld _ _ _ _ (Nat.le_refl _)) _⟩

set_option maxHeartbeats 400000 in
theorem number_no (s : ByteArray) (h : numL s.data.toList = none) (w : World) (hS : Std w) :
    Calls Tryz.prog 206 #[.string s] w fun e w' => e = .returned (.tuple #[.int .i64 0, .bool false]) ∧ Below w.heap.size w w' := by
  by_cases h0 : 1 ≤ s.size ∧ s.size ≤ 2
  · obtain ⟨h0, hl⟩ := h0
    have h0' : 0 < s.size := h0
    by_cases h1 : 49 ≤ (s[0]'h0').toNat ∧ (s[0]'h0').toNat ≤ 57
    · obtain ⟨h1, h2⟩ := h1
      have hat := hide (atoi_none (by rw [ba_len]; exact hl) _ (ba_at0 s h0') h1 h2 h)
      clear h
      obtain ⟨te, pe, hv⟩ := hS.errSyntax
      go_enter Tryz.func206, Tryz.ntmps206
      go_wp2_with (go_at_call 204; refine (Tryz.strconv_Atoi_err s (by omega) hat.out _ _ hv (Or.inr ⟨te, pe, rfl⟩)).mono ?_; rintro e w' ⟨N, rfl, hN, hc, hb⟩)
      all_goals try (exfalso; omega)
      go_quiet (fail)
      go_wp2
      go_ret2
      exact ⟨rfl, below_drewN hb _⟩
    · clear h
      go_enter Tryz.func206, Tryz.ntmps206
      go_wp2
      all_goals try (exfalso; omega)
      all_goals go_ret2
      all_goals exact ⟨rfl, Below.refl _ _⟩
  · clear h
    go_enter Tryz.func206, Tryz.ntmps206
    go_wp2
    all_goals try (exfalso; omega)
    all_goals go_ret2
    all_goals exact ⟨rfl, Below.refl _ _⟩
-- </number>
end Go.Proofs.YtdnnahdafhddlaaGreatDoor

namespace Go.Proofs.YtdnnahdafhddlaaGreatDoor
open Go.RowKit

def wAll : List UInt8 := [97, 108, 108]
def wOdd : List UInt8 := [111, 100, 100]
def wEven : List UInt8 := [101, 118, 101, 110]
def wFirst : List UInt8 := [102, 105, 114, 115, 116]
def wSecond : List UInt8 := [115, 101, 99, 111, 110, 100]
/-- The k-th word and its set. -/
def wordName : Nat → List UInt8
  | 0 => wAll | 1 => wOdd | 2 => wEven | 3 => wFirst | _ => wSecond
def wordVal (n : Nat) : Nat → Nat
  | 0 => spanN 1 n | 1 => everyN 1 n | 2 => everyN 2 n | 3 => spanN 1 ((n + 1) / 2) | _ => spanN ((n + 1) / 2 + 1) n
/-- Which word a text is; 5: none. -/
def wordIdx (l : List UInt8) : Nat := if l = wAll then 0 else if l = wOdd then 1 else if l = wEven then 2 else if l = wFirst then 3 else if l = wSecond then 4 else 5
theorem wordIdx_le (l : List UInt8) : wordIdx l ≤ 5 := by unfold wordIdx; repeat (first | omega | split)
theorem word_hit (s : ByteArray) (k : Nat) (hk : k < 5) (h : wordIdx s.data.toList = k) : (wordName k == s.toList) = true := by
  rw [Lib.toList_data, beq_iff_eq]
  subst h
  unfold wordIdx at hk ⊢
  by_cases h0 : s.data.toList = wAll
  · rw [if_pos h0]; exact h0.symm
  rw [if_neg h0]
  by_cases h1 : s.data.toList = wOdd
  · rw [if_pos h1]; exact h1.symm
  rw [if_neg h1]
  by_cases h2 : s.data.toList = wEven
  · rw [if_pos h2]; exact h2.symm
  rw [if_neg h2]
  by_cases h3 : s.data.toList = wFirst
  · rw [if_pos h3]; exact h3.symm
  rw [if_neg h3]
  by_cases h4 : s.data.toList = wSecond
  · rw [if_pos h4]; exact h4.symm
  rw [if_neg h0, if_neg h1, if_neg h2, if_neg h3, if_neg h4] at hk
  omega
theorem word_cells (n k : Nat) (hk : k < 5) : (wordCells n)[k * 2]? = some (.string ⟨(wordName k).toArray⟩) ∧ (wordCells n)[k * 2 + 1]? = some (.int .i64 (wordVal n k)) := by
  match k, hk with
  | 0, _ | 1, _ | 2, _ | 3, _ | 4, _ => exact ⟨rfl, rfl⟩
theorem word_miss (s : ByteArray) (k : Nat) (h : k < wordIdx s.data.toList) : (wordName k == s.toList) = false := by
  rw [Lib.toList_data, beq_eq_false_iff_ne]
  rintro e
  rw [← e] at h
  match k with
  | 0 => revert h; decide
  | 1 => revert h; decide
  | 2 => revert h; decide
  | 3 => revert h; decide
  | k + 4 => 
    have : wordIdx (wordName (k + 4)) = 4 := by show wordIdx wSecond = 4; decide
    omega

/-- strings.Cut, with its results named. -/
theorem cut_walk (s sep : ByteArray) (x y : List UInt8) (t : Bool) (hs : s.size < 4294967281) (w : World) (hS : Std w) (hc : Lib.cut s.data.toList sep.data.toList = (x, y, t)) :
    Calls Tryz.prog 51 #[.string s, .string sep] w fun e w' => e = .returned (.tuple #[.string ⟨x.toArray⟩, .string ⟨y.toArray⟩, .bool t]) ∧ Below w.heap.size w w' := by
  obtain ⟨m, hm⟩ := hS.maxLen
  refine (Tryz.strings_Cut s sep m w hs hm).mono fun e w' ⟨he, n, hn⟩ => ?_
  subst hn
  rw [hc] at he
  exact ⟨he, below_drewN (Below.refl _ _) _⟩
/-- A number, read or not. -/
def numV (l : List UInt8) : Nat := (numL l).getD 0
def numOk (l : List UInt8) : Bool := (numL l).isSome
-- <numany>
theorem number_any (l : List UInt8) (w : World) (hS : Std w) :
    Calls Tryz.prog 206 #[.string ⟨l.toArray⟩] w fun e w' => e = .returned (.tuple #[.int .i64 (numV l), .bool (numOk l)]) ∧ Below w.heap.size w w' := by
  cases h : numL l with
  | some n => 
    rw [show numV l = n from by simp [numV, h], show numOk l = true from by simp [numOk, h]]
    exact number_yes ⟨l.toArray⟩ n (by simpa using h) w
  | none =>
    rw [show numV l = 0 from by simp [numV, h], show numOk l = false from by simp [numOk, h]]
    exact number_no ⟨l.toArray⟩ (by simpa using h) w hS
-- </numany>
/-- A range of two numbers: a set, and an error (0: none). -/
def itemR (x z : List UInt8) (n : Nat) : Nat × Nat :=
  if numOk x = false ∨ numOk z = false then (0, 4) else
  if n < numV x ∨ n < numV z ∨ numV z < numV x then (0, 3) else (spanN (numV x) (numV z), 0)
/-- What an item is: a set, and an error (0: none). -/
def itemV (l : List UInt8) (n : Nat) : Nat × Nat :=
  if wordIdx l < 5 then (wordVal n (wordIdx l), 0) else itemR (Lib.cut l [45]).1 (if (Lib.cut l [45]).2.2 then (Lib.cut l [45]).2.1 else (Lib.cut l [45]).1) n
theorem numV_pos {l : List UInt8} (h : numOk l = true) : 1 ≤ numV l ∧ numV l ≤ 99 := by
  unfold numOk at h; unfold numV
  cases hl : numL l with
  | none => simp [hl] at h
  | some n => have := numL_parts hl; simpa using ⟨this.2.2.1, this.2.2.2.1⟩

set_option maxHeartbeats 800000 in
theorem item_walk (s : ByteArray) (n : Int) (h1 : 1 ≤ n) (h2 : n ≤ 20) (hs : s.size < 4294967281) (w : World) (hS : Std w) :
    Calls Tryz.prog 185 #[.string s, .int .i64 n] w fun e w' => e = .returned (.tuple #[.int .i64 (itemV s.data.toList n.toNat).1, .int .i64 (itemV s.data.toList n.toNat).2]) ∧ Below w.heap.size w w' := by
  obtain ⟨x, y, t, hc⟩ : ∃ x y t, Lib.cut s.data.toList [45] = (x, y, t) := ⟨_, _, _, rfl⟩
  obtain ⟨n, rfl⟩ := Int.eq_ofNat_of_zero_le (by omega : 0 ≤ n)
  rw [Int.toNat_natCast]
  have hc := hide hc
  obtain ⟨v, hv⟩ : ∃ v, itemV s.data.toList n = v := ⟨_, rfl⟩
  rw [hv]
  have hv := hide hv
  go_enter Tryz.func185, Tryz.ntmps185
  go_wp2_with (go_at_call 200; refine (words_walk _ (by omega) (by omega) _).mono ?_; rintro e w' ⟨rfl, rfl⟩)
  go_loopw [18] (fun i wr => ∃ k : Nat, k ≤ wordIdx s.data.toList ∧ i = .int .i64 k ∧ Below (w.heap.size + 1) (w.alloc (.cells (wordCells n) 207)) wr) (fun i _ => (5 - intOf i).toNat)
  case atStart => exact ⟨0, Nat.zero_le _, rfl, Below.refl _ _⟩
  case round =>
    obtain ⟨k, hk, rfl, hb⟩ := hrel
    have hb0 : Below w.heap.size w wr := ((Below.refl _ _).alloc (Nat.le_refl _) _).trans (hb.mono (by omega))
    have h5 := wordIdx_le s.data.toList
    have hkk : k = wordIdx s.data.toList ∧ k < 5 ∨ k < wordIdx s.data.toList ∧ k < 5 ∨ k = wordIdx s.data.toList ∧ k = 5 := by omega
    have hcell : ∀ j, wr.cell? ⟨w.heap.size, j, none⟩ = (wordCells n)[j]? := fun j => (hb.cell (p := ⟨w.heap.size, j, none⟩) (by simp)).trans (by simp)
    rcases hkk with ⟨e, h5⟩ | ⟨e, h5⟩ | ⟨e, h5⟩
    · have hw := word_hit s k h5 e.symm
      have hfin : Hid (v = (wordVal n k, 0)) := by have := hv.out; unfold itemV at this; rw [← e, if_pos h5] at this; exact this.symm
      have c0 := (hcell (k * 2)).trans (word_cells n k h5).1
      have c1 := (hcell (k * 2 + 1)).trans (word_cells n k h5).2
      clear hk e hv hc hcell
      go_wp2
      go_ret2
      exact ⟨ret_ii (by rw [hfin.out]) (by rw [hfin.out]; rfl), hb0.alloc hb0.size _⟩
    · have hw := word_miss s k e
      have c0 := (hcell (k * 2)).trans (word_cells n k h5).1
      have c1 := (hcell (k * 2 + 1)).trans (word_cells n k h5).2
      clear hcell
      go_wp2
      go_roundw
      case rel => exact ⟨k + 1, e, by go_num, hb.alloc (by have := hb0.size; have := hb.size; simp at this; omega) _⟩
      case measure => simp [intOf]; omega
    · obtain rfl : k = 5 := h5
      have hcv := hc.out
      have hS1 := hS.after hb0
      have hfin : Hid (v = itemR x (if t then y else x) n) := by
        have := hv.out
        unfold itemV at this
        rw [← e, if_neg (by omega), hcv] at this
        exact this.symm
      clear hv hk e hcell hcv
      obtain ⟨z, hz⟩ : ∃ z, (if t then y else x) = z := ⟨_, rfl⟩
      rw [hz] at hfin
      have hy : t = true → y = z := fun h => by rw [h] at hz; exact hz
      have hx : t = false → x = z := fun h => by rw [h] at hz; exact hz
      clear hz
      have hcase : (numOk x = false ∧ v = (0, 4)) ∨ (numOk x = true ∧ numOk z = false ∧ v = (0, 4)) ∨ (numOk x = true ∧ numOk z = true ∧ (n < numV x ∨ n < numV z ∨ numV z < numV x) ∧ v = (0, 3)) ∨
          (numOk x = true ∧ numOk z = true ∧ numV x ≤ n ∧ numV z ≤ n ∧ numV x ≤ numV z ∧ 1 ≤ numV x ∧ v = (spanN (numV x) (numV z), 0)) := by
        have h := hfin.out
        unfold itemR at h
        cases hx : numOk x
        · exact Or.inl ⟨rfl, by rw [h, if_pos (Or.inl hx)]⟩
        · cases hz : numOk z
          · exact Or.inr (Or.inl ⟨rfl, rfl, by rw [h, if_pos (Or.inr hz)]⟩)
          · rw [if_neg (by rw [hx, hz]; simp)] at h
            by_cases hc : n < numV x ∨ n < numV z ∨ numV z < numV x
            · rw [if_pos hc] at h; exact Or.inr (Or.inr (Or.inl ⟨rfl, rfl, hc, h⟩))
            · rw [if_neg hc] at h; exact Or.inr (Or.inr (Or.inr ⟨rfl, rfl, by omega, by omega, by omega, (numV_pos hx).1, h⟩))
      clear hfin
      have hs := hide hs
      rcases hcase with ⟨ha, rfl⟩ | ⟨ha, hb', rfl⟩ | ⟨ha, hb', hk, rfl⟩ | ⟨ha, hb', k1, k2, k3, k4, rfl⟩
      all_goals
        cases t with
        | true => 
          obtain rfl := hy rfl
          clear hx hy
          go_wp2_with fail
          refine (cut_walk s _ x y true hs.out _ hS1 hc.out).mono ?_
          rintro e w1 ⟨rfl, hb1⟩
          have hS2 := hS1.after hb1
          go_wp2_with fail
          refine (number_any _ _ hS2).mono ?_
          rintro e w2 ⟨rfl, hb2⟩
          have hS3 := hS2.after hb2
          go_wp2_with fail
          refine (number_any _ _ hS3).mono ?_
          rintro e w3 ⟨rfl, hb3⟩
          have hbb := ((hb0.trans (hb1.mono hb0.size)).trans (hb2.mono (Nat.le_trans hb0.size hb1.size))).trans (hb3.mono (Nat.le_trans hb0.size (Nat.le_trans hb1.size hb2.size)))
          clear hb1 hb2 hb3 hS3 hS2
          go_wp2_with (go_at_call 207; refine (span_walk _ _ (by omega) (by omega) (by omega) (by omega) _).mono ?_; rintro e w' ⟨rfl, rfl⟩)
          all_goals try (exfalso; omega)
          all_goals go_ret2
          all_goals exact ⟨ret_ii rfl rfl, hbb⟩
        | false => 
          obtain rfl := hx rfl
          clear hx hy
          first
          | exact Bool.noConfusion (ha.symm.trans hb' : true = false)
          | skip
            go_wp2_with fail
            refine (cut_walk s _ x y false hs.out _ hS1 hc.out).mono ?_
            rintro e w1 ⟨rfl, hb1⟩
            have hS2 := hS1.after hb1
            go_wp2_with fail
            refine (number_any _ _ hS2).mono ?_
            rintro e w2 ⟨rfl, hb2⟩
            have hS3 := hS2.after hb2
            go_wp2_with fail
            refine (number_any _ _ hS3).mono ?_
            rintro e w3 ⟨rfl, hb3⟩
            have hbb := ((hb0.trans (hb1.mono hb0.size)).trans (hb2.mono (Nat.le_trans hb0.size hb1.size))).trans (hb3.mono (Nat.le_trans hb0.size (Nat.le_trans hb1.size hb2.size)))
            clear hb1 hb2 hb3 hS3 hS2
            go_wp2_with (go_at_call 207; refine (span_walk _ _ (by omega) (by omega) (by omega) (by omega) _).mono ?_; rintro e w' ⟨rfl, rfl⟩)
            all_goals try (exfalso; omega)
            all_goals go_ret2
            all_goals exact ⟨ret_ii rfl rfl, hbb⟩
end Go.Proofs.YtdnnahdafhddlaaGreatDoor
