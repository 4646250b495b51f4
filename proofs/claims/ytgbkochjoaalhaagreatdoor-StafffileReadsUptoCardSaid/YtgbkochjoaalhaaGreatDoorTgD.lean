/- Walks of package timegrid, on: numbers, slots, names of days. Conditions: texts shorter than 2^30 bytes. -/
import Derived.Test.YtgbkochjoaalhaaGreatDoorWsD
import Derived.Test.YtgbkochjoaalhaaGreatDoorTgB
namespace Go.Proofs.YtgbkochjoaalhaaGreatDoor
open Go.RowKit

set_option maxHeartbeats 400000 in
theorem tnumber_yes (s : ByteArray) (n : Nat) (h : numL s.data.toList = some n) (w : World) :
    Calls Tryz.prog 98 #[.string s] w fun e w' => e = .returned (.tuple #[.int .i64 n, .bool true]) ∧ Below w.heap.size w w' := by
  obtain ⟨hl, ⟨a, ha, h1, h2⟩, _, _, hat⟩ := numL_parts h
  rw [ba_len] at hl
  have h0 : 0 < s.size := by
    rw [← ba_len]; exact (List.getElem?_eq_some_iff.1 ha).1
  rw [ba_at0 s h0] at ha
  obtain rfl := Option.some.inj ha
  have hat := hide hat
  clear h ha
  go_enter Tryz.func98, Tryz.ntmps98
  go_wp2_with (go_at_call 123; refine (Tryz.strconv_Atoi s n (by omega) hat.out _).mono ?_; rintro e w' ⟨rfl, t, rfl⟩)
  go_quiet (fail)
  go_wp2
  go_ret2
  exact ⟨rfl, below_drewN (Joins.below_bytesWorld _ _ _ _ (Nat.le_refl _)) _⟩

set_option maxHeartbeats 400000 in
theorem tnumber_no (s : ByteArray) (h : numL s.data.toList = none) (w : World) (hS : Std w) :
    Calls Tryz.prog 98 #[.string s] w fun e w' => e = .returned (.tuple #[.int .i64 0, .bool false]) ∧ Below w.heap.size w w' := by
  by_cases h0 : 1 ≤ s.size ∧ s.size ≤ 2
  · obtain ⟨h0, hl⟩ := h0
    have h0' : 0 < s.size := h0
    by_cases h1 : 49 ≤ (s[0]'h0').toNat ∧ (s[0]'h0').toNat ≤ 57
    · obtain ⟨h1, h2⟩ := h1
      have hat := hide (atoi_none (by rw [ba_len]; exact hl) _ (ba_at0 s h0') h1 h2 h)
      clear h
      obtain ⟨te, pe, hv⟩ := hS.errSyntax
      go_enter Tryz.func98, Tryz.ntmps98
      go_wp2_with (go_at_call 123; refine (Tryz.strconv_Atoi_err s (by omega) hat.out _ _ hv (Or.inr ⟨te, pe, rfl⟩)).mono ?_; rintro e w' ⟨N, rfl, hN, hc, hb⟩)
      all_goals try (exfalso; omega)
      go_quiet (fail)
      go_wp2
      go_ret2
      exact ⟨rfl, below_drewN hb _⟩
    · clear h
      go_enter Tryz.func98, Tryz.ntmps98
      go_wp2
      all_goals try (exfalso; omega)
      all_goals go_ret2
      all_goals exact ⟨rfl, Below.refl _ _⟩
  · clear h
    go_enter Tryz.func98, Tryz.ntmps98
    go_wp2
    all_goals try (exfalso; omega)
    all_goals go_ret2
    all_goals exact ⟨rfl, Below.refl _ _⟩

theorem tnumber_any (l : List UInt8) (w : World) (hS : Std w) :
    Calls Tryz.prog 98 #[.string ⟨l.toArray⟩] w fun e w' => e = .returned (.tuple #[.int .i64 (numV l), .bool (numOk l)]) ∧ Below w.heap.size w w' := by
  cases h : numL l with
  | some n => 
    rw [show numV l = n from by simp [numV, h], show numOk l = true from by simp [numOk, h]]
    exact tnumber_yes ⟨l.toArray⟩ n (by simpa using h) w
  | none =>
    rw [show numV l = 0 from by simp [numV, h], show numOk l = false from by simp [numOk, h]]
    exact tnumber_no ⟨l.toArray⟩ (by simpa using h) w hS


/-- strings.Split at one byte, with its pieces named. -/
theorem split_walk (c : UInt8) (s : ByteArray) (zs : List ByteArray) (hz : Lib.splitB ⟨#[c]⟩ 0 (Lib.countB s ⟨#[c]⟩) s = zs) (hs : s.size < 4294967281) (w : World) (hS : Std w) :
    Calls Tryz.prog 54 #[.string s, .string ⟨#[c]⟩] w fun e w' => e = .returned (.slice (some ⟨w.heap.size, 0, none⟩) zs.length zs.length) ∧ w.alloc (.cells (zs.map Value.string).toArray 9) = w' := by
  obtain ⟨m, hm⟩ := hS.maxLen
  refine (Tryz.strings_Split s ⟨#[c]⟩ m w hs hm (Nat.le_refl 1)).mono fun e w' ⟨he, hw⟩ => ?_
  have hl := splitB_len c s
  rw [hz] at hl hw
  rw [he, hw, hl]
  exact ⟨rfl, rfl⟩

/-- The same with the new world closed: what its block holds. -/
theorem split_walk' (c : UInt8) (s : ByteArray) (zs : List ByteArray) (hz : Lib.splitB ⟨#[c]⟩ 0 (Lib.countB s ⟨#[c]⟩) s = zs) (hs : s.size < 4294967281) (w : World) (hS : Std w) :
    Calls Tryz.prog 54 #[.string s, .string ⟨#[c]⟩] w fun e w' => e = .returned (.slice (some ⟨w.heap.size, 0, none⟩) zs.length zs.length) ∧ Below w.heap.size w w' ∧ ∀ j z, zs[j]? = some z → w'.cell? ⟨w.heap.size, j, none⟩ = some (.string z) := by
  refine (split_walk c s zs hz hs w hS).mono fun e w' ⟨he, hw⟩ => ⟨he, ?_, ?_⟩
  · subst hw; exact ext_alloc (Below.refl _ _) _
  · subst hw
    intro j z hj
    simp [hj]

/-- Two numbers with a sign between, or one. -/
def slotsZ (l : List UInt8) : List UInt8 := if (Lib.cut l [45]).2.2 then (Lib.cut l [45]).2.1 else (Lib.cut l [45]).1
def slotsFrom (l : List UInt8) : Nat := numV (Lib.cut l [45]).1
def slotsTo (l : List UInt8) : Nat := numV (slotsZ l)
def slotsOk (l : List UInt8) : Bool := numOk (Lib.cut l [45]).1 && numOk (slotsZ l)
set_option maxHeartbeats 800000 in
theorem slots_walk (s : ByteArray) (hs : s.size < 4294967281) (w : World) (hS : Std w) :
    Calls Tryz.prog 56 #[.string s] w fun e w' => e = .returned (.tuple #[.int .i64 (slotsFrom s.data.toList), .int .i64 (slotsTo s.data.toList), .bool (slotsOk s.data.toList)]) ∧ Below w.heap.size w w' := by
  obtain ⟨x, y, t, hc⟩ : ∃ x y t, Lib.cut s.data.toList [45] = (x, y, t) := ⟨_, _, _, rfl⟩
  unfold slotsFrom slotsTo slotsOk slotsZ
  rw [hc]
  have hc := hide hc
  cases t with
  | true =>
    dsimp only
    rw [if_pos rfl]
    cases hx : numOk x
    all_goals
      go_enter Tryz.func56, Tryz.ntmps56
      go_wp2_with fail
      refine (cut_walk s _ x y true hs _ hS hc.out).mono ?_
      rintro e w1 ⟨rfl, hb1⟩
      have hS1 := hS.after hb1
      go_wp2_with fail
      refine (tnumber_any _ _ hS1).mono ?_
      rintro e w2 ⟨rfl, hb2⟩
      have hS2 := hS1.after hb2
      go_wp2_with fail
      refine (tnumber_any _ _ hS2).mono ?_
      rintro e w3 ⟨rfl, hb3⟩
      go_wp2
      go_ret3
      exact ⟨rfl, (by repeat (first | exact Below.refl _ _ | refine ext_alloc ?_ _ | refine ext_drewN ?_ _ | refine ext_drew ?_ | refine ext_trans ?_ (by assumption)))⟩
  | false =>
    dsimp only
    rw [if_neg (by simp)]
    cases hx : numOk x
    all_goals
      go_enter Tryz.func56, Tryz.ntmps56
      go_wp2_with fail
      refine (cut_walk s _ x y false hs _ hS hc.out).mono ?_
      rintro e w1 ⟨rfl, hb1⟩
      have hS1 := hS.after hb1
      go_wp2_with fail
      refine (tnumber_any _ _ hS1).mono ?_
      rintro e w2 ⟨rfl, hb2⟩
      have hS2 := hS1.after hb2
      go_wp2_with fail
      refine (tnumber_any _ _ hS2).mono ?_
      rintro e w3 ⟨rfl, hb3⟩
      go_wp2
      go_ret3
      exact ⟨rfl, (by repeat (first | exact Below.refl _ _ | refine ext_alloc ?_ _ | refine ext_drewN ?_ _ | refine ext_drew ?_ | refine ext_trans ?_ (by assumption)))⟩

def dayNames : List ByteArray := [⟨#[77, 111]⟩, ⟨#[84, 117]⟩, ⟨#[87, 101]⟩, ⟨#[84, 104]⟩, ⟨#[70, 114]⟩, ⟨#[83, 97]⟩, ⟨#[83, 117]⟩]
theorem names_walk (w : World) :
    Calls Tryz.prog 96 #[] w fun e w' => e = .returned (.slice (some ⟨w.heap.size, 0, none⟩) 7 7) ∧ w.alloc (.cells (dayNames.map Value.string).toArray 9) = w' := by
  go_enter Tryz.func96, Tryz.ntmps96
  go_wp2
  go_ret
  exact ⟨rfl, rfl⟩
/-- Which day a name is; -1: none. -/
def dayI (x : ByteArray) : Int := Lib.idxOfS dayNames x
theorem idxFromS_bd (x : ByteArray) : ∀ (zs : List ByteArray) (i : Nat), -1 ≤ Lib.idxFromS zs x i ∧ Lib.idxFromS zs x i < i + zs.length ∨ Lib.idxFromS zs x i = -1
  | [], _ => Or.inr rfl
  | z :: zs, i => by
    unfold Lib.idxFromS
    by_cases h : z = x
    · rw [if_pos h]; simp; omega
    · rw [if_neg h]
      have := idxFromS_bd x zs (i + 1)
      simp only [List.length_cons]
      omega
theorem dayI_bd (x : ByteArray) : -1 ≤ dayI x ∧ dayI x ≤ 6 := by
  have h := idxFromS_bd x dayNames 0
  have hl : dayNames.length = 7 := rfl
  rw [hl] at h
  unfold dayI Lib.idxOfS
  omega
theorem day_cells (w : World) (j : Nat) (hj : j < dayNames.length) : (w.alloc (.cells (dayNames.map Value.string).toArray 9)).cell? ⟨w.heap.size, 0 + j, none⟩ = some (.string (dayNames.getD j ByteArray.empty)) := by
  have hl : dayNames.length = 7 := rfl
  simp only [Nat.zero_add]
  have h : ∀ l : List ByteArray, j < l.length → (w.alloc (.cells (l.map Value.string).toArray 9)).cell? ⟨w.heap.size, j, none⟩ = some (.string (l.getD j ByteArray.empty)) := by
    intro l hl
    simp [hl]
  exact h dayNames hj
set_option maxHeartbeats 800000 in
theorem day_walk (x : ByteArray) (w : World) :
    Calls Tryz.prog 55 #[.string x] w fun e w' => e = .returned (.tuple #[.int .i64 (max (dayI x) 0), .bool (decide (0 ≤ dayI x))]) ∧ Below w.heap.size w w' := by
  have hd := dayI_bd x
  obtain ⟨hd1, hd2⟩ := hd
  go_enter Tryz.func55, Tryz.ntmps55
  go_wp2_with fail
  refine (names_walk _).mono ?_
  rintro e w1 ⟨rfl, rfl⟩
  go_wp2_with fail
  refine (Tryz.slices_Index_string w.heap.size 0 7 7 dayNames x _ (by decide) (by omega) (day_cells w)).mono ?_
  rintro e w1 ⟨rfl, rfl⟩
  rw [show dayNames.take 7 = dayNames from rfl, show Lib.idxOfS dayNames x = dayI x from rfl]
  go_wp2
  go_ret2
  exact ⟨ret_ib (by omega) rfl, (by repeat (first | exact Below.refl _ _ | refine ext_alloc ?_ _ | refine ext_drewN ?_ _ | refine ext_drew ?_ | refine ext_trans ?_ (by assumption)))⟩

theorem day_no (x : ByteArray) (h : dayI x < 0) (w : World) :
    Calls Tryz.prog 55 #[.string x] w fun e w' => e = .returned (.tuple #[.int .i64 0, .bool false]) ∧ Below w.heap.size w w' := by
  refine (day_walk x w).mono fun e w' ⟨he, hb⟩ => ⟨?_, hb⟩
  rw [he, show max (dayI x) 0 = 0 from by omega, decide_eq_false (by omega)]
theorem day_yes (x : ByteArray) (h : 0 ≤ dayI x) (w : World) :
    Calls Tryz.prog 55 #[.string x] w fun e w' => e = .returned (.tuple #[.int .i64 (dayI x), .bool true]) ∧ Below w.heap.size w w' := by
  refine (day_walk x w).mono fun e w' ⟨he, hb⟩ => ⟨?_, hb⟩
  rw [he, show max (dayI x) 0 = dayI x from by omega, decide_eq_true (by omega)]
set_option maxHeartbeats 800000 in
theorem name_walk (k : Nat) (hk : k < 7) (w : World) :
    Calls Tryz.prog 63 #[.int .i64 (k : Int)] w fun e w' => e = .returned (.string (dayNames.getD k ByteArray.empty)) ∧ Below w.heap.size w w' := by
  have hcell := day_cells w k hk
  rw [Nat.zero_add] at hcell
  obtain ⟨W, hW⟩ : ∃ W, w.alloc (.cells (dayNames.map Value.string).toArray 9) = W := ⟨_, rfl⟩
  rw [hW] at hcell
  have hb : Below w.heap.size w W := by rw [← hW]; exact (by repeat (first | exact Below.refl _ _ | refine ext_alloc ?_ _ | refine ext_drewN ?_ _ | refine ext_drew ?_ | refine ext_trans ?_ (by assumption)))
  have hW := hide hW
  go_enter Tryz.func63, Tryz.ntmps63
  go_wp2_with fail
  refine (names_walk _).mono ?_
  rintro e w1 ⟨rfl, hw1⟩
  obtain rfl := hw1.symm.trans hW.out
  clear hW hw1
  go_wp2
  go_ret
  exact ⟨rfl, hb⟩
end Go.Proofs.YtgbkochjoaalhaaGreatDoor
