/- Walk of timegrid.Parse, on: two words, three words. Conditions: texts shorter than 2^30 bytes. -/
import Derived.Test.YtgbkochjoaalhaaGreatDoorTgE
namespace Go.Proofs.YtgbkochjoaalhaaGreatDoor
open Go.RowKit

theorem slotE_4 {d sl : Int} {x y z : ByteArray} (h : dayI x < 0 ∨ slotsOk y.data.toList = false ∨ z.size = 0) : slotE d sl x y z = 4 := if_pos h
theorem slotE_14 {d sl : Int} {x y z : ByteArray} (h : ¬ dayI x < 0) (h' : slotsOk y.data.toList = true) (hz : z.size ≠ 0) (hc : d ≤ dayI x ∨ slotsTo y.data.toList < slotsFrom y.data.toList ∨ sl < slotsTo y.data.toList) : slotE d sl x y z = 14 := by
  unfold slotE; rw [if_neg (by simp [h, h', hz]), if_pos hc]
theorem slotE_0 {d sl : Int} {x y z : ByteArray} (h : ¬ dayI x < 0) (h' : slotsOk y.data.toList = true) (hz : z.size ≠ 0) (hc : ¬ (d ≤ dayI x ∨ slotsTo y.data.toList < slotsFrom y.data.toList ∨ sl < slotsTo y.data.toList)) : slotE d sl x y z = 0 := by
  unfold slotE; rw [if_neg (by simp [h, h', hz]), if_neg hc]
theorem parseT2_err {d sl b m n : Int} {x y : ByteArray} {k : Int} (h : weekB d sl b m n = true) (he : slotE d sl x y y = k) (hk : k ≠ 0) : parseT d sl b m n [x, y] = (0, 0, 0, 0, k) := by
  simp [parseT, h, he, hk]
theorem parseT2_ok {d sl b m n : Int} {x y : ByteArray} (h : weekB d sl b m n = true) (he : slotE d sl x y y = 0) : parseT d sl b m n [x, y] = ((2 ^ n.toNat - 1, dayI x, slotsFrom y.data.toList - 1, slotsTo y.data.toList - slotsFrom y.data.toList + 1, 0) : Int × Int × Int × Int × Int) := by
  simp [parseT, h, he]
theorem parseT3_err {d sl b m n : Int} {x y z : ByteArray} {k : Int} (h : weekB d sl b m n = true) (he : slotE d sl x y z = k) (hk : k ≠ 0) : parseT d sl b m n [x, y, z] = (0, 0, 0, 0, k) := by
  simp [parseT, h, he, hk]
theorem parseT3_err2 {d sl b m n : Int} {x y z : ByteArray} (h : weekB d sl b m n = true) (he : slotE d sl x y z = 0) (hp : (parseV z n).2 ≠ 0) : parseT d sl b m n [x, y, z] = ((0, 0, 0, 0, (parseV z n).2) : Int × Int × Int × Int × Int) := by
  simp [parseT, h, he, hp]
theorem parseT3_ok {d sl b m n : Int} {x y z : ByteArray} (h : weekB d sl b m n = true) (he : slotE d sl x y z = 0) (hp : (parseV z n).2 = 0) : parseT d sl b m n [x, y, z] = (((parseV z n).1, dayI x, slotsFrom y.data.toList - 1, slotsTo y.data.toList - slotsFrom y.data.toList + 1, 0) : Int × Int × Int × Int × Int) := by
  simp [parseT, h, he, hp]
theorem pow_facts (n : Int) (h2 : n ≤ 20) : wrap64 ((2 : Int) ^ n.toNat) = (2 : Int) ^ n.toNat ∧ wrap64 ((2 : Int) ^ n.toNat - 1) = (2 : Int) ^ n.toNat - 1 := by
  refine ⟨wrap64_powZ n h2, ?_⟩
  have hpl := pow_small n.toNat (by omega)
  have e : ((2 : Int) ^ n.toNat) = ((2 ^ n.toNat : Nat) : Int) := by simp
  rw [e]
  generalize 2 ^ n.toNat = m at hpl
  exact IntWalk.wrap64_in _ ⟨by omega, by omega⟩
theorem numL_nil : numOk [] = false := rfl
theorem slotsOk_size {y : ByteArray} (h : slotsOk y.data.toList = true) : y.size ≠ 0 := by
  intro e
  have : y.data.toList = [] := List.eq_nil_of_length_eq_zero (by rw [ba_len]; exact e)
  rw [this] at h
  revert h; decide
theorem itemsV_bd (n : Nat) (hn : n ≤ 20) : ∀ (l : List (List UInt8)) (acc : Nat), acc < 1048576 → (itemsV n l acc).1 < 1048576 ∧ (itemsV n l acc).2 ≤ 16
  | [], acc, h => by
    unfold itemsV
    split
    · simp
    · exact ⟨h, by simp⟩
  | x :: r, acc, h => by
    rw [itemsV_cons]
    have hi := itemV_lt x n hn
    split
    · exact itemsV_bd n hn r _ (or_lt _ _ h hi.1)
    · exact ⟨by simp, by simp; omega⟩
theorem parseV_bd (z : ByteArray) (n : Int) : (parseV z n).1 < 1048576 ∧ (parseV z n).2 ≤ 16 := by
  unfold parseV
  split
  · exact ⟨by simp, by simp⟩
  · exact itemsV_bd _ (by omega) _ _ (by omega)
theorem slots_bd {l : List UInt8} (h : slotsOk l = true) : 1 ≤ slotsFrom l ∧ slotsFrom l ≤ 99 ∧ 1 ≤ slotsTo l ∧ slotsTo l ≤ 99 := by
  simp only [slotsOk, Bool.and_eq_true] at h
  have h1 := numV_pos h.1
  have h2 := numV_pos h.2
  unfold slotsFrom slotsTo
  omega

set_option maxHeartbeats 4000000 in
theorem parse_two (d sl b m n : Int) (s x y : ByteArray) (hz : Lib.splitB ⟨#[32]⟩ 0 (Lib.countB s ⟨#[32]⟩) s = [x, y]) (hs : s.size < 1073741824) (h : weekB d sl b m n = true) (w : World) (hS : Std w) :
    Calls Tryz.prog 26 #[.agg #[.int .i64 d, .int .i64 sl, .int .i64 b, .int .i64 m], .int .i64 n, .string s] w fun e w' => e = .returned (timeVal (parseT d sl b m n [x, y])) ∧ Below w.heap.size w w' := by
  have sy := splitB_mem hz (x := y) (by simp)
  have hn : 1 ≤ n ∧ n ≤ 20 := by
    simp only [weekB, Bool.and_eq_true, decide_eq_true_eq] at h; exact h.2
  obtain ⟨hn1, hn2⟩ := hn
  obtain ⟨hd1, hd2⟩ := dayI_bd x
  have hz := hide hz
  have hs := hide hs
  by_cases hday : dayI x < 0
  · rw [parseT2_err h (slotE_4 (Or.inl hday)) (by decide)]
    go_enter Tryz.func26, Tryz.ntmps26
    go_wp2_with fail
    refine (tgWeek_walk _ _ _ _ _ _).mono ?_
    rintro e w1 ⟨rfl, hb⟩
    obtain ⟨hc, hf⟩ := bcell hb
    have hS1 := hS.after (ext_trans (by repeat (first | exact Below.refl _ _ | refine ext_alloc ?_ _ | refine ext_drewN ?_ _ | refine ext_drew ?_ | refine ext_trans ?_ (by assumption))) hb)
    go_wp2_with fail
    refine (split_walk' 32 s [x, y] hz.out (by have := hs.out; omega) _ hS1).mono ?_
    rintro e w2 ⟨rfl, hbn, hcl⟩
    have k0 := hcl 0 x rfl
    have k1 := hcl 1 y rfl
    have hS2 := hS1.after hbn
    replace hb := ext_trans hb hbn
    clear hc hf hbn hcl
    obtain ⟨hc, hf⟩ := bcell hb
    go_wp2_with fail
    refine (day_no x hday _).mono ?_
    rintro e w3 ⟨rfl, hbn⟩
    replace k1 := cell_later hbn k1
    have hS3 := hS2.after hbn
    replace hb := ext_trans hb hbn
    clear hc hf hbn k0
    obtain ⟨hc, hf⟩ := bcell hb
    go_wp2_with fail
    refine (slots_walk y (by have := hs.out; omega) _ hS3).mono ?_
    rintro e w4 ⟨rfl, hbn⟩
    replace k1 := cell_later hbn k1
    have hS4 := hS3.after hbn
    replace hb := ext_trans hb hbn
    clear hc hf hbn
    obtain ⟨hc, hf⟩ := bcell hb
    have hz1 : w.heap.size + 1 < w4.heap.size := by have := hb.size; simp at this; omega
    go_wp2
    all_goals try (exfalso; omega)
    all_goals refine end_set4 rfl (Or.inr rfl) _ _ _ _ _ _ rfl rfl rfl (four_of (heap_new2 _ _ _) hb) ⟨rfl, ext_set4 (by repeat (first | exact Below.refl _ _ | refine ext_alloc ?_ _ | refine ext_drewN ?_ _ | refine ext_drew ?_ | refine ext_trans ?_ (by assumption))) (by omega) _ _ _ _⟩
  have hday' : decide (0 ≤ dayI x) = true := by simp; omega
  cases hok : slotsOk y.data.toList
  · rw [parseT2_err h (slotE_4 (Or.inr (Or.inl hok))) (by decide)]
    go_enter Tryz.func26, Tryz.ntmps26
    go_wp2_with fail
    refine (tgWeek_walk _ _ _ _ _ _).mono ?_
    rintro e w1 ⟨rfl, hb⟩
    obtain ⟨hc, hf⟩ := bcell hb
    have hS1 := hS.after (ext_trans (by repeat (first | exact Below.refl _ _ | refine ext_alloc ?_ _ | refine ext_drewN ?_ _ | refine ext_drew ?_ | refine ext_trans ?_ (by assumption))) hb)
    go_wp2_with fail
    refine (split_walk' 32 s [x, y] hz.out (by have := hs.out; omega) _ hS1).mono ?_
    rintro e w2 ⟨rfl, hbn, hcl⟩
    have k0 := hcl 0 x rfl
    have k1 := hcl 1 y rfl
    have hS2 := hS1.after hbn
    replace hb := ext_trans hb hbn
    clear hc hf hbn hcl
    obtain ⟨hc, hf⟩ := bcell hb
    go_wp2_with fail
    refine (day_yes x (by omega) _).mono ?_
    rintro e w3 ⟨rfl, hbn⟩
    replace k1 := cell_later hbn k1
    have hS3 := hS2.after hbn
    replace hb := ext_trans hb hbn
    clear hc hf hbn k0
    obtain ⟨hc, hf⟩ := bcell hb
    go_wp2_with fail
    refine (slots_walk y (by have := hs.out; omega) _ hS3).mono ?_
    rintro e w4 ⟨rfl, hbn⟩
    replace k1 := cell_later hbn k1
    have hS4 := hS3.after hbn
    replace hb := ext_trans hb hbn
    clear hc hf hbn
    obtain ⟨hc, hf⟩ := bcell hb
    have hz1 : w.heap.size + 1 < w4.heap.size := by have := hb.size; simp at this; omega
    go_wp2
    all_goals try (exfalso; omega)
    all_goals refine end_set4 rfl (Or.inr rfl) _ _ _ _ _ _ rfl rfl rfl (four_of (heap_new2 _ _ _) hb) ⟨rfl, ext_set4 (by repeat (first | exact Below.refl _ _ | refine ext_alloc ?_ _ | refine ext_drewN ?_ _ | refine ext_drew ?_ | refine ext_trans ?_ (by assumption))) (by omega) _ _ _ _⟩
  have hsz := slotsOk_size hok
  have hem := isEmpty_false y hsz
  obtain ⟨q1, q2, q3, q4⟩ := slots_bd hok
  by_cases hc14 : d ≤ dayI x ∨ slotsTo y.data.toList < slotsFrom y.data.toList ∨ sl < slotsTo y.data.toList
  · rw [parseT2_err h (slotE_14 hday hok hsz hc14) (by decide)]
    go_enter Tryz.func26, Tryz.ntmps26
    go_wp2_with fail
    refine (tgWeek_walk _ _ _ _ _ _).mono ?_
    rintro e w1 ⟨rfl, hb⟩
    obtain ⟨hc, hf⟩ := bcell hb
    have hS1 := hS.after (ext_trans (by repeat (first | exact Below.refl _ _ | refine ext_alloc ?_ _ | refine ext_drewN ?_ _ | refine ext_drew ?_ | refine ext_trans ?_ (by assumption))) hb)
    go_wp2_with fail
    refine (split_walk' 32 s [x, y] hz.out (by have := hs.out; omega) _ hS1).mono ?_
    rintro e w2 ⟨rfl, hbn, hcl⟩
    have k0 := hcl 0 x rfl
    have k1 := hcl 1 y rfl
    have hS2 := hS1.after hbn
    replace hb := ext_trans hb hbn
    clear hc hf hbn hcl
    obtain ⟨hc, hf⟩ := bcell hb
    go_wp2_with fail
    refine (day_yes x (by omega) _).mono ?_
    rintro e w3 ⟨rfl, hbn⟩
    replace k1 := cell_later hbn k1
    have hS3 := hS2.after hbn
    replace hb := ext_trans hb hbn
    clear hc hf hbn k0
    obtain ⟨hc, hf⟩ := bcell hb
    go_wp2_with fail
    refine (slots_walk y (by have := hs.out; omega) _ hS3).mono ?_
    rintro e w4 ⟨rfl, hbn⟩
    replace k1 := cell_later hbn k1
    have hS4 := hS3.after hbn
    replace hb := ext_trans hb hbn
    clear hc hf hbn
    obtain ⟨hc, hf⟩ := bcell hb
    have hz1 : w.heap.size + 1 < w4.heap.size := by have := hb.size; simp at this; omega
    go_wp2
    all_goals try (exfalso; omega)
    all_goals refine end_set4 rfl (Or.inr rfl) _ _ _ _ _ _ rfl rfl rfl (four_of (heap_new2 _ _ _) hb) ⟨rfl, ext_set4 (by repeat (first | exact Below.refl _ _ | refine ext_alloc ?_ _ | refine ext_drewN ?_ _ | refine ext_drew ?_ | refine ext_trans ?_ (by assumption))) (by omega) _ _ _ _⟩
  have he0 := slotE_0 hday hok hsz hc14
  obtain ⟨c1, c2, c3⟩ : dayI x < d ∧ ¬ slotsTo y.data.toList < slotsFrom y.data.toList ∧ (slotsTo y.data.toList : Int) ≤ sl := by omega
  clear hc14
  rw [parseT2_ok h he0]
  obtain ⟨hpw, hpw1⟩ := pow_facts n hn2
  clear he0
  go_enter Tryz.func26, Tryz.ntmps26
  go_wp2_with fail
  refine (tgWeek_walk _ _ _ _ _ _).mono ?_
  rintro e w1 ⟨rfl, hb⟩
  obtain ⟨hc, hf⟩ := bcell hb
  have hS1 := hS.after (ext_trans (by repeat (first | exact Below.refl _ _ | refine ext_alloc ?_ _ | refine ext_drewN ?_ _ | refine ext_drew ?_ | refine ext_trans ?_ (by assumption))) hb)
  go_wp2_with fail
  refine (split_walk' 32 s [x, y] hz.out (by have := hs.out; omega) _ hS1).mono ?_
  rintro e w2 ⟨rfl, hbn, hcl⟩
  have k0 := hcl 0 x rfl
  have k1 := hcl 1 y rfl
  have hS2 := hS1.after hbn
  replace hb := ext_trans hb hbn
  clear hc hf hbn hcl
  obtain ⟨hc, hf⟩ := bcell hb
  go_wp2_with fail
  refine (day_yes x (by omega) _).mono ?_
  rintro e w3 ⟨rfl, hbn⟩
  replace k1 := cell_later hbn k1
  have hS3 := hS2.after hbn
  replace hb := ext_trans hb hbn
  clear hc hf hbn k0
  obtain ⟨hc, hf⟩ := bcell hb
  go_wp2_with fail
  refine (slots_walk y (by have := hs.out; omega) _ hS3).mono ?_
  rintro e w4 ⟨rfl, hbn⟩
  replace k1 := cell_later hbn k1
  have hS4 := hS3.after hbn
  replace hb := ext_trans hb hbn
  clear hc hf hbn
  obtain ⟨hc, hf⟩ := bcell hb
  have hz1 : w.heap.size + 1 < w4.heap.size := by have := hb.size; simp at this; omega
  go_wp2
  all_goals try (exfalso; omega)
  all_goals refine end_set4a rfl (Or.inr rfl) _ _ _ _ _ _ rfl rfl rfl (four_of (heap_new2 _ _ _) hb) ⟨rfl, ext_alloc (ext_set4 (by repeat (first | exact Below.refl _ _ | refine ext_alloc ?_ _ | refine ext_drewN ?_ _ | refine ext_drew ?_ | refine ext_trans ?_ (by assumption))) (by omega) _ _ _ _) _⟩
set_option maxHeartbeats 4000000 in
theorem parse_three (d sl b m n : Int) (s x y z : ByteArray) (hz : Lib.splitB ⟨#[32]⟩ 0 (Lib.countB s ⟨#[32]⟩) s = [x, y, z]) (hs : s.size < 1073741824) (h : weekB d sl b m n = true) (w : World) (hS : Std w) :
    Calls Tryz.prog 26 #[.agg #[.int .i64 d, .int .i64 sl, .int .i64 b, .int .i64 m], .int .i64 n, .string s] w fun e w' => e = .returned (timeVal (parseT d sl b m n [x, y, z])) ∧ Below w.heap.size w w' := by
  have sy := splitB_mem hz (x := y) (by simp)
  have sz := splitB_mem hz (x := z) (by simp)
  have hn : 1 ≤ n ∧ n ≤ 20 := by
    simp only [weekB, Bool.and_eq_true, decide_eq_true_eq] at h; exact h.2
  obtain ⟨hn1, hn2⟩ := hn
  obtain ⟨hd1, hd2⟩ := dayI_bd x
  have hz := hide hz
  have hs := hide hs
  by_cases hday : dayI x < 0
  · rw [parseT3_err h (slotE_4 (Or.inl hday)) (by decide)]
    go_enter Tryz.func26, Tryz.ntmps26
    go_wp2_with fail
    refine (tgWeek_walk _ _ _ _ _ _).mono ?_
    rintro e w1 ⟨rfl, hb⟩
    obtain ⟨hc, hf⟩ := bcell hb
    have hS1 := hS.after (ext_trans (by repeat (first | exact Below.refl _ _ | refine ext_alloc ?_ _ | refine ext_drewN ?_ _ | refine ext_drew ?_ | refine ext_trans ?_ (by assumption))) hb)
    go_wp2_with fail
    refine (split_walk' 32 s [x, y, z] hz.out (by have := hs.out; omega) _ hS1).mono ?_
    rintro e w2 ⟨rfl, hbn, hcl⟩
    have k0 := hcl 0 x rfl
    have k1 := hcl 1 y rfl
    have k2 := hcl 2 z rfl
    have hS2 := hS1.after hbn
    replace hb := ext_trans hb hbn
    clear hc hf hbn hcl
    obtain ⟨hc, hf⟩ := bcell hb
    go_wp2_with fail
    refine (day_no x hday _).mono ?_
    rintro e w3 ⟨rfl, hbn⟩
    replace k1 := cell_later hbn k1
    replace k2 := cell_later hbn k2
    have hS3 := hS2.after hbn
    replace hb := ext_trans hb hbn
    clear hc hf hbn k0
    obtain ⟨hc, hf⟩ := bcell hb
    go_wp2_with fail
    refine (slots_walk y (by have := hs.out; omega) _ hS3).mono ?_
    rintro e w4 ⟨rfl, hbn⟩
    replace k1 := cell_later hbn k1
    replace k2 := cell_later hbn k2
    have hS4 := hS3.after hbn
    replace hb := ext_trans hb hbn
    clear hc hf hbn
    obtain ⟨hc, hf⟩ := bcell hb
    have hz1 : w.heap.size + 1 < w4.heap.size := by have := hb.size; simp at this; omega
    go_wp2
    all_goals try (exfalso; omega)
    all_goals refine end_set4 rfl (Or.inr rfl) _ _ _ _ _ _ rfl rfl rfl (four_of (heap_new2 _ _ _) hb) ⟨rfl, ext_set4 (by repeat (first | exact Below.refl _ _ | refine ext_alloc ?_ _ | refine ext_drewN ?_ _ | refine ext_drew ?_ | refine ext_trans ?_ (by assumption))) (by omega) _ _ _ _⟩
  have hday' : decide (0 ≤ dayI x) = true := by simp; omega
  cases hok : slotsOk y.data.toList
  · rw [parseT3_err h (slotE_4 (Or.inr (Or.inl hok))) (by decide)]
    go_enter Tryz.func26, Tryz.ntmps26
    go_wp2_with fail
    refine (tgWeek_walk _ _ _ _ _ _).mono ?_
    rintro e w1 ⟨rfl, hb⟩
    obtain ⟨hc, hf⟩ := bcell hb
    have hS1 := hS.after (ext_trans (by repeat (first | exact Below.refl _ _ | refine ext_alloc ?_ _ | refine ext_drewN ?_ _ | refine ext_drew ?_ | refine ext_trans ?_ (by assumption))) hb)
    go_wp2_with fail
    refine (split_walk' 32 s [x, y, z] hz.out (by have := hs.out; omega) _ hS1).mono ?_
    rintro e w2 ⟨rfl, hbn, hcl⟩
    have k0 := hcl 0 x rfl
    have k1 := hcl 1 y rfl
    have k2 := hcl 2 z rfl
    have hS2 := hS1.after hbn
    replace hb := ext_trans hb hbn
    clear hc hf hbn hcl
    obtain ⟨hc, hf⟩ := bcell hb
    go_wp2_with fail
    refine (day_yes x (by omega) _).mono ?_
    rintro e w3 ⟨rfl, hbn⟩
    replace k1 := cell_later hbn k1
    replace k2 := cell_later hbn k2
    have hS3 := hS2.after hbn
    replace hb := ext_trans hb hbn
    clear hc hf hbn k0
    obtain ⟨hc, hf⟩ := bcell hb
    go_wp2_with fail
    refine (slots_walk y (by have := hs.out; omega) _ hS3).mono ?_
    rintro e w4 ⟨rfl, hbn⟩
    replace k1 := cell_later hbn k1
    replace k2 := cell_later hbn k2
    have hS4 := hS3.after hbn
    replace hb := ext_trans hb hbn
    clear hc hf hbn
    obtain ⟨hc, hf⟩ := bcell hb
    have hz1 : w.heap.size + 1 < w4.heap.size := by have := hb.size; simp at this; omega
    go_wp2
    all_goals try (exfalso; omega)
    all_goals refine end_set4 rfl (Or.inr rfl) _ _ _ _ _ _ rfl rfl rfl (four_of (heap_new2 _ _ _) hb) ⟨rfl, ext_set4 (by repeat (first | exact Below.refl _ _ | refine ext_alloc ?_ _ | refine ext_drewN ?_ _ | refine ext_drew ?_ | refine ext_trans ?_ (by assumption))) (by omega) _ _ _ _⟩
  by_cases hsz : z.size = 0
  · rw [parseT3_err h (slotE_4 (Or.inr (Or.inr hsz))) (by decide)]
    have hem := isEmpty_true z hsz
    go_enter Tryz.func26, Tryz.ntmps26
    go_wp2_with fail
    refine (tgWeek_walk _ _ _ _ _ _).mono ?_
    rintro e w1 ⟨rfl, hb⟩
    obtain ⟨hc, hf⟩ := bcell hb
    have hS1 := hS.after (ext_trans (by repeat (first | exact Below.refl _ _ | refine ext_alloc ?_ _ | refine ext_drewN ?_ _ | refine ext_drew ?_ | refine ext_trans ?_ (by assumption))) hb)
    go_wp2_with fail
    refine (split_walk' 32 s [x, y, z] hz.out (by have := hs.out; omega) _ hS1).mono ?_
    rintro e w2 ⟨rfl, hbn, hcl⟩
    have k0 := hcl 0 x rfl
    have k1 := hcl 1 y rfl
    have k2 := hcl 2 z rfl
    have hS2 := hS1.after hbn
    replace hb := ext_trans hb hbn
    clear hc hf hbn hcl
    obtain ⟨hc, hf⟩ := bcell hb
    go_wp2_with fail
    refine (day_yes x (by omega) _).mono ?_
    rintro e w3 ⟨rfl, hbn⟩
    replace k1 := cell_later hbn k1
    replace k2 := cell_later hbn k2
    have hS3 := hS2.after hbn
    replace hb := ext_trans hb hbn
    clear hc hf hbn k0
    obtain ⟨hc, hf⟩ := bcell hb
    go_wp2_with fail
    refine (slots_walk y (by have := hs.out; omega) _ hS3).mono ?_
    rintro e w4 ⟨rfl, hbn⟩
    replace k1 := cell_later hbn k1
    replace k2 := cell_later hbn k2
    have hS4 := hS3.after hbn
    replace hb := ext_trans hb hbn
    clear hc hf hbn
    obtain ⟨hc, hf⟩ := bcell hb
    have hz1 : w.heap.size + 1 < w4.heap.size := by have := hb.size; simp at this; omega
    go_wp2
    all_goals try (exfalso; omega)
    all_goals refine end_set4 rfl (Or.inr rfl) _ _ _ _ _ _ rfl rfl rfl (four_of (heap_new2 _ _ _) hb) ⟨rfl, ext_set4 (by repeat (first | exact Below.refl _ _ | refine ext_alloc ?_ _ | refine ext_drewN ?_ _ | refine ext_drew ?_ | refine ext_trans ?_ (by assumption))) (by omega) _ _ _ _⟩
  have hem := isEmpty_false z hsz
  obtain ⟨q1, q2, q3, q4⟩ := slots_bd hok
  by_cases hc14 : d ≤ dayI x ∨ slotsTo y.data.toList < slotsFrom y.data.toList ∨ sl < slotsTo y.data.toList
  · rw [parseT3_err h (slotE_14 hday hok hsz hc14) (by decide)]
    go_enter Tryz.func26, Tryz.ntmps26
    go_wp2_with fail
    refine (tgWeek_walk _ _ _ _ _ _).mono ?_
    rintro e w1 ⟨rfl, hb⟩
    obtain ⟨hc, hf⟩ := bcell hb
    have hS1 := hS.after (ext_trans (by repeat (first | exact Below.refl _ _ | refine ext_alloc ?_ _ | refine ext_drewN ?_ _ | refine ext_drew ?_ | refine ext_trans ?_ (by assumption))) hb)
    go_wp2_with fail
    refine (split_walk' 32 s [x, y, z] hz.out (by have := hs.out; omega) _ hS1).mono ?_
    rintro e w2 ⟨rfl, hbn, hcl⟩
    have k0 := hcl 0 x rfl
    have k1 := hcl 1 y rfl
    have k2 := hcl 2 z rfl
    have hS2 := hS1.after hbn
    replace hb := ext_trans hb hbn
    clear hc hf hbn hcl
    obtain ⟨hc, hf⟩ := bcell hb
    go_wp2_with fail
    refine (day_yes x (by omega) _).mono ?_
    rintro e w3 ⟨rfl, hbn⟩
    replace k1 := cell_later hbn k1
    replace k2 := cell_later hbn k2
    have hS3 := hS2.after hbn
    replace hb := ext_trans hb hbn
    clear hc hf hbn k0
    obtain ⟨hc, hf⟩ := bcell hb
    go_wp2_with fail
    refine (slots_walk y (by have := hs.out; omega) _ hS3).mono ?_
    rintro e w4 ⟨rfl, hbn⟩
    replace k1 := cell_later hbn k1
    replace k2 := cell_later hbn k2
    have hS4 := hS3.after hbn
    replace hb := ext_trans hb hbn
    clear hc hf hbn
    obtain ⟨hc, hf⟩ := bcell hb
    have hz1 : w.heap.size + 1 < w4.heap.size := by have := hb.size; simp at this; omega
    go_wp2
    all_goals try (exfalso; omega)
    all_goals refine end_set4 rfl (Or.inr rfl) _ _ _ _ _ _ rfl rfl rfl (four_of (heap_new2 _ _ _) hb) ⟨rfl, ext_set4 (by repeat (first | exact Below.refl _ _ | refine ext_alloc ?_ _ | refine ext_drewN ?_ _ | refine ext_drew ?_ | refine ext_trans ?_ (by assumption))) (by omega) _ _ _ _⟩
  have he0 := slotE_0 hday hok hsz hc14
  obtain ⟨c1, c2, c3⟩ : dayI x < d ∧ ¬ slotsTo y.data.toList < slotsFrom y.data.toList ∧ (slotsTo y.data.toList : Int) ≤ sl := by omega
  clear hc14
  have hpv := parseV_bd z n
  cases hp : parseV z n with
  | mk p1 p2 =>
  rw [hp] at hpv
  have hp := hide hp
  by_cases hp2 : p2 = 0
  · have hp3 : ((p2 : Int) != 0) = false := by simp [hp2]
    rw [parseT3_ok h he0 (by rw [hp.out]; exact hp2), hp.out]
    clear he0
    replace hp2 := hide hp2
    go_enter Tryz.func26, Tryz.ntmps26
    go_wp2_with fail
    refine (tgWeek_walk _ _ _ _ _ _).mono ?_
    rintro e w1 ⟨rfl, hb⟩
    obtain ⟨hc, hf⟩ := bcell hb
    have hS1 := hS.after (ext_trans (by repeat (first | exact Below.refl _ _ | refine ext_alloc ?_ _ | refine ext_drewN ?_ _ | refine ext_drew ?_ | refine ext_trans ?_ (by assumption))) hb)
    go_wp2_with fail
    refine (split_walk' 32 s [x, y, z] hz.out (by have := hs.out; omega) _ hS1).mono ?_
    rintro e w2 ⟨rfl, hbn, hcl⟩
    have k0 := hcl 0 x rfl
    have k1 := hcl 1 y rfl
    have k2 := hcl 2 z rfl
    have hS2 := hS1.after hbn
    replace hb := ext_trans hb hbn
    clear hc hf hbn hcl
    obtain ⟨hc, hf⟩ := bcell hb
    go_wp2_with fail
    refine (day_yes x (by omega) _).mono ?_
    rintro e w3 ⟨rfl, hbn⟩
    replace k1 := cell_later hbn k1
    replace k2 := cell_later hbn k2
    have hS3 := hS2.after hbn
    replace hb := ext_trans hb hbn
    clear hc hf hbn k0
    obtain ⟨hc, hf⟩ := bcell hb
    go_wp2_with fail
    refine (slots_walk y (by have := hs.out; omega) _ hS3).mono ?_
    rintro e w4 ⟨rfl, hbn⟩
    replace k1 := cell_later hbn k1
    replace k2 := cell_later hbn k2
    have hS4 := hS3.after hbn
    replace hb := ext_trans hb hbn
    clear hc hf hbn
    obtain ⟨hc, hf⟩ := bcell hb
    have hz1 : w.heap.size + 1 < w4.heap.size := by have := hb.size; simp at this; omega
    have hz2 : w1.heap.size < w4.heap.size := World.block_lt_of_cell? _ _ k2
    have hz4 : w.heap.size ≤ w4.heap.size := by omega
    go_wp2_with fail
    all_goals try (exfalso; omega)
    refine (wsParse_walk z n (by have := hs.out; omega) _ (hS4.alloc _)).mono ?_
    rintro e w5 ⟨rfl, hb5⟩
    rw [hp.out]
    have hbt : Below w4.heap.size w4 w5 := ext_trans ((by repeat (first | exact Below.refl _ _ | refine ext_alloc ?_ _ | refine ext_drewN ?_ _ | refine ext_drew ?_ | refine ext_trans ?_ (by assumption)))) hb5
    replace hb := ext_trans hb hbt
    clear hc hf hbt
    obtain ⟨hc, hf⟩ := bcell hb
    obtain ⟨hc5, hf5⟩ := bcell hb5
    go_wp2
    refine end_set4 rfl (Or.inr rfl) _ _ _ _ _ _ rfl rfl rfl (four_set (four_of (heap_new2 _ _ _) hb) _ _) ⟨rfl, ext_set4 (ext_set (by repeat (first | exact Below.refl _ _ | refine ext_alloc ?_ _ | refine ext_drewN ?_ _ | refine ext_drew ?_ | refine ext_trans ?_ (by assumption))) hz4 _) (by omega) _ _ _ _⟩
  · have hp3 : ((p2 : Int) != 0) = true := by simp [hp2]
    rw [parseT3_err2 h he0 (by rw [hp.out]; exact hp2), hp.out]
    clear he0
    replace hp2 := hide hp2
    go_enter Tryz.func26, Tryz.ntmps26
    go_wp2_with fail
    refine (tgWeek_walk _ _ _ _ _ _).mono ?_
    rintro e w1 ⟨rfl, hb⟩
    obtain ⟨hc, hf⟩ := bcell hb
    have hS1 := hS.after (ext_trans (by repeat (first | exact Below.refl _ _ | refine ext_alloc ?_ _ | refine ext_drewN ?_ _ | refine ext_drew ?_ | refine ext_trans ?_ (by assumption))) hb)
    go_wp2_with fail
    refine (split_walk' 32 s [x, y, z] hz.out (by have := hs.out; omega) _ hS1).mono ?_
    rintro e w2 ⟨rfl, hbn, hcl⟩
    have k0 := hcl 0 x rfl
    have k1 := hcl 1 y rfl
    have k2 := hcl 2 z rfl
    have hS2 := hS1.after hbn
    replace hb := ext_trans hb hbn
    clear hc hf hbn hcl
    obtain ⟨hc, hf⟩ := bcell hb
    go_wp2_with fail
    refine (day_yes x (by omega) _).mono ?_
    rintro e w3 ⟨rfl, hbn⟩
    replace k1 := cell_later hbn k1
    replace k2 := cell_later hbn k2
    have hS3 := hS2.after hbn
    replace hb := ext_trans hb hbn
    clear hc hf hbn k0
    obtain ⟨hc, hf⟩ := bcell hb
    go_wp2_with fail
    refine (slots_walk y (by have := hs.out; omega) _ hS3).mono ?_
    rintro e w4 ⟨rfl, hbn⟩
    replace k1 := cell_later hbn k1
    replace k2 := cell_later hbn k2
    have hS4 := hS3.after hbn
    replace hb := ext_trans hb hbn
    clear hc hf hbn
    obtain ⟨hc, hf⟩ := bcell hb
    have hz1 : w.heap.size + 1 < w4.heap.size := by have := hb.size; simp at this; omega
    have hz2 : w1.heap.size < w4.heap.size := World.block_lt_of_cell? _ _ k2
    have hz4 : w.heap.size ≤ w4.heap.size := by omega
    go_wp2_with fail
    all_goals try (exfalso; omega)
    refine (wsParse_walk z n (by have := hs.out; omega) _ (hS4.alloc _)).mono ?_
    rintro e w5 ⟨rfl, hb5⟩
    rw [hp.out]
    have hbt : Below w4.heap.size w4 w5 := ext_trans ((by repeat (first | exact Below.refl _ _ | refine ext_alloc ?_ _ | refine ext_drewN ?_ _ | refine ext_drew ?_ | refine ext_trans ?_ (by assumption)))) hb5
    replace hb := ext_trans hb hbt
    clear hc hf hbt
    obtain ⟨hc, hf⟩ := bcell hb
    obtain ⟨hc5, hf5⟩ := bcell hb5
    go_wp2
    refine end_set4 rfl (Or.inr rfl) _ _ _ _ _ _ rfl rfl rfl (four_of (heap_new2 _ _ _) hb) ⟨rfl, ext_set4 (by repeat (first | exact Below.refl _ _ | refine ext_alloc ?_ _ | refine ext_drewN ?_ _ | refine ext_drew ?_ | refine ext_trans ?_ (by assumption))) (by omega) _ _ _ _⟩

/-- timegrid.Parse, whole. -/
theorem tgParse_walk (d sl b m n : Int) (s : ByteArray) (hs : s.size < 1073741824) (w : World) (hS : Std w) :
    Calls Tryz.prog 26 #[.agg #[.int .i64 d, .int .i64 sl, .int .i64 b, .int .i64 m], .int .i64 n, .string s] w fun e w' => e = .returned (timeVal (parseT d sl b m n (Lib.splitB ⟨#[32]⟩ 0 (Lib.countB s ⟨#[32]⟩) s))) ∧ Below w.heap.size w w' := by
  cases hw : weekB d sl b m n
  · rw [show parseT d sl b m n (Lib.splitB ⟨#[32]⟩ 0 (Lib.countB s ⟨#[32]⟩) s) = (0, 0, 0, 0, 1) from if_pos hw]
    exact parse_noweek d sl b m n s hw w
  · obtain ⟨zs, hz⟩ : ∃ zs, Lib.splitB ⟨#[32]⟩ 0 (Lib.countB s ⟨#[32]⟩) s = zs := ⟨_, rfl⟩
    rw [hz]
    match zs, hz with
    | [], hz => exact parse_badlen d sl b m n s [] hz (by simp) hs hw w hS |> fun h => by rw [show parseT d sl b m n [] = (0, 0, 0, 0, 4) from by simp [parseT, hw]]; exact h
    | [x], hz => exact parse_badlen d sl b m n s [x] hz (by simp) hs hw w hS |> fun h => by rw [show parseT d sl b m n [x] = (0, 0, 0, 0, 4) from by simp [parseT, hw]]; exact h
    | [x, y], hz => exact parse_two d sl b m n s x y hz hs hw w hS
    | [x, y, z], hz => exact parse_three d sl b m n s x y z hz hs hw w hS
    | x :: y :: z :: u :: r, hz => exact parse_badlen d sl b m n s (x :: y :: z :: u :: r) hz (by simp) hs hw w hS |> fun h => by rw [show parseT d sl b m n (x :: y :: z :: u :: r) = (0, 0, 0, 0, 4) from by simp [parseT, hw]]; exact h
end Go.Proofs.YtgbkochjoaalhaaGreatDoor
