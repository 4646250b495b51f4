/- Walk of timegrid.Parse. Conditions: texts shorter than 2^30 bytes. Walk of timegrid.Parse, on: two words, three words. Conditions: texts shorter than 2^30 bytes. The sanity check of the statements about timegrid: it answers true. No condition but what the program's variables hold. -/
import Derived.Test.YtnbcaklnpflihaaGreatDoorKTgD
import Derived.Test.YtnbcaklnpflihaaGreatDoorKEnds
import Derived.Test.YtnbcaklnpflihaaGreatDoorKTgC
namespace Go.Proofs.YtnbcaklnpflihaaGreatDoor
open Go.RowKit

/-- The error of day and slots: 4, 14 or 0. -/
def slotE (d sl : Int) (x y z : ByteArray) : Int :=
  if dayI x < 0 ∨ slotsOk y.data.toList = false ∨ z.size = 0 then 4 else if d ≤ dayI x ∨ slotsTo y.data.toList < slotsFrom y.data.toList ∨ sl < slotsTo y.data.toList then 14 else 0
/-- What Parse returns: weeks, day, start, length, error. -/
def parseT (d sl b m n : Int) (zs : List ByteArray) : Int × Int × Int × Int × Int :=
  if weekB d sl b m n = false then (0, 0, 0, 0, 1) else
  match zs with
  | [x, y] => if slotE d sl x y y = 0 then (2 ^ n.toNat - 1, dayI x, slotsFrom y.data.toList - 1, slotsTo y.data.toList - slotsFrom y.data.toList + 1, 0) else (0, 0, 0, 0, slotE d sl x y y)
  | [x, y, z] => if slotE d sl x y z = 0 then
      if (parseV z n).2 = 0 then ((parseV z n).1, dayI x, slotsFrom y.data.toList - 1, slotsTo y.data.toList - slotsFrom y.data.toList + 1, 0) else (0, 0, 0, 0, (parseV z n).2)
    else (0, 0, 0, 0, slotE d sl x y z)
  | _ => (0, 0, 0, 0, 4)
def timeVal (v : Int × Int × Int × Int × Int) : Value := .tuple #[.agg #[.int .i64 v.1, .int .i64 v.2.1, .int .i64 v.2.2.1, .int .i64 v.2.2.2.1], .int .i64 v.2.2.2.2]

set_option maxHeartbeats 1000000 in
theorem parse_noweek (d sl b m n : Int) (s : ByteArray) (h : weekB d sl b m n = false) (w : World) :
    Calls Tryz.prog 82 #[.agg #[.int .i64 d, .int .i64 sl, .int .i64 b, .int .i64 m], .int .i64 n, .string s] w fun e w' => e = .returned (timeVal (0, 0, 0, 0, 1)) ∧ Below w.heap.size w w' := by
  go_enter Tryz.func82, Tryz.ntmps82
  go_wp2_with fail
  refine (tgWeek_walk _ _ _ _ _ _).mono ?_
  rintro e w1 ⟨rfl, hb⟩
  obtain ⟨hc, hf⟩ := bcell hb
  go_wp2
  refine end_set4 rfl (Or.inr rfl) _ _ _ _ _ _ rfl rfl rfl (four_of (heap_new2 _ _ _) hb) ⟨rfl, ext_set4 (by repeat (first | exact Below.refl _ _ | refine ext_alloc ?_ _ | refine ext_drewN ?_ _ | refine ext_drew ?_ | refine ext_trans ?_ (by assumption))) (by omega) _ _ _ _⟩

theorem isEmpty_false (z : ByteArray) (h : z.size ≠ 0) : z.toList.isEmpty = false := by
  rw [Lib.toList_data]
  cases hl : z.data.toList with
  | nil => exact absurd (by rw [← ba_len, hl]; rfl) h
  | cons a r => rfl
theorem isEmpty_true (z : ByteArray) (h : z.size = 0) : z.toList.isEmpty = true := by
  rw [Lib.toList_data]
  cases hl : z.data.toList with
  | nil => rfl
  | cons a r => rw [← ba_len, hl] at h; simp at h
theorem splitB_mem {c : UInt8} {s x : ByteArray} {zs : List ByteArray} (hz : Lib.splitB ⟨#[c]⟩ 0 (Lib.countB s ⟨#[c]⟩) s = zs) (hx : x ∈ zs) : x.size ≤ s.size := by
  have h1 : x.data.toList ∈ splitOn1 c s.data.toList := by rw [← splitB_one, hz]; exact List.mem_map.2 ⟨x, hx, rfl⟩
  have := (splitOn1_mem c _ _ h1).1
  rwa [ba_len, ba_len] at this

set_option maxHeartbeats 2000000 in
theorem parse_badlen (d sl b m n : Int) (s : ByteArray) (zs : List ByteArray) (hz : Lib.splitB ⟨#[32]⟩ 0 (Lib.countB s ⟨#[32]⟩) s = zs) (hl : zs.length < 2 ∨ 3 < zs.length) (hs : s.size < 1073741824) (h : weekB d sl b m n = true) (w : World) (hS : Std w) :
    Calls Tryz.prog 82 #[.agg #[.int .i64 d, .int .i64 sl, .int .i64 b, .int .i64 m], .int .i64 n, .string s] w fun e w' => e = .returned (timeVal (0, 0, 0, 0, 4)) ∧ Below w.heap.size w w' := by
  have hcl : Lib.countB s ⟨#[32]⟩ ≤ s.size := Lib.countB_le ⟨#[32]⟩ (Nat.le_refl 1) _ s (Nat.le_refl _)
  have hzl := splitB_len 32 s
  rw [hz] at hzl
  have hzl' : zs.length ≤ 1073741824 := by omega
  clear hzl
  have hz := hide hz
  have hs := hide hs
  rcases hl with hl | hl
  all_goals
    go_enter Tryz.func82, Tryz.ntmps82
    go_wp2_with fail
    refine (tgWeek_walk _ _ _ _ _ _).mono ?_
    rintro e w1 ⟨rfl, hb⟩
    obtain ⟨hc, hf⟩ := bcell hb
    have hS1 := hS.after (ext_trans (by repeat (first | exact Below.refl _ _ | refine ext_alloc ?_ _ | refine ext_drewN ?_ _ | refine ext_drew ?_ | refine ext_trans ?_ (by assumption))) hb)
    go_wp2_with fail
    refine (split_walk' 32 s zs hz.out (by have := hs.out; omega) _ hS1).mono ?_
    rintro e w2 ⟨rfl, hbn, -⟩
    replace hb := ext_trans hb hbn
    clear hc hf hbn
    obtain ⟨hc, hf⟩ := bcell hb
    go_wp2
    all_goals try (exfalso; omega)
    all_goals refine end_set4 rfl (Or.inr rfl) _ _ _ _ _ _ rfl rfl rfl (four_of (heap_new2 _ _ _) hb) ⟨rfl, ext_set4 (by repeat (first | exact Below.refl _ _ | refine ext_alloc ?_ _ | refine ext_drewN ?_ _ | refine ext_drew ?_ | refine ext_trans ?_ (by assumption))) (by omega) _ _ _ _⟩

end Go.Proofs.YtnbcaklnpflihaaGreatDoor

namespace Go.Proofs.YtnbcaklnpflihaaGreatDoor
open Go.RowKit

theorem slotE_4 {d sl : Int} {x y z : ByteArray} (h : dayI x < 0 ∨ slotsOk y.data.toList = false ∨ z.size = 0) : slotE d sl x y z = 4 := if_pos h
theorem slotE_14 {d sl : Int} {x y z : ByteArray} (h : ¬ dayI x < 0) (h' : slotsOk y.data.toList = true) (hz : z.size ≠ 0) (hc : d ≤ dayI x ∨ slotsTo y.data.toList < slotsFrom y.data.toList ∨ sl < slotsTo y.data.toList) : slotE d sl x y z = 14 := by
  unfold slotE; rw [if_neg (by simp [h, h', hz]), if_pos hc]
theorem slotE_0 {d sl : Int} {x y z : ByteArray} (h : ¬ dayI x < 0) (h' : slotsOk y.data.toList = true) (hz : z.size ≠ 0) (hc : ¬ (d ≤ dayI x ∨ slotsTo y.data.toList < slotsFrom y.data.toList ∨ sl < slotsTo y.data.toList)) : slotE d sl x y z = 0 := by
  unfold slotE; rw [if_neg (by simp [h, h', hz]), if_neg hc]
theorem parseT2_err {d sl b m n : Int} {x y : ByteArray} {k : Int} (h : weekB d sl b m n = true) (he : slotE d sl x y y = k) (hk : k ≠ 0) : parseT d sl b m n [x, y] = (0, 0, 0, 0, k) := by
  simp [parseT, h, he, hk]
theorem parseT2_ok {d sl b m n : Int} {x y : ByteArray} (h : weekB d sl b m n = true) (he : slotE d sl x y y = 0) : parseT d sl b m n [x, y] = ((2 ^ n.toNat - 1, dayI x, slotsFrom y.data.toList - 1, slotsTo y.data.toList - slotsFrom y.data.toList + 1, 0) : Int × Int × Int × Int × Int) := by
  simp [parseT, h, he]
theorem parseT3_err {d sl b m n : Int} {x y z : ByteArray} {k : Int} (h : weekB d sl b m n = true) (he : slotE d sl x y z = k) (hk : k ≠ 0) : parseT d sl b m n [x, y, z] = (0, 0, 0, 0, k) := by
  simp [parseT, h, he, hk]
theorem parseT3_err2 {d sl b m n : Int} {x y z : ByteArray} (h : weekB d sl b m n = true) (he : slotE d sl x y z = 0) (hp : (parseV z n).2 ≠ 0) : parseT d sl b m n [x, y, z] = ((0, 0, 0, 0, (parseV z n).2) : Int × Int × Int × Int × Int) := by
  simp [parseT, h, he, hp]
theorem parseT3_ok {d sl b m n : Int} {x y z : ByteArray} (h : weekB d sl b m n = true) (he : slotE d sl x y z = 0) (hp : (parseV z n).2 = 0) : parseT d sl b m n [x, y, z] = (((parseV z n).1, dayI x, slotsFrom y.data.toList - 1, slotsTo y.data.toList - slotsFrom y.data.toList + 1, 0) : Int × Int × Int × Int × Int) := by
  simp [parseT, h, he, hp]
theorem pow_facts (n : Int) (h2 : n ≤ 20) : wrap64 ((2 : Int) ^ n.toNat) = (2 : Int) ^ n.toNat ∧ wrap64 ((2 : Int) ^ n.toNat - 1) = (2 : Int) ^ n.toNat - 1 := by
  refine ⟨wrap64_powZ n h2, ?_⟩
  have hpl := pow_small n.toNat (by omega)
  have e : ((2 : Int) ^ n.toNat) = ((2 ^ n.toNat : Nat) : Int) := by simp
  rw [e]
  generalize 2 ^ n.toNat = m at hpl
  exact IntWalk.wrap64_in _ ⟨by omega, by omega⟩
theorem numL_nil : numOk [] = false := rfl
theorem slotsOk_size {y : ByteArray} (h : slotsOk y.data.toList = true) : y.size ≠ 0 := by
  intro e
  have : y.data.toList = [] := List.eq_nil_of_length_eq_zero (by rw [ba_len]; exact e)
  rw [this] at h
  revert h; decide
theorem itemsV_bd (n : Nat) (hn : n ≤ 20) : ∀ (l : List (List UInt8)) (acc : Nat), acc < 1048576 → (itemsV n l acc).1 < 1048576 ∧ (itemsV n l acc).2 ≤ 16
  | [], acc, h => by
    unfold itemsV
    split
    · simp
    · exact ⟨h, by simp⟩
  | x :: r, acc, h => by
    rw [itemsV_cons]
    have hi := itemV_lt x n hn
    split
    · exact itemsV_bd n hn r _ (or_lt _ _ h hi.1)
    · exact ⟨by simp, by simp; omega⟩
theorem parseV_bd (z : ByteArray) (n : Int) : (parseV z n).1 < 1048576 ∧ (parseV z n).2 ≤ 16 := by
  unfold parseV
  split
  · exact ⟨by simp, by simp⟩
  · exact itemsV_bd _ (by omega) _ _ (by omega)
theorem slots_bd {l : List UInt8} (h : slotsOk l = true) : 1 ≤ slotsFrom l ∧ slotsFrom l ≤ 99 ∧ 1 ≤ slotsTo l ∧ slotsTo l ≤ 99 := by
  simp only [slotsOk, Bool.and_eq_true] at h
  have h1 := numV_pos h.1
  have h2 := numV_pos h.2
  unfold slotsFrom slotsTo
  omega

set_option maxHeartbeats 4000000 in
theorem parse_two (d sl b m n : Int) (s x y : ByteArray) (hz : Lib.splitB ⟨#[32]⟩ 0 (Lib.countB s ⟨#[32]⟩) s = [x, y]) (hs : s.size < 1073741824) (h : weekB d sl b m n = true) (w : World) (hS : Std w) :
    Calls Tryz.prog 82 #[.agg #[.int .i64 d, .int .i64 sl, .int .i64 b, .int .i64 m], .int .i64 n, .string s] w fun e w' => e = .returned (timeVal (parseT d sl b m n [x, y])) ∧ Below w.heap.size w w' := by
  have sy := splitB_mem hz (x := y) (by simp)
  have hn : 1 ≤ n ∧ n ≤ 20 := by
    simp only [weekB, Bool.and_eq_true, decide_eq_true_eq] at h; exact h.2
  obtain ⟨hn1, hn2⟩ := hn
  obtain ⟨hd1, hd2⟩ := dayI_bd x
  have hz := hide hz
  have hs := hide hs
  by_cases hday : dayI x < 0
  · rw [parseT2_err h (slotE_4 (Or.inl hday)) (by decide)]
    go_enter Tryz.func82, Tryz.ntmps82
    go_wp2_with fail
    refine (tgWeek_walk _ _ _ _ _ _).mono ?_
    rintro e w1 ⟨rfl, hb⟩
    obtain ⟨hc, hf⟩ := bcell hb
    have hS1 := hS.after (ext_trans (by repeat (first | exact Below.refl _ _ | refine ext_alloc ?_ _ | refine ext_drewN ?_ _ | refine ext_drew ?_ | refine ext_trans ?_ (by assumption))) hb)
    go_wp2_with fail
    refine (split_walk' 32 s [x, y] hz.out (by have := hs.out; omega) _ hS1).mono ?_
    rintro e w2 ⟨rfl, hbn, hcl⟩
    have k0 := hcl 0 x rfl
    have k1 := hcl 1 y rfl
    have hS2 := hS1.after hbn
    replace hb := ext_trans hb hbn
    clear hc hf hbn hcl
    obtain ⟨hc, hf⟩ := bcell hb
    go_wp2_with fail
    refine (day_no x hday _).mono ?_
    rintro e w3 ⟨rfl, hbn⟩
    replace k1 := cell_later hbn k1
    have hS3 := hS2.after hbn
    replace hb := ext_trans hb hbn
    clear hc hf hbn k0
    obtain ⟨hc, hf⟩ := bcell hb
    go_wp2_with fail
    refine (slots_walk y (by have := hs.out; omega) _ hS3).mono ?_
    rintro e w4 ⟨rfl, hbn⟩
    replace k1 := cell_later hbn k1
    have hS4 := hS3.after hbn
    replace hb := ext_trans hb hbn
    clear hc hf hbn
    obtain ⟨hc, hf⟩ := bcell hb
    have hz1 : w.heap.size + 1 < w4.heap.size := by have := hb.size; simp at this; omega
    go_wp2
    all_goals try (exfalso; omega)
    all_goals refine end_set4 rfl (Or.inr rfl) _ _ _ _ _ _ rfl rfl rfl (four_of (heap_new2 _ _ _) hb) ⟨rfl, ext_set4 (by repeat (first | exact Below.refl _ _ | refine ext_alloc ?_ _ | refine ext_drewN ?_ _ | refine ext_drew ?_ | refine ext_trans ?_ (by assumption))) (by omega) _ _ _ _⟩
  have hday' : decide (0 ≤ dayI x) = true := by simp; omega
  cases hok : slotsOk y.data.toList
  · rw [parseT2_err h (slotE_4 (Or.inr (Or.inl hok))) (by decide)]
    go_enter Tryz.func82, Tryz.ntmps82
    go_wp2_with fail
    refine (tgWeek_walk _ _ _ _ _ _).mono ?_
    rintro e w1 ⟨rfl, hb⟩
    obtain ⟨hc, hf⟩ := bcell hb
    have hS1 := hS.after (ext_trans (by repeat (first | exact Below.refl _ _ | refine ext_alloc ?_ _ | refine ext_drewN ?_ _ | refine ext_drew ?_ | refine ext_trans ?_ (by assumption))) hb)
    go_wp2_with fail
    refine (split_walk' 32 s [x, y] hz.out (by have := hs.out; omega) _ hS1).mono ?_
    rintro e w2 ⟨rfl, hbn, hcl⟩
    have k0 := hcl 0 x rfl
    have k1 := hcl 1 y rfl
    have hS2 := hS1.after hbn
    replace hb := ext_trans hb hbn
    clear hc hf hbn hcl
    obtain ⟨hc, hf⟩ := bcell hb
    go_wp2_with fail
    refine (day_yes x (by omega) _).mono ?_
    rintro e w3 ⟨rfl, hbn⟩
    replace k1 := cell_later hbn k1
    have hS3 := hS2.after hbn
    replace hb := ext_trans hb hbn
    clear hc hf hbn k0
    obtain ⟨hc, hf⟩ := bcell hb
    go_wp2_with fail
    refine (slots_walk y (by have := hs.out; omega) _ hS3).mono ?_
    rintro e w4 ⟨rfl, hbn⟩
    replace k1 := cell_later hbn k1
    have hS4 := hS3.after hbn
    replace hb := ext_trans hb hbn
    clear hc hf hbn
    obtain ⟨hc, hf⟩ := bcell hb
    have hz1 : w.heap.size + 1 < w4.heap.size := by have := hb.size; simp at this; omega
    go_wp2
    all_goals try (exfalso; omega)
    all_goals refine end_set4 rfl (Or.inr rfl) _ _ _ _ _ _ rfl rfl rfl (four_of (heap_new2 _ _ _) hb) ⟨rfl, ext_set4 (by repeat (first | exact Below.refl _ _ | refine ext_alloc ?_ _ | refine ext_drewN ?_ _ | refine ext_drew ?_ | refine ext_trans ?_ (by assumption))) (by omega) _ _ _ _⟩
  have hsz := slotsOk_size hok
  have hem := isEmpty_false y hsz
  obtain ⟨q1, q2, q3, q4⟩ := slots_bd hok
  by_cases hc14 : d ≤ dayI x ∨ slotsTo y.data.toList < slotsFrom y.data.toList ∨ sl < slotsTo y.data.toList
  · rw [parseT2_err h (slotE_14 hday hok hsz hc14) (by decide)]
    go_enter Tryz.func82, Tryz.ntmps82
    go_wp2_with fail
    refine (tgWeek_walk _ _ _ _ _ _).mono ?_
    rintro e w1 ⟨rfl, hb⟩
    obtain ⟨hc, hf⟩ := bcell hb
    have hS1 := hS.after (ext_trans (by repeat (first | exact Below.refl _ _ | refine ext_alloc ?_ _ | refine ext_drewN ?_ _ | refine ext_drew ?_ | refine ext_trans ?_ (by assumption))) hb)
    go_wp2_with fail
    refine (split_walk' 32 s [x, y] hz.out (by have := hs.out; omega) _ hS1).mono ?_
    rintro e w2 ⟨rfl, hbn, hcl⟩
    have k0 := hcl 0 x rfl
    have k1 := hcl 1 y rfl
    have hS2 := hS1.after hbn
    replace hb := ext_trans hb hbn
    clear hc hf hbn hcl
    obtain ⟨hc, hf⟩ := bcell hb
    go_wp2_with fail
    refine (day_yes x (by omega) _).mono ?_
    rintro e w3 ⟨rfl, hbn⟩
    replace k1 := cell_later hbn k1
    have hS3 := hS2.after hbn
    replace hb := ext_trans hb hbn
    clear hc hf hbn k0
    obtain ⟨hc, hf⟩ := bcell hb
    go_wp2_with fail
    refine (slots_walk y (by have := hs.out; omega) _ hS3).mono ?_
    rintro e w4 ⟨rfl, hbn⟩
    replace k1 := cell_later hbn k1
    have hS4 := hS3.after hbn
    replace hb := ext_trans hb hbn
    clear hc hf hbn
    obtain ⟨hc, hf⟩ := bcell hb
    have hz1 : w.heap.size + 1 < w4.heap.size := by have := hb.size; simp at this; omega
    go_wp2
    all_goals try (exfalso; omega)
    all_goals refine end_set4 rfl (Or.inr rfl) _ _ _ _ _ _ rfl rfl rfl (four_of (heap_new2 _ _ _) hb) ⟨rfl, ext_set4 (by repeat (first | exact Below.refl _ _ | refine ext_alloc ?_ _ | refine ext_drewN ?_ _ | refine ext_drew ?_ | refine ext_trans ?_ (by assumption))) (by omega) _ _ _ _⟩
  have he0 := slotE_0 hday hok hsz hc14
  obtain ⟨c1, c2, c3⟩ : dayI x < d ∧ ¬ slotsTo y.data.toList < slotsFrom y.data.toList ∧ (slotsTo y.data.toList : Int) ≤ sl := by omega
  clear hc14
  rw [parseT2_ok h he0]
  obtain ⟨hpw, hpw1⟩ := pow_facts n hn2
  clear he0
  go_enter Tryz.func82, Tryz.ntmps82
  go_wp2_with fail
  refine (tgWeek_walk _ _ _ _ _ _).mono ?_
  rintro e w1 ⟨rfl, hb⟩
  obtain ⟨hc, hf⟩ := bcell hb
  have hS1 := hS.after (ext_trans (by repeat (first | exact Below.refl _ _ | refine ext_alloc ?_ _ | refine ext_drewN ?_ _ | refine ext_drew ?_ | refine ext_trans ?_ (by assumption))) hb)
  go_wp2_with fail
  refine (split_walk' 32 s [x, y] hz.out (by have := hs.out; omega) _ hS1).mono ?_
  rintro e w2 ⟨rfl, hbn, hcl⟩
  have k0 := hcl 0 x rfl
  have k1 := hcl 1 y rfl
  have hS2 := hS1.after hbn
  replace hb := ext_trans hb hbn
  clear hc hf hbn hcl
  obtain ⟨hc, hf⟩ := bcell hb
  go_wp2_with fail
  refine (day_yes x (by omega) _).mono ?_
  rintro e w3 ⟨rfl, hbn⟩
  replace k1 := cell_later hbn k1
  have hS3 := hS2.after hbn
  replace hb := ext_trans hb hbn
  clear hc hf hbn k0
  obtain ⟨hc, hf⟩ := bcell hb
  go_wp2_with fail
  refine (slots_walk y (by have := hs.out; omega) _ hS3).mono ?_
  rintro e w4 ⟨rfl, hbn⟩
  replace k1 := cell_later hbn k1
  have hS4 := hS3.after hbn
  replace hb := ext_trans hb hbn
  clear hc hf hbn
  obtain ⟨hc, hf⟩ := bcell hb
  have hz1 : w.heap.size + 1 < w4.heap.size := by have := hb.size; simp at this; omega
  go_wp2
  all_goals try (exfalso; omega)
  all_goals refine end_set4a rfl (Or.inr rfl) _ _ _ _ _ _ rfl rfl rfl (four_of (heap_new2 _ _ _) hb) ⟨rfl, ext_alloc (ext_set4 (by repeat (first | exact Below.refl _ _ | refine ext_alloc ?_ _ | refine ext_drewN ?_ _ | refine ext_drew ?_ | refine ext_trans ?_ (by assumption))) (by omega) _ _ _ _) _⟩
set_option maxHeartbeats 4000000 in
theorem parse_three (d sl b m n : Int) (s x y z : ByteArray) (hz : Lib.splitB ⟨#[32]⟩ 0 (Lib.countB s ⟨#[32]⟩) s = [x, y, z]) (hs : s.size < 1073741824) (h : weekB d sl b m n = true) (w : World) (hS : Std w) :
    Calls Tryz.prog 82 #[.agg #[.int .i64 d, .int .i64 sl, .int .i64 b, .int .i64 m], .int .i64 n, .string s] w fun e w' => e = .returned (timeVal (parseT d sl b m n [x, y, z])) ∧ Below w.heap.size w w' := by
  have sy := splitB_mem hz (x := y) (by simp)
  have sz := splitB_mem hz (x := z) (by simp)
  have hn : 1 ≤ n ∧ n ≤ 20 := by
    simp only [weekB, Bool.and_eq_true, decide_eq_true_eq] at h; exact h.2
  obtain ⟨hn1, hn2⟩ := hn
  obtain ⟨hd1, hd2⟩ := dayI_bd x
  have hz := hide hz
  have hs := hide hs
  by_cases hday : dayI x < 0
  · rw [parseT3_err h (slotE_4 (Or.inl hday)) (by decide)]
    go_enter Tryz.func82, Tryz.ntmps82
    go_wp2_with fail
    refine (tgWeek_walk _ _ _ _ _ _).mono ?_
    rintro e w1 ⟨rfl, hb⟩
    obtain ⟨hc, hf⟩ := bcell hb
    have hS1 := hS.after (ext_trans (by repeat (first | exact Below.refl _ _ | refine ext_alloc ?_ _ | refine ext_drewN ?_ _ | refine ext_drew ?_ | refine ext_trans ?_ (by assumption))) hb)
    go_wp2_with fail
    refine (split_walk' 32 s [x, y, z] hz.out (by have := hs.out; omega) _ hS1).mono ?_
    rintro e w2 ⟨rfl, hbn, hcl⟩
    have k0 := hcl 0 x rfl
    have k1 := hcl 1 y rfl
    have k2 := hcl 2 z rfl
    have hS2 := hS1.after hbn
    replace hb := ext_trans hb hbn
    clear hc hf hbn hcl
    obtain ⟨hc, hf⟩ := bcell hb
    go_wp2_with fail
    refine (day_no x hday _).mono ?_
    rintro e w3 ⟨rfl, hbn⟩
    replace k1 := cell_later hbn k1
    replace k2 := cell_later hbn k2
    have hS3 := hS2.after hbn
    replace hb := ext_trans hb hbn
    clear hc hf hbn k0
    obtain ⟨hc, hf⟩ := bcell hb
    go_wp2_with fail
    refine (slots_walk y (by have := hs.out; omega) _ hS3).mono ?_
    rintro e w4 ⟨rfl, hbn⟩
    replace k1 := cell_later hbn k1
    replace k2 := cell_later hbn k2
    have hS4 := hS3.after hbn
    replace hb := ext_trans hb hbn
    clear hc hf hbn
    obtain ⟨hc, hf⟩ := bcell hb
    have hz1 : w.heap.size + 1 < w4.heap.size := by have := hb.size; simp at this; omega
    go_wp2
    all_goals try (exfalso; omega)
    all_goals refine end_set4 rfl (Or.inr rfl) _ _ _ _ _ _ rfl rfl rfl (four_of (heap_new2 _ _ _) hb) ⟨rfl, ext_set4 (by repeat (first | exact Below.refl _ _ | refine ext_alloc ?_ _ | refine ext_drewN ?_ _ | refine ext_drew ?_ | refine ext_trans ?_ (by assumption))) (by omega) _ _ _ _⟩
  have hday' : decide (0 ≤ dayI x) = true := by simp; omega
  cases hok : slotsOk y.data.toList
  · rw [parseT3_err h (slotE_4 (Or.inr (Or.inl hok))) (by decide)]
    go_enter Tryz.func82, Tryz.ntmps82
    go_wp2_with fail
    refine (tgWeek_walk _ _ _ _ _ _).mono ?_
    rintro e w1 ⟨rfl, hb⟩
    obtain ⟨hc, hf⟩ := bcell hb
    have hS1 := hS.after (ext_trans (by repeat (first | exact Below.refl _ _ | refine ext_alloc ?_ _ | refine ext_drewN ?_ _ | refine ext_drew ?_ | refine ext_trans ?_ (by assumption))) hb)
    go_wp2_with fail
    refine (split_walk' 32 s [x, y, z] hz.out (by have := hs.out; omega) _ hS1).mono ?_
    rintro e w2 ⟨rfl, hbn, hcl⟩
    have k0 := hcl 0 x rfl
    have k1 := hcl 1 y rfl
    have k2 := hcl 2 z rfl
    have hS2 := hS1.after hbn
    replace hb := ext_trans hb hbn
    clear hc hf hbn hcl
    obtain ⟨hc, hf⟩ := bcell hb
    go_wp2_with fail
    refine (day_yes x (by omega) _).mono ?_
    rintro e w3 ⟨rfl, hbn⟩
    replace k1 := cell_later hbn k1
    replace k2 := cell_later hbn k2
    have hS3 := hS2.after hbn
    replace hb := ext_trans hb hbn
    clear hc hf hbn k0
    obtain ⟨hc, hf⟩ := bcell hb
    go_wp2_with fail
    refine (slots_walk y (by have := hs.out; omega) _ hS3).mono ?_
    rintro e w4 ⟨rfl, hbn⟩
    replace k1 := cell_later hbn k1
    replace k2 := cell_later hbn k2
    have hS4 := hS3.after hbn
    replace hb := ext_trans hb hbn
    clear hc hf hbn
    obtain ⟨hc, hf⟩ := bcell hb
    have hz1 : w.heap.size + 1 < w4.heap.size := by have := hb.size; simp at this; omega
    go_wp2
    all_goals try (exfalso; omega)
    all_goals refine end_set4 rfl (Or.inr rfl) _ _ _ _ _ _ rfl rfl rfl (four_of (heap_new2 _ _ _) hb) ⟨rfl, ext_set4 (by repeat (first | exact Below.refl _ _ | refine ext_alloc ?_ _ | refine ext_drewN ?_ _ | refine ext_drew ?_ | refine ext_trans ?_ (by assumption))) (by omega) _ _ _ _⟩
  by_cases hsz : z.size = 0
  · rw [parseT3_err h (slotE_4 (Or.inr (Or.inr hsz))) (by decide)]
    have hem := isEmpty_true z hsz
    go_enter Tryz.func82, Tryz.ntmps82
    go_wp2_with fail
    refine (tgWeek_walk _ _ _ _ _ _).mono ?_
    rintro e w1 ⟨rfl, hb⟩
    obtain ⟨hc, hf⟩ := bcell hb
    have hS1 := hS.after (ext_trans (by repeat (first | exact Below.refl _ _ | refine ext_alloc ?_ _ | refine ext_drewN ?_ _ | refine ext_drew ?_ | refine ext_trans ?_ (by assumption))) hb)
    go_wp2_with fail
    refine (split_walk' 32 s [x, y, z] hz.out (by have := hs.out; omega) _ hS1).mono ?_
    rintro e w2 ⟨rfl, hbn, hcl⟩
    have k0 := hcl 0 x rfl
    have k1 := hcl 1 y rfl
    have k2 := hcl 2 z rfl
    have hS2 := hS1.after hbn
    replace hb := ext_trans hb hbn
    clear hc hf hbn hcl
    obtain ⟨hc, hf⟩ := bcell hb
    go_wp2_with fail
    refine (day_yes x (by omega) _).mono ?_
    rintro e w3 ⟨rfl, hbn⟩
    replace k1 := cell_later hbn k1
    replace k2 := cell_later hbn k2
    have hS3 := hS2.after hbn
    replace hb := ext_trans hb hbn
    clear hc hf hbn k0
    obtain ⟨hc, hf⟩ := bcell hb
    go_wp2_with fail
    refine (slots_walk y (by have := hs.out; omega) _ hS3).mono ?_
    rintro e w4 ⟨rfl, hbn⟩
    replace k1 := cell_later hbn k1
    replace k2 := cell_later hbn k2
    have hS4 := hS3.after hbn
    replace hb := ext_trans hb hbn
    clear hc hf hbn
    obtain ⟨hc, hf⟩ := bcell hb
    have hz1 : w.heap.size + 1 < w4.heap.size := by have := hb.size; simp at this; omega
    go_wp2
    all_goals try (exfalso; omega)
    all_goals refine end_set4 rfl (Or.inr rfl) _ _ _ _ _ _ rfl rfl rfl (four_of (heap_new2 _ _ _) hb) ⟨rfl, ext_set4 (by repeat (first | exact Below.refl _ _ | refine ext_alloc ?_ _ | refine ext_drewN ?_ _ | refine ext_drew ?_ | refine ext_trans ?_ (by assumption))) (by omega) _ _ _ _⟩
  have hem := isEmpty_false z hsz
  obtain ⟨q1, q2, q3, q4⟩ := slots_bd hok
  by_cases hc14 : d ≤ dayI x ∨ slotsTo y.data.toList < slotsFrom y.data.toList ∨ sl < slotsTo y.data.toList
  · rw [parseT3_err h (slotE_14 hday hok hsz hc14) (by decide)]
    go_enter Tryz.func82, Tryz.ntmps82
    go_wp2_with fail
    refine (tgWeek_walk _ _ _ _ _ _).mono ?_
    rintro e w1 ⟨rfl, hb⟩
    obtain ⟨hc, hf⟩ := bcell hb
    have hS1 := hS.after (ext_trans (by repeat (first | exact Below.refl _ _ | refine ext_alloc ?_ _ | refine ext_drewN ?_ _ | refine ext_drew ?_ | refine ext_trans ?_ (by assumption))) hb)
    go_wp2_with fail
    refine (split_walk' 32 s [x, y, z] hz.out (by have := hs.out; omega) _ hS1).mono ?_
    rintro e w2 ⟨rfl, hbn, hcl⟩
    have k0 := hcl 0 x rfl
    have k1 := hcl 1 y rfl
    have k2 := hcl 2 z rfl
    have hS2 := hS1.after hbn
    replace hb := ext_trans hb hbn
    clear hc hf hbn hcl
    obtain ⟨hc, hf⟩ := bcell hb
    go_wp2_with fail
    refine (day_yes x (by omega) _).mono ?_
    rintro e w3 ⟨rfl, hbn⟩
    replace k1 := cell_later hbn k1
    replace k2 := cell_later hbn k2
    have hS3 := hS2.after hbn
    replace hb := ext_trans hb hbn
    clear hc hf hbn k0
    obtain ⟨hc, hf⟩ := bcell hb
    go_wp2_with fail
    refine (slots_walk y (by have := hs.out; omega) _ hS3).mono ?_
    rintro e w4 ⟨rfl, hbn⟩
    replace k1 := cell_later hbn k1
    replace k2 := cell_later hbn k2
    have hS4 := hS3.after hbn
    replace hb := ext_trans hb hbn
    clear hc hf hbn
    obtain ⟨hc, hf⟩ := bcell hb
    have hz1 : w.heap.size + 1 < w4.heap.size := by have := hb.size; simp at this; omega
    go_wp2
    all_goals try (exfalso; omega)
    all_goals refine end_set4 rfl (Or.inr rfl) _ _ _ _ _ _ rfl rfl rfl (four_of (heap_new2 _ _ _) hb) ⟨rfl, ext_set4 (by repeat (first | exact Below.refl _ _ | refine ext_alloc ?_ _ | refine ext_drewN ?_ _ | refine ext_drew ?_ | refine ext_trans ?_ (by assumption))) (by omega) _ _ _ _⟩
  have he0 := slotE_0 hday hok hsz hc14
  obtain ⟨c1, c2, c3⟩ : dayI x < d ∧ ¬ slotsTo y.data.toList < slotsFrom y.data.toList ∧ (slotsTo y.data.toList : Int) ≤ sl := by omega
  clear hc14
  have hpv := parseV_bd z n
  cases hp : parseV z n with
  | mk p1 p2 =>
  rw [hp] at hpv
  have hp := hide hp
  by_cases hp2 : p2 = 0
  · have hp3 : ((p2 : Int) != 0) = false := by simp [hp2]
    rw [parseT3_ok h he0 (by rw [hp.out]; exact hp2), hp.out]
    clear he0
    replace hp2 := hide hp2
    go_enter Tryz.func82, Tryz.ntmps82
    go_wp2_with fail
    refine (tgWeek_walk _ _ _ _ _ _).mono ?_
    rintro e w1 ⟨rfl, hb⟩
    obtain ⟨hc, hf⟩ := bcell hb
    have hS1 := hS.after (ext_trans (by repeat (first | exact Below.refl _ _ | refine ext_alloc ?_ _ | refine ext_drewN ?_ _ | refine ext_drew ?_ | refine ext_trans ?_ (by assumption))) hb)
    go_wp2_with fail
    refine (split_walk' 32 s [x, y, z] hz.out (by have := hs.out; omega) _ hS1).mono ?_
    rintro e w2 ⟨rfl, hbn, hcl⟩
    have k0 := hcl 0 x rfl
    have k1 := hcl 1 y rfl
    have k2 := hcl 2 z rfl
    have hS2 := hS1.after hbn
    replace hb := ext_trans hb hbn
    clear hc hf hbn hcl
    obtain ⟨hc, hf⟩ := bcell hb
    go_wp2_with fail
    refine (day_yes x (by omega) _).mono ?_
    rintro e w3 ⟨rfl, hbn⟩
    replace k1 := cell_later hbn k1
    replace k2 := cell_later hbn k2
    have hS3 := hS2.after hbn
    replace hb := ext_trans hb hbn
    clear hc hf hbn k0
    obtain ⟨hc, hf⟩ := bcell hb
    go_wp2_with fail
    refine (slots_walk y (by have := hs.out; omega) _ hS3).mono ?_
    rintro e w4 ⟨rfl, hbn⟩
    replace k1 := cell_later hbn k1
    replace k2 := cell_later hbn k2
    have hS4 := hS3.after hbn
    replace hb := ext_trans hb hbn
    clear hc hf hbn
    obtain ⟨hc, hf⟩ := bcell hb
    have hz1 : w.heap.size + 1 < w4.heap.size := by have := hb.size; simp at this; omega
    have hz2 : w1.heap.size < w4.heap.size := World.block_lt_of_cell? _ _ k2
    have hz4 : w.heap.size ≤ w4.heap.size := by omega
    go_wp2_with fail
    all_goals try (exfalso; omega)
    refine (wsParse_walk z n (by have := hs.out; omega) _ (hS4.alloc _)).mono ?_
    rintro e w5 ⟨rfl, hb5⟩
    rw [hp.out]
    have hbt : Below w4.heap.size w4 w5 := ext_trans ((by repeat (first | exact Below.refl _ _ | refine ext_alloc ?_ _ | refine ext_drewN ?_ _ | refine ext_drew ?_ | refine ext_trans ?_ (by assumption)))) hb5
    replace hb := ext_trans hb hbt
    clear hc hf hbt
    obtain ⟨hc, hf⟩ := bcell hb
    obtain ⟨hc5, hf5⟩ := bcell hb5
    go_wp2
    refine end_set4 rfl (Or.inr rfl) _ _ _ _ _ _ rfl rfl rfl (four_set (four_of (heap_new2 _ _ _) hb) _ _) ⟨rfl, ext_set4 (ext_set (by repeat (first | exact Below.refl _ _ | refine ext_alloc ?_ _ | refine ext_drewN ?_ _ | refine ext_drew ?_ | refine ext_trans ?_ (by assumption))) hz4 _) (by omega) _ _ _ _⟩
  · have hp3 : ((p2 : Int) != 0) = true := by simp [hp2]
    rw [parseT3_err2 h he0 (by rw [hp.out]; exact hp2), hp.out]
    clear he0
    replace hp2 := hide hp2
    go_enter Tryz.func82, Tryz.ntmps82
    go_wp2_with fail
    refine (tgWeek_walk _ _ _ _ _ _).mono ?_
    rintro e w1 ⟨rfl, hb⟩
    obtain ⟨hc, hf⟩ := bcell hb
    have hS1 := hS.after (ext_trans (by repeat (first | exact Below.refl _ _ | refine ext_alloc ?_ _ | refine ext_drewN ?_ _ | refine ext_drew ?_ | refine ext_trans ?_ (by assumption))) hb)
    go_wp2_with fail
    refine (split_walk' 32 s [x, y, z] hz.out (by have := hs.out; omega) _ hS1).mono ?_
    rintro e w2 ⟨rfl, hbn, hcl⟩
    have k0 := hcl 0 x rfl
    have k1 := hcl 1 y rfl
    have k2 := hcl 2 z rfl
    have hS2 := hS1.after hbn
    replace hb := ext_trans hb hbn
    clear hc hf hbn hcl
    obtain ⟨hc, hf⟩ := bcell hb
    go_wp2_with fail
    refine (day_yes x (by omega) _).mono ?_
    rintro e w3 ⟨rfl, hbn⟩
    replace k1 := cell_later hbn k1
    replace k2 := cell_later hbn k2
    have hS3 := hS2.after hbn
    replace hb := ext_trans hb hbn
    clear hc hf hbn k0
    obtain ⟨hc, hf⟩ := bcell hb
    go_wp2_with fail
    refine (slots_walk y (by have := hs.out; omega) _ hS3).mono ?_
    rintro e w4 ⟨rfl, hbn⟩
    replace k1 := cell_later hbn k1
    replace k2 := cell_later hbn k2
    have hS4 := hS3.after hbn
    replace hb := ext_trans hb hbn
    clear hc hf hbn
    obtain ⟨hc, hf⟩ := bcell hb
    have hz1 : w.heap.size + 1 < w4.heap.size := by have := hb.size; simp at this; omega
    have hz2 : w1.heap.size < w4.heap.size := World.block_lt_of_cell? _ _ k2
    have hz4 : w.heap.size ≤ w4.heap.size := by omega
    go_wp2_with fail
    all_goals try (exfalso; omega)
    refine (wsParse_walk z n (by have := hs.out; omega) _ (hS4.alloc _)).mono ?_
    rintro e w5 ⟨rfl, hb5⟩
    rw [hp.out]
    have hbt : Below w4.heap.size w4 w5 := ext_trans ((by repeat (first | exact Below.refl _ _ | refine ext_alloc ?_ _ | refine ext_drewN ?_ _ | refine ext_drew ?_ | refine ext_trans ?_ (by assumption)))) hb5
    replace hb := ext_trans hb hbt
    clear hc hf hbt
    obtain ⟨hc, hf⟩ := bcell hb
    obtain ⟨hc5, hf5⟩ := bcell hb5
    go_wp2
    refine end_set4 rfl (Or.inr rfl) _ _ _ _ _ _ rfl rfl rfl (four_of (heap_new2 _ _ _) hb) ⟨rfl, ext_set4 (by repeat (first | exact Below.refl _ _ | refine ext_alloc ?_ _ | refine ext_drewN ?_ _ | refine ext_drew ?_ | refine ext_trans ?_ (by assumption))) (by omega) _ _ _ _⟩

/-- timegrid.Parse, whole. -/
theorem tgParse_walk (d sl b m n : Int) (s : ByteArray) (hs : s.size < 1073741824) (w : World) (hS : Std w) :
    Calls Tryz.prog 82 #[.agg #[.int .i64 d, .int .i64 sl, .int .i64 b, .int .i64 m], .int .i64 n, .string s] w fun e w' => e = .returned (timeVal (parseT d sl b m n (Lib.splitB ⟨#[32]⟩ 0 (Lib.countB s ⟨#[32]⟩) s))) ∧ Below w.heap.size w w' := by
  cases hw : weekB d sl b m n
  · rw [show parseT d sl b m n (Lib.splitB ⟨#[32]⟩ 0 (Lib.countB s ⟨#[32]⟩) s) = (0, 0, 0, 0, 1) from if_pos hw]
    exact parse_noweek d sl b m n s hw w
  · obtain ⟨zs, hz⟩ : ∃ zs, Lib.splitB ⟨#[32]⟩ 0 (Lib.countB s ⟨#[32]⟩) s = zs := ⟨_, rfl⟩
    rw [hz]
    match zs, hz with
    | [], hz => exact parse_badlen d sl b m n s [] hz (by simp) hs hw w hS |> fun h => by rw [show parseT d sl b m n [] = (0, 0, 0, 0, 4) from by simp [parseT, hw]]; exact h
    | [x], hz => exact parse_badlen d sl b m n s [x] hz (by simp) hs hw w hS |> fun h => by rw [show parseT d sl b m n [x] = (0, 0, 0, 0, 4) from by simp [parseT, hw]]; exact h
    | [x, y], hz => exact parse_two d sl b m n s x y hz hs hw w hS
    | [x, y, z], hz => exact parse_three d sl b m n s x y z hz hs hw w hS
    | x :: y :: z :: u :: r, hz => exact parse_badlen d sl b m n s (x :: y :: z :: u :: r) hz (by simp) hs hw w hS |> fun h => by rw [show parseT d sl b m n (x :: y :: z :: u :: r) = (0, 0, 0, 0, 4) from by simp [parseT, hw]]; exact h
end Go.Proofs.YtnbcaklnpflihaaGreatDoor

namespace Go.Proofs.YtnbcaklnpflihaaGreatDoor
open Go.RowKit

def textA : ByteArray := ⟨#[77, 111, 32, 51, 45, 52, 32, 111, 100, 100]⟩
def textB : ByteArray := ⟨#[77, 111, 32, 52, 32, 101, 118, 101, 110]⟩
def textC : ByteArray := ⟨#[77, 111, 32, 52]⟩
theorem parseA : parseT 5 10 480 45 10 (Lib.splitB ⟨#[32]⟩ 0 (Lib.countB textA ⟨#[32]⟩) textA) = (341, 0, 2, 2, 0) := by decide +kernel
theorem parseB : parseT 5 10 480 45 10 (Lib.splitB ⟨#[32]⟩ 0 (Lib.countB textB ⟨#[32]⟩) textB) = (682, 0, 3, 1, 0) := by decide +kernel
theorem parseC : parseT 5 10 480 45 10 (Lib.splitB ⟨#[32]⟩ 0 (Lib.countB textC ⟨#[32]⟩) textC) = (1023, 0, 3, 1, 0) := by decide +kernel
theorem ovAB : overlapB 341 0 2 2 682 0 3 1 = false := by decide +kernel
theorem ovAC : overlapB 341 0 2 2 1023 0 3 1 = true := by decide +kernel
theorem callA (w : World) (hS : Std w) :
    Calls Tryz.prog 82 #[.agg #[.int .i64 5, .int .i64 10, .int .i64 480, .int .i64 45], .int .i64 10, .string textA] w fun e w' => e = .returned (.tuple #[.agg #[.int .i64 341, .int .i64 0, .int .i64 2, .int .i64 2], .int .i64 0]) ∧ Below w.heap.size w w' := by
  have h := tgParse_walk 5 10 480 45 10 textA (by decide) w hS
  rw [parseA] at h
  exact h
theorem callB (w : World) (hS : Std w) :
    Calls Tryz.prog 82 #[.agg #[.int .i64 5, .int .i64 10, .int .i64 480, .int .i64 45], .int .i64 10, .string textB] w fun e w' => e = .returned (.tuple #[.agg #[.int .i64 682, .int .i64 0, .int .i64 3, .int .i64 1], .int .i64 0]) ∧ Below w.heap.size w w' := by
  have h := tgParse_walk 5 10 480 45 10 textB (by decide) w hS
  rw [parseB] at h
  exact h
theorem callC (w : World) (hS : Std w) :
    Calls Tryz.prog 82 #[.agg #[.int .i64 5, .int .i64 10, .int .i64 480, .int .i64 45], .int .i64 10, .string textC] w fun e w' => e = .returned (.tuple #[.agg #[.int .i64 1023, .int .i64 0, .int .i64 3, .int .i64 1], .int .i64 0]) ∧ Below w.heap.size w w' := by
  have h := tgParse_walk 5 10 480 45 10 textC (by decide) w hS
  rw [parseC] at h
  exact h
end Go.Proofs.YtnbcaklnpflihaaGreatDoor
