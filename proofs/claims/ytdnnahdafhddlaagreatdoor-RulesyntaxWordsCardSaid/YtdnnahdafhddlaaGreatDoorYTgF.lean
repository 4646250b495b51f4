/- Walks of package timegrid, on: numbers, slots, names of days. Conditions: texts shorter than 2^30 bytes. Walk of timegrid.Parse. Conditions: texts shorter than 2^30 bytes. Walk of timegrid.Parse, on: two words, three words. Conditions: texts shorter than 2^30 bytes. -/
import Derived.Test.YtdnnahdafhddlaaGreatDoorYTgB
import Derived.Test.YtdnnahdafhddlaaGreatDoorYRuns
namespace Go.Proofs.YtdnnahdafhddlaaGreatDoor
open Go.RowKit

set_option maxHeartbeats 400000 in
theorem tnumber_yes (s : ByteArray) (n : Nat) (h : numL s.data.toList = some n) (w : World) :
    Calls Tryz.prog 184 #[.string s] w fun e w' => e = .returned (.tuple #[.int .i64 n, .bool true]) ∧ Below w.heap.size w w' := by
  obtain ⟨hl, ⟨a, ha, h1, h2⟩, _, _, hat⟩ := numL_parts h
  rw [ba_len] at hl
  have h0 : 0 < s.size := by
    rw [← ba_len]; exact (List.getElem?_eq_some_iff.1 ha).1
  rw [ba_at0 s h0] at ha
  obtain rfl := Option.some.inj ha
  have hat := hide hat
  clear h ha
  go_enter Tryz.func184, Tryz.ntmps184
  go_wp2_with (go_at_call 204; refine (Tryz.strconv_Atoi s n (by omega) hat.out _).mono ?_; rintro e w' ⟨rfl, t, rfl⟩)
  go_quiet (fail)
  go_wp2
  go_ret2
  exact ⟨rfl, below_drewN (Joins.below_bytesWorld _ _ _ _ (Nat.le_refl _)) _⟩

set_option maxHeartbeats 400000 in
theorem tnumber_no (s : ByteArray) (h : numL s.data.toList = none) (w : World) (hS : Std w) :
    Calls Tryz.prog 184 #[.string s] w fun e w' => e = .returned (.tuple #[.int .i64 0, .bool false]) ∧ Below w.heap.size w w' := by
  by_cases h0 : 1 ≤ s.size ∧ s.size ≤ 2
  · obtain ⟨h0, hl⟩ := h0
    have h0' : 0 < s.size := h0
    by_cases h1 : 49 ≤ (s[0]'h0').toNat ∧ (s[0]'h0').toNat ≤ 57
    · obtain ⟨h1, h2⟩ := h1
      have hat := hide (atoi_none (by rw [ba_len]; exact hl) _ (ba_at0 s h0') h1 h2 h)
      clear h
      obtain ⟨te, pe, hv⟩ := hS.errSyntax
      go_enter Tryz.func184, Tryz.ntmps184
      go_wp2_with (go_at_call 204; refine (Tryz.strconv_Atoi_err s (by omega) hat.out _ _ hv (Or.inr ⟨te, pe, rfl⟩)).mono ?_; rintro e w' ⟨N, rfl, hN, hc, hb⟩)
      all_goals try (exfalso; omega)
      go_quiet (fail)
      go_wp2
      go_ret2
      exact ⟨rfl, below_drewN hb _⟩
    · clear h
      go_enter Tryz.func184, Tryz.ntmps184
      go_wp2
      all_goals try (exfalso; omega)
      all_goals go_ret2
      all_goals exact ⟨rfl, Below.refl _ _⟩
  · clear h
    go_enter Tryz.func184, Tryz.ntmps184
    go_wp2
    all_goals try (exfalso; omega)
    all_goals go_ret2
    all_goals exact ⟨rfl, Below.refl _ _⟩

theorem tnumber_any (l : List UInt8) (w : World) (hS : Std w) :
    Calls Tryz.prog 184 #[.string ⟨l.toArray⟩] w fun e w' => e = .returned (.tuple #[.int .i64 (numV l), .bool (numOk l)]) ∧ Below w.heap.size w w' := by
  cases h : numL l with
  | some n => 
    rw [show numV l = n from by simp [numV, h], show numOk l = true from by simp [numOk, h]]
    exact tnumber_yes ⟨l.toArray⟩ n (by simpa using h) w
  | none =>
    rw [show numV l = 0 from by simp [numV, h], show numOk l = false from by simp [numOk, h]]
    exact tnumber_no ⟨l.toArray⟩ (by simpa using h) w hS


/-- strings.Split at one byte, with its pieces named. -/
theorem split_walk (c : UInt8) (s : ByteArray) (zs : List ByteArray) (hz : Lib.splitB ⟨#[c]⟩ 0 (Lib.countB s ⟨#[c]⟩) s = zs) (hs : s.size < 4294967281) (w : World) (hS : Std w) :
    Calls Tryz.prog 50 #[.string s, .string ⟨#[c]⟩] w fun e w' => e = .returned (.slice (some ⟨w.heap.size, 0, none⟩) zs.length zs.length) ∧ w.alloc (.cells (zs.map Value.string).toArray 9) = w' := by
  obtain ⟨m, hm⟩ := hS.maxLen
  refine (Tryz.strings_Split s ⟨#[c]⟩ m w hs hm (Nat.le_refl 1)).mono fun e w' ⟨he, hw⟩ => ?_
  have hl := splitB_len c s
  rw [hz] at hl hw
  rw [he, hw, hl]
  exact ⟨rfl, rfl⟩

/-- The same with the new world closed: what its block holds. -/
theorem split_walk' (c : UInt8) (s : ByteArray) (zs : List ByteArray) (hz : Lib.splitB ⟨#[c]⟩ 0 (Lib.countB s ⟨#[c]⟩) s = zs) (hs : s.size < 4294967281) (w : World) (hS : Std w) :
    Calls Tryz.prog 50 #[.string s, .string ⟨#[c]⟩] w fun e w' => e = .returned (.slice (some ⟨w.heap.size, 0, none⟩) zs.length zs.length) ∧ Below w.heap.size w w' ∧ ∀ j z, zs[j]? = some z → w'.cell? ⟨w.heap.size, j, none⟩ = some (.string z) := by
  refine (split_walk c s zs hz hs w hS).mono fun e w' ⟨he, hw⟩ => ⟨he, ?_, ?_⟩
  · subst hw; exact ext_alloc (Below.refl _ _) _
  · subst hw
    intro j z hj
    simp [hj]

/-- Two numbers with a sign between, or one. -/
def slotsZ (l : List UInt8) : List UInt8 := if (Lib.cut l [45]).2.2 then (Lib.cut l [45]).2.1 else (Lib.cut l [45]).1
def slotsFrom (l : List UInt8) : Nat := numV (Lib.cut l [45]).1
def slotsTo (l : List UInt8) : Nat := numV (slotsZ l)
def slotsOk (l : List UInt8) : Bool := numOk (Lib.cut l [45]).1 && numOk (slotsZ l)
set_option maxHeartbeats 800000 in
theorem slots_walk (s : ByteArray) (hs : s.size < 4294967281) (w : World) (hS : Std w) :
    Calls Tryz.prog 142 #[.string s] w fun e w' => e = .returned (.tuple #[.int .i64 (slotsFrom s.data.toList), .int .i64 (slotsTo s.data.toList), .bool (slotsOk s.data.toList)]) ∧ Below w.heap.size w w' := by
  obtain ⟨x, y, t, hc⟩ : ∃ x y t, Lib.cut s.data.toList [45] = (x, y, t) := ⟨_, _, _, rfl⟩
  unfold slotsFrom slotsTo slotsOk slotsZ
  rw [hc]
  have hc := hide hc
  cases t with
  | true =>
    dsimp only
    rw [if_pos rfl]
    cases hx : numOk x
    all_goals
      go_enter Tryz.func142, Tryz.ntmps142
      go_wp2_with fail
      refine (cut_walk s _ x y true hs _ hS hc.out).mono ?_
      rintro e w1 ⟨rfl, hb1⟩
      have hS1 := hS.after hb1
      go_wp2_with fail
      refine (tnumber_any _ _ hS1).mono ?_
      rintro e w2 ⟨rfl, hb2⟩
      have hS2 := hS1.after hb2
      go_wp2_with fail
      refine (tnumber_any _ _ hS2).mono ?_
      rintro e w3 ⟨rfl, hb3⟩
      go_wp2
      go_ret3
      exact ⟨rfl, (by repeat (first | exact Below.refl _ _ | refine ext_alloc ?_ _ | refine ext_drewN ?_ _ | refine ext_drew ?_ | refine ext_trans ?_ (by assumption)))⟩
  | false =>
    dsimp only
    rw [if_neg (by simp)]
    cases hx : numOk x
    all_goals
      go_enter Tryz.func142, Tryz.ntmps142
      go_wp2_with fail
      refine (cut_walk s _ x y false hs _ hS hc.out).mono ?_
      rintro e w1 ⟨rfl, hb1⟩
      have hS1 := hS.after hb1
      go_wp2_with fail
      refine (tnumber_any _ _ hS1).mono ?_
      rintro e w2 ⟨rfl, hb2⟩
      have hS2 := hS1.after hb2
      go_wp2_with fail
      refine (tnumber_any _ _ hS2).mono ?_
      rintro e w3 ⟨rfl, hb3⟩
      go_wp2
      go_ret3
      exact ⟨rfl, (by repeat (first | exact Below.refl _ _ | refine ext_alloc ?_ _ | refine ext_drewN ?_ _ | refine ext_drew ?_ | refine ext_trans ?_ (by assumption)))⟩

def dayNames : List ByteArray := [⟨#[77, 111]⟩, ⟨#[84, 117]⟩, ⟨#[87, 101]⟩, ⟨#[84, 104]⟩, ⟨#[70, 114]⟩, ⟨#[83, 97]⟩, ⟨#[83, 117]⟩]
theorem names_walk (w : World) :
    Calls Tryz.prog 183 #[] w fun e w' => e = .returned (.slice (some ⟨w.heap.size, 0, none⟩) 7 7) ∧ w.alloc (.cells (dayNames.map Value.string).toArray 9) = w' := by
  go_enter Tryz.func183, Tryz.ntmps183
  go_wp2
  go_ret
  exact ⟨rfl, rfl⟩
/-- Which day a name is; -1: none. -/
def dayI (x : ByteArray) : Int := Lib.idxOfS dayNames x
theorem idxFromS_bd (x : ByteArray) : ∀ (zs : List ByteArray) (i : Nat), -1 ≤ Lib.idxFromS zs x i ∧ Lib.idxFromS zs x i < i + zs.length ∨ Lib.idxFromS zs x i = -1
  | [], _ => Or.inr rfl
  | z :: zs, i => by
    unfold Lib.idxFromS
    by_cases h : z = x
    · rw [if_pos h]; simp; omega
    · rw [if_neg h]
      have := idxFromS_bd x zs (i + 1)
      simp only [List.length_cons]
      omega
theorem dayI_bd (x : ByteArray) : -1 ≤ dayI x ∧ dayI x ≤ 6 := by
  have h := idxFromS_bd x dayNames 0
  have hl : dayNames.length = 7 := rfl
  rw [hl] at h
  unfold dayI Lib.idxOfS
  omega
theorem day_cells (w : World) (j : Nat) (hj : j < dayNames.length) : (w.alloc (.cells (dayNames.map Value.string).toArray 9)).cell? ⟨w.heap.size, 0 + j, none⟩ = some (.string (dayNames.getD j ByteArray.empty)) := by
  have hl : dayNames.length = 7 := rfl
  simp only [Nat.zero_add]
  have h : ∀ l : List ByteArray, j < l.length → (w.alloc (.cells (l.map Value.string).toArray 9)).cell? ⟨w.heap.size, j, none⟩ = some (.string (l.getD j ByteArray.empty)) := by
    intro l hl
    simp [hl]
  exact h dayNames hj
set_option maxHeartbeats 800000 in
theorem day_walk (x : ByteArray) (w : World) :
    Calls Tryz.prog 141 #[.string x] w fun e w' => e = .returned (.tuple #[.int .i64 (max (dayI x) 0), .bool (decide (0 ≤ dayI x))]) ∧ Below w.heap.size w w' := by
  have hd := dayI_bd x
  obtain ⟨hd1, hd2⟩ := hd
  go_enter Tryz.func141, Tryz.ntmps141
  go_wp2_with fail
  refine (names_walk _).mono ?_
  rintro e w1 ⟨rfl, rfl⟩
  go_wp2_with fail
  refine (Tryz.slices_Index_string w.heap.size 0 7 7 dayNames x _ (by decide) (by omega) (day_cells w)).mono ?_
  rintro e w1 ⟨rfl, rfl⟩
  rw [show dayNames.take 7 = dayNames from rfl, show Lib.idxOfS dayNames x = dayI x from rfl]
  go_wp2
  go_ret2
  exact ⟨ret_ib (by omega) rfl, (by repeat (first | exact Below.refl _ _ | refine ext_alloc ?_ _ | refine ext_drewN ?_ _ | refine ext_drew ?_ | refine ext_trans ?_ (by assumption)))⟩

theorem day_no (x : ByteArray) (h : dayI x < 0) (w : World) :
    Calls Tryz.prog 141 #[.string x] w fun e w' => e = .returned (.tuple #[.int .i64 0, .bool false]) ∧ Below w.heap.size w w' := by
  refine (day_walk x w).mono fun e w' ⟨he, hb⟩ => ⟨?_, hb⟩
  rw [he, show max (dayI x) 0 = 0 from by omega, decide_eq_false (by omega)]
theorem day_yes (x : ByteArray) (h : 0 ≤ dayI x) (w : World) :
    Calls Tryz.prog 141 #[.string x] w fun e w' => e = .returned (.tuple #[.int .i64 (dayI x), .bool true]) ∧ Below w.heap.size w w' := by
  refine (day_walk x w).mono fun e w' ⟨he, hb⟩ => ⟨?_, hb⟩
  rw [he, show max (dayI x) 0 = dayI x from by omega, decide_eq_true (by omega)]
end Go.Proofs.YtdnnahdafhddlaaGreatDoor

namespace Go.Proofs.YtdnnahdafhddlaaGreatDoor
open Go.RowKit

/-- The error of day and slots: 4, 14 or 0. -/
def slotE (d sl : Int) (x y z : ByteArray) : Int :=
  if dayI x < 0 ∨ slotsOk y.data.toList = false ∨ z.size = 0 then 4 else if d ≤ dayI x ∨ slotsTo y.data.toList < slotsFrom y.data.toList ∨ sl < slotsTo y.data.toList then 14 else 0
/-- What Parse returns: weeks, day, start, length, error. -/
def parseT (d sl b m n : Int) (zs : List ByteArray) : Int × Int × Int × Int × Int :=
  if weekB d sl b m n = false then (0, 0, 0, 0, 1) else
  match zs with
  | [x, y] => if slotE d sl x y y = 0 then (2 ^ n.toNat - 1, dayI x, slotsFrom y.data.toList - 1, slotsTo y.data.toList - slotsFrom y.data.toList + 1, 0) else (0, 0, 0, 0, slotE d sl x y y)
  | [x, y, z] => if slotE d sl x y z = 0 then
      if (parseV z n).2 = 0 then ((parseV z n).1, dayI x, slotsFrom y.data.toList - 1, slotsTo y.data.toList - slotsFrom y.data.toList + 1, 0) else (0, 0, 0, 0, (parseV z n).2)
    else (0, 0, 0, 0, slotE d sl x y z)
  | _ => (0, 0, 0, 0, 4)
def timeVal (v : Int × Int × Int × Int × Int) : Value := .tuple #[.agg #[.int .i64 v.1, .int .i64 v.2.1, .int .i64 v.2.2.1, .int .i64 v.2.2.2.1], .int .i64 v.2.2.2.2]

set_option maxHeartbeats 1000000 in
theorem parse_noweek (d sl b m n : Int) (s : ByteArray) (h : weekB d sl b m n = false) (w : World) :
    Calls Tryz.prog 97 #[.agg #[.int .i64 d, .int .i64 sl, .int .i64 b, .int .i64 m], .int .i64 n, .string s] w fun e w' => e = .returned (timeVal (0, 0, 0, 0, 1)) ∧ Below w.heap.size w w' := by
  go_enter Tryz.func97, Tryz.ntmps97
  go_wp2_with fail
  refine (tgWeek_walk _ _ _ _ _ _).mono ?_
  rintro e w1 ⟨rfl, hb⟩
  obtain ⟨hc, hf⟩ := bcell hb
  go_wp2
  refine end_set4 rfl (Or.inr rfl) _ _ _ _ _ _ rfl rfl rfl (four_of (heap_new2 _ _ _) hb) ⟨rfl, ext_set4 (by repeat (first | exact Below.refl _ _ | refine ext_alloc ?_ _ | refine ext_drewN ?_ _ | refine ext_drew ?_ | refine ext_trans ?_ (by assumption))) (by omega) _ _ _ _⟩

theorem isEmpty_false (z : ByteArray) (h : z.size ≠ 0) : z.toList.isEmpty = false := by
  rw [Lib.toList_data]
  cases hl : z.data.toList with
  | nil => exact absurd (by rw [← ba_len, hl]; rfl) h
  | cons a r => rfl
theorem isEmpty_true (z : ByteArray) (h : z.size = 0) : z.toList.isEmpty = true := by
  rw [Lib.toList_data]
  cases hl : z.data.toList with
  | nil => rfl
  | cons a r => rw [← ba_len, hl] at h; simp at h
theorem splitB_mem {c : UInt8} {s x : ByteArray} {zs : List ByteArray} (hz : Lib.splitB ⟨#[c]⟩ 0 (Lib.countB s ⟨#[c]⟩) s = zs) (hx : x ∈ zs) : x.size ≤ s.size := by
  have h1 : x.data.toList ∈ splitOn1 c s.data.toList := by rw [← splitB_one, hz]; exact List.mem_map.2 ⟨x, hx, rfl⟩
  have := (splitOn1_mem c _ _ h1).1
  rwa [ba_len, ba_len] at this

set_option maxHeartbeats 2000000 in
theorem parse_badlen (d sl b m n : Int) (s : ByteArray) (zs : List ByteArray) (hz : Lib.splitB ⟨#[32]⟩ 0 (Lib.countB s ⟨#[32]⟩) s = zs) (hl : zs.length < 2 ∨ 3 < zs.length) (hs : s.size < 1073741824) (h : weekB d sl b m n = true) (w : World) (hS : Std w) :
    Calls Tryz.prog 97 #[.agg #[.int .i64 d, .int .i64 sl, .int .i64 b, .int .i64 m], .int .i64 n, .string s] w fun e w' => e = .returned (timeVal (0, 0, 0, 0, 4)) ∧ Below w.heap.size w w' := by
  have hcl : Lib.countB s ⟨#[32]⟩ ≤ s.size := Lib.countB_le ⟨#[32]⟩ (Nat.le_refl 1) _ s (Nat.le_refl _)
  have hzl := splitB_len 32 s
  rw [hz] at hzl
  have hzl' : zs.length ≤ 1073741824 := by omega
  clear hzl
  have hz := hide hz
  have hs := hide hs
  rcases hl with hl | hl
  all_goals
    go_enter Tryz.func97, Tryz.ntmps97
    go_wp2_with fail
    refine (tgWeek_walk _ _ _ _ _ _).mono ?_
    rintro e w1 ⟨rfl, hb⟩
    obtain ⟨hc, hf⟩ := bcell hb
    have hS1 := hS.after (ext_trans (by repeat (first | exact Below.refl _ _ | refine ext_alloc ?_ _ | refine ext_drewN ?_ _ | refine ext_drew ?_ | refine ext_trans ?_ (by assumption))) hb)
    go_wp2_with fail
    refine (split_walk' 32 s zs hz.out (by have := hs.out; omega) _ hS1).mono ?_
    rintro e w2 ⟨rfl, hbn, -⟩
    replace hb := ext_trans hb hbn
    clear hc hf hbn
    obtain ⟨hc, hf⟩ := bcell hb
    go_wp2
    all_goals try (exfalso; omega)
    all_goals refine end_set4 rfl (Or.inr rfl) _ _ _ _ _ _ rfl rfl rfl (four_of (heap_new2 _ _ _) hb) ⟨rfl, ext_set4 (by repeat (first | exact Below.refl _ _ | refine ext_alloc ?_ _ | refine ext_drewN ?_ _ | refine ext_drew ?_ | refine ext_trans ?_ (by assumption))) (by omega) _ _ _ _⟩

end Go.Proofs.YtdnnahdafhddlaaGreatDoor

namespace Go.Proofs.YtdnnahdafhddlaaGreatDoor
open Go.RowKit

theorem slotE_4 {d sl : Int} {x y z : ByteArray} (h : dayI x < 0 ∨ slotsOk y.data.toList = false ∨ z.size = 0) : slotE d sl x y z = 4 := if_pos h
theorem slotE_14 {d sl : Int} {x y z : ByteArray} (h : ¬ dayI x < 0) (h' : slotsOk y.data.toList = true) (hz : z.size ≠ 0) (hc : d ≤ dayI x ∨ slotsTo y.data.toList < slotsFrom y.data.toList ∨ sl < slotsTo y.data.toList) : slotE d sl x y z = 14 := by
  unfold slotE; rw [if_neg (by simp [h, h', hz]), if_pos hc]
theorem slotE_0 {d sl : Int} {x y z : ByteArray} (h : ¬ dayI x < 0) (h' : slotsOk y.data.toList = true) (hz : z.size ≠ 0) (hc : ¬ (d ≤ dayI x ∨ slotsTo y.data.toList < slotsFrom y.data.toList ∨ sl < slotsTo y.data.toList)) : slotE d sl x y z = 0 := by
  unfold slotE; rw [if_neg (by simp [h, h', hz]), if_neg hc]
theorem parseT2_err {d sl b m n : Int} {x y : ByteArray} {k : Int} (h : weekB d sl b m n = true) (he : slotE d sl x y y = k) (hk : k ≠ 0) : parseT d sl b m n [x, y] = (0, 0, 0, 0, k) := by
  simp [parseT, h, he, hk]
theorem parseT2_ok {d sl b m n : Int} {x y : ByteArray} (h : weekB d sl b m n = true) (he : slotE d sl x y y = 0) : parseT d sl b m n [x, y] = ((2 ^ n.toNat - 1, dayI x, slotsFrom y.data.toList - 1, slotsTo y.data.toList - slotsFrom y.data.toList + 1, 0) : Int × Int × Int × Int × Int) := by
  simp [parseT, h, he]
theorem parseT3_err {d sl b m n : Int} {x y z : ByteArray} {k : Int} (h : weekB d sl b m n = true) (he : slotE d sl x y z = k) (hk : k ≠ 0) : parseT d sl b m n [x, y, z] = (0, 0, 0, 0, k) := by
  simp [parseT, h, he, hk]
theorem parseT3_err2 {d sl b m n : Int} {x y z : ByteArray} (h : weekB d sl b m n = true) (he : slotE d sl x y z = 0) (hp : (parseV z n).2 ≠ 0) : parseT d sl b m n [x, y, z] = ((0, 0, 0, 0, (parseV z n).2) : Int × Int × Int × Int × Int) := by
  simp [parseT, h, he, hp]
theorem parseT3_ok {d sl b m n : Int} {x y z : ByteArray} (h : weekB d sl b m n = true) (he : slotE d sl x y z = 0) (hp : (parseV z n).2 = 0) : parseT d sl b m n [x, y, z] = (((parseV z n).1, dayI x, slotsFrom y.data.toList - 1, slotsTo y.data.toList - slotsFrom y.data.toList + 1, 0) : Int × Int × Int × Int × Int) := by
  simp [parseT, h, he, hp]
theorem pow_facts (n : Int) (h2 : n ≤ 20) : wrap64 ((2 : Int) ^ n.toNat) = (2 : Int) ^ n.toNat ∧ wrap64 ((2 : Int) ^ n.toNat - 1) = (2 : Int) ^ n.toNat - 1 := by
  refine ⟨wrap64_powZ n h2, ?_⟩
  have hpl := pow_small n.toNat (by omega)
  have e : ((2 : Int) ^ n.toNat) = ((2 ^ n.toNat : Nat) : Int) := by simp
  rw [e]
  generalize 2 ^ n.toNat = m at hpl
  exact IntWalk.wrap64_in _ ⟨by omega, by omega⟩
theorem slotsOk_size {y : ByteArray} (h : slotsOk y.data.toList = true) : y.size ≠ 0 := by
  intro e
  have : y.data.toList = [] := List.eq_nil_of_length_eq_zero (by rw [ba_len]; exact e)
  rw [this] at h
  revert h; decide
theorem itemsV_bd (n : Nat) (hn : n ≤ 20) : ∀ (l : List (List UInt8)) (acc : Nat), acc < 1048576 → (itemsV n l acc).1 < 1048576 ∧ (itemsV n l acc).2 ≤ 16
  | [], acc, h => by
    unfold itemsV
    split
    · simp
    · exact ⟨h, by simp⟩
  | x :: r, acc, h => by
    rw [itemsV_cons]
    have hi := itemV_lt x n hn
    split
    · exact itemsV_bd n hn r _ (or_lt _ _ h hi.1)
    · exact ⟨by simp, by simp; omega⟩
theorem parseV_bd (z : ByteArray) (n : Int) : (parseV z n).1 < 1048576 ∧ (parseV z n).2 ≤ 16 := by
  unfold parseV
  split
  · exact ⟨by simp, by simp⟩
  · exact itemsV_bd _ (by omega) _ _ (by omega)
theorem slots_bd {l : List UInt8} (h : slotsOk l = true) : 1 ≤ slotsFrom l ∧ slotsFrom l ≤ 99 ∧ 1 ≤ slotsTo l ∧ slotsTo l ≤ 99 := by
  simp only [slotsOk, Bool.and_eq_true] at h
  have h1 := numV_pos h.1
  have h2 := numV_pos h.2
  unfold slotsFrom slotsTo
  omega

set_option maxHeartbeats 4000000 in
theorem parse_two (d sl b m n : Int) (s x y : ByteArray) (hz : Lib.splitB ⟨#[32]⟩ 0 (Lib.countB s ⟨#[32]⟩) s = [x, y]) (hs : s.size < 1073741824) (h : weekB d sl b m n = true) (w : World) (hS : Std w) :
    Calls Tryz.prog 97 #[.agg #[.int .i64 d, .int .i64 sl, .int .i64 b, .int .i64 m], .int .i64 n, .string s] w fun e w' => e = .returned (timeVal (parseT d sl b m n [x, y])) ∧ Below w.heap.size w w' := by
  have sy := splitB_mem hz (x := y) (by simp)
  have hn : 1 ≤ n ∧ n ≤ 20 := by
    simp only [weekB, Bool.and_eq_true, decide_eq_true_eq] at h; exact h.2
  obtain ⟨hn1, hn2⟩ := hn
  obtain ⟨hd1, hd2⟩ := dayI_bd x
  have hz := hide hz
  have hs := hide hs
  by_cases hday : dayI x < 0
  · rw [parseT2_err h (slotE_4 (Or.inl hday)) (by decide)]
    go_enter Tryz.func97, Tryz.ntmps97
    go_wp2_with fail
    refine (tgWeek_walk _ _ _ _ _ _).mono ?_
    rintro e w1 ⟨rfl, hb⟩
    obtain ⟨hc, hf⟩ := bcell hb
    have hS1 := hS.after (ext_trans (by repeat (first | exact Below.refl _ _ | refine ext_alloc ?_ _ | refine ext_drewN ?_ _ | refine ext_drew ?_ | refine ext_trans ?_ (by assumption))) hb)
    go_wp2_with fail
    refine (split_walk' 32 s [x, y] hz.out (by have := hs.out; omega) _ hS1).mono ?_
    rintro e w2 ⟨rfl, hbn, hcl⟩
    have k0 := hcl 0 x rfl
    have k1 := hcl 1 y rfl
    have hS2 := hS1.after hbn
    replace hb := ext_trans hb hbn
    clear hc hf hbn hcl
    obtain ⟨hc, hf⟩ := bcell hb
    go_wp2_with fail
    refine (day_no x hday _).mono ?_
    rintro e w3 ⟨rfl, hbn⟩
    replace k1 := cell_later hbn k1
    have hS3 := hS2.after hbn
    replace hb := ext_trans hb hbn
    clear hc hf hbn k0
    obtain ⟨hc, hf⟩ := bcell hb
    go_wp2_with fail
    refine (slots_walk y (by have := hs.out; omega) _ hS3).mono ?_
    rintro e w4 ⟨rfl, hbn⟩
    replace k1 := cell_later hbn k1
    have hS4 := hS3.after hbn
    replace hb := ext_trans hb hbn
    clear hc hf hbn
    obtain ⟨hc, hf⟩ := bcell hb
    have hz1 : w.heap.size + 1 < w4.heap.size := by have := hb.size; simp at this; omega
    go_wp2
    all_goals try (exfalso; omega)
    all_goals refine end_set4 rfl (Or.inr rfl) _ _ _ _ _ _ rfl rfl rfl (four_of (heap_new2 _ _ _) hb) ⟨rfl, ext_set4 (by repeat (first | exact Below.refl _ _ | refine ext_alloc ?_ _ | refine ext_drewN ?_ _ | refine ext_drew ?_ | refine ext_trans ?_ (by assumption))) (by omega) _ _ _ _⟩
  have hday' : decide (0 ≤ dayI x) = true := by simp; omega
  cases hok : slotsOk y.data.toList
  · rw [parseT2_err h (slotE_4 (Or.inr (Or.inl hok))) (by decide)]
    go_enter Tryz.func97, Tryz.ntmps97
    go_wp2_with fail
    refine (tgWeek_walk _ _ _ _ _ _).mono ?_
    rintro e w1 ⟨rfl, hb⟩
    obtain ⟨hc, hf⟩ := bcell hb
    have hS1 := hS.after (ext_trans (by repeat (first | exact Below.refl _ _ | refine ext_alloc ?_ _ | refine ext_drewN ?_ _ | refine ext_drew ?_ | refine ext_trans ?_ (by assumption))) hb)
    go_wp2_with fail
    refine (split_walk' 32 s [x, y] hz.out (by have := hs.out; omega) _ hS1).mono ?_
    rintro e w2 ⟨rfl, hbn, hcl⟩
    have k0 := hcl 0 x rfl
    have k1 := hcl 1 y rfl
    have hS2 := hS1.after hbn
    replace hb := ext_trans hb hbn
    clear hc hf hbn hcl
    obtain ⟨hc, hf⟩ := bcell hb
    go_wp2_with fail
    refine (day_yes x (by omega) _).mono ?_
    rintro e w3 ⟨rfl, hbn⟩
    replace k1 := cell_later hbn k1
    have hS3 := hS2.after hbn
    replace hb := ext_trans hb hbn
    clear hc hf hbn k0
    obtain ⟨hc, hf⟩ := bcell hb
    go_wp2_with fail
    refine (slots_walk y (by have := hs.out; omega) _ hS3).mono ?_
    rintro e w4 ⟨rfl, hbn⟩
    replace k1 := cell_later hbn k1
    have hS4 := hS3.after hbn
    replace hb := ext_trans hb hbn
    clear hc hf hbn
    obtain ⟨hc, hf⟩ := bcell hb
    have hz1 : w.heap.size + 1 < w4.heap.size := by have := hb.size; simp at this; omega
    go_wp2
    all_goals try (exfalso; omega)
    all_goals refine end_set4 rfl (Or.inr rfl) _ _ _ _ _ _ rfl rfl rfl (four_of (heap_new2 _ _ _) hb) ⟨rfl, ext_set4 (by repeat (first | exact Below.refl _ _ | refine ext_alloc ?_ _ | refine ext_drewN ?_ _ | refine ext_drew ?_ | refine ext_trans ?_ (by assumption))) (by omega) _ _ _ _⟩
  have hsz := slotsOk_size hok
  have hem := isEmpty_false y hsz
  obtain ⟨q1, q2, q3, q4⟩ := slots_bd hok
  by_cases hc14 : d ≤ dayI x ∨ slotsTo y.data.toList < slotsFrom y.data.toList ∨ sl < slotsTo y.data.toList
  · rw [parseT2_err h (slotE_14 hday hok hsz hc14) (by decide)]
    go_enter Tryz.func97, Tryz.ntmps97
    go_wp2_with fail
    refine (tgWeek_walk _ _ _ _ _ _).mono ?_
    rintro e w1 ⟨rfl, hb⟩
    obtain ⟨hc, hf⟩ := bcell hb
    have hS1 := hS.after (ext_trans (by repeat (first | exact Below.refl _ _ | refine ext_alloc ?_ _ | refine ext_drewN ?_ _ | refine ext_drew ?_ | refine ext_trans ?_ (by assumption))) hb)
    go_wp2_with fail
    refine (split_walk' 32 s [x, y] hz.out (by have := hs.out; omega) _ hS1).mono ?_
    rintro e w2 ⟨rfl, hbn, hcl⟩
    have k0 := hcl 0 x rfl
    have k1 := hcl 1 y rfl
    have hS2 := hS1.after hbn
    replace hb := ext_trans hb hbn
    clear hc hf hbn hcl
    obtain ⟨hc, hf⟩ := bcell hb
    go_wp2_with fail
    refine (day_yes x (by omega) _).mono ?_
    rintro e w3 ⟨rfl, hbn⟩
    replace k1 := cell_later hbn k1
    have hS3 := hS2.after hbn
    replace hb := ext_trans hb hbn
    clear hc hf hbn k0
    obtain ⟨hc, hf⟩ := bcell hb
    go_wp2_with fail
    refine (slots_walk y (by have := hs.out; omega) _ hS3).mono ?_
    rintro e w4 ⟨rfl, hbn⟩
    replace k1 := cell_later hbn k1
    have hS4 := hS3.after hbn
    replace hb := ext_trans hb hbn
    clear hc hf hbn
    obtain ⟨hc, hf⟩ := bcell hb
    have hz1 : w.heap.size + 1 < w4.heap.size := by have := hb.size; simp at this; omega
    go_wp2
    all_goals try (exfalso; omega)
    all_goals refine end_set4 rfl (Or.inr rfl) _ _ _ _ _ _ rfl rfl rfl (four_of (heap_new2 _ _ _) hb) ⟨rfl, ext_set4 (by repeat (first | exact Below.refl _ _ | refine ext_alloc ?_ _ | refine ext_drewN ?_ _ | refine ext_drew ?_ | refine ext_trans ?_ (by assumption))) (by omega) _ _ _ _⟩
  have he0 := slotE_0 hday hok hsz hc14
  obtain ⟨c1, c2, c3⟩ : dayI x < d ∧ ¬ slotsTo y.data.toList < slotsFrom y.data.toList ∧ (slotsTo y.data.toList : Int) ≤ sl := by omega
  clear hc14
  rw [parseT2_ok h he0]
  obtain ⟨hpw, hpw1⟩ := pow_facts n hn2
  clear he0
  go_enter Tryz.func97, Tryz.ntmps97
  go_wp2_with fail
  refine (tgWeek_walk _ _ _ _ _ _).mono ?_
  rintro e w1 ⟨rfl, hb⟩
  obtain ⟨hc, hf⟩ := bcell hb
  have hS1 := hS.after (ext_trans (by repeat (first | exact Below.refl _ _ | refine ext_alloc ?_ _ | refine ext_drewN ?_ _ | refine ext_drew ?_ | refine ext_trans ?_ (by assumption))) hb)
  go_wp2_with fail
  refine (split_walk' 32 s [x, y] hz.out (by have := hs.out; omega) _ hS1).mono ?_
  rintro e w2 ⟨rfl, hbn, hcl⟩
  have k0 := hcl 0 x rfl
  have k1 := hcl 1 y rfl
  have hS2 := hS1.after hbn
  replace hb := ext_trans hb hbn
  clear hc hf hbn hcl
  obtain ⟨hc, hf⟩ := bcell hb
  go_wp2_with fail
  refine (day_yes x (by omega) _).mono ?_
  rintro e w3 ⟨rfl, hbn⟩
  replace k1 := cell_later hbn k1
  have hS3 := hS2.after hbn
  replace hb := ext_trans hb hbn
  clear hc hf hbn k0
  obtain ⟨hc, hf⟩ := bcell hb
  go_wp2_with fail
  refine (slots_walk y (by have := hs.out; omega) _ hS3).mono ?_
  rintro e w4 ⟨rfl, hbn⟩
  replace k1 := cell_later hbn k1
  have hS4 := hS3.after hbn
  replace hb := ext_trans hb hbn
  clear hc hf hbn
  obtain ⟨hc, hf⟩ := bcell hb
  have hz1 : w.heap.size + 1 < w4.heap.size := by have := hb.size; simp at this; omega
  go_wp2
  all_goals try (exfalso; omega)
  all_goals refine end_set4a rfl (Or.inr rfl) _ _ _ _ _ _ rfl rfl rfl (four_of (heap_new2 _ _ _) hb) ⟨rfl, ext_alloc (ext_set4 (by repeat (first | exact Below.refl _ _ | refine ext_alloc ?_ _ | refine ext_drewN ?_ _ | refine ext_drew ?_ | refine ext_trans ?_ (by assumption))) (by omega) _ _ _ _) _⟩
set_option maxHeartbeats 4000000 in
theorem parse_three (d sl b m n : Int) (s x y z : ByteArray) (hz : Lib.splitB ⟨#[32]⟩ 0 (Lib.countB s ⟨#[32]⟩) s = [x, y, z]) (hs : s.size < 1073741824) (h : weekB d sl b m n = true) (w : World) (hS : Std w) :
    Calls Tryz.prog 97 #[.agg #[.int .i64 d, .int .i64 sl, .int .i64 b, .int .i64 m], .int .i64 n, .string s] w fun e w' => e = .returned (timeVal (parseT d sl b m n [x, y, z])) ∧ Below w.heap.size w w' := by
  have sy := splitB_mem hz (x := y) (by simp)
  have sz := splitB_mem hz (x := z) (by simp)
  have hn : 1 ≤ n ∧ n ≤ 20 := by
    simp only [weekB, Bool.and_eq_true, decide_eq_true_eq] at h; exact h.2
  obtain ⟨hn1, hn2⟩ := hn
  obtain ⟨hd1, hd2⟩ := dayI_bd x
  have hz := hide hz
  have hs := hide hs
  by_cases hday : dayI x < 0
  · rw [parseT3_err h (slotE_4 (Or.inl hday)) (by decide)]
    go_enter Tryz.func97, Tryz.ntmps97
    go_wp2_with fail
    refine (tgWeek_walk _ _ _ _ _ _).mono ?_
    rintro e w1 ⟨rfl, hb⟩
    obtain ⟨hc, hf⟩ := bcell hb
    have hS1 := hS.after (ext_trans (by repeat (first | exact Below.refl _ _ | refine ext_alloc ?_ _ | refine ext_drewN ?_ _ | refine ext_drew ?_ | refine ext_trans ?_ (by assumption))) hb)
    go_wp2_with fail
    refine (split_walk' 32 s [x, y, z] hz.out (by have := hs.out; omega) _ hS1).mono ?_
    rintro e w2 ⟨rfl, hbn, hcl⟩
    have k0 := hcl 0 x rfl
    have k1 := hcl 1 y rfl
    have k2 := hcl 2 z rfl
    have hS2 := hS1.after hbn
    replace hb := ext_trans hb hbn
    clear hc hf hbn hcl
    obtain ⟨hc, hf⟩ := bcell hb
    go_wp2_with fail
    refine (day_no x hday _).mono ?_
    rintro e w3 ⟨rfl, hbn⟩
    replace k1 := cell_later hbn k1
    replace k2 := cell_later hbn k2
    have hS3 := hS2.after hbn
    replace hb := ext_trans hb hbn
    clear hc hf hbn k0
    obtain ⟨hc, hf⟩ := bcell hb
    go_wp2_with fail
    refine (slots_walk y (by have := hs.out; omega) _ hS3).mono ?_
    rintro e w4 ⟨rfl, hbn⟩
    replace k1 := cell_later hbn k1
    replace k2 := cell_later hbn k2
    have hS4 := hS3.after hbn
    replace hb := ext_trans hb hbn
    clear hc hf hbn
    obtain ⟨hc, hf⟩ := bcell hb
    have hz1 : w.heap.size + 1 < w4.heap.size := by have := hb.size; simp at this; omega
    go_wp2
    all_goals try (exfalso; omega)
    all_goals refine end_set4 rfl (Or.inr rfl) _ _ _ _ _ _ rfl rfl rfl (four_of (heap_new2 _ _ _) hb) ⟨rfl, ext_set4 (by repeat (first | exact Below.refl _ _ | refine ext_alloc ?_ _ | refine ext_drewN ?_ _ | refine ext_drew ?_ | refine ext_trans ?_ (by assumption))) (by omega) _ _ _ _⟩
  have hday' : decide (0 ≤ dayI x) = true := by simp; omega
  cases hok : slotsOk y.data.toList
  · rw [parseT3_err h (slotE_4 (Or.inr (Or.inl hok))) (by decide)]
    go_enter Tryz.func97, Tryz.ntmps97
    go_wp2_with fail
    refine (tgWeek_walk _ _ _ _ _ _).mono ?_
    rintro e w1 ⟨rfl, hb⟩
    obtain ⟨hc, hf⟩ := bcell hb
    have hS1 := hS.after (ext_trans (by repeat (first | exact Below.refl _ _ | refine ext_alloc ?_ _ | refine ext_drewN ?_ _ | refine ext_drew ?_ | refine ext_trans ?_ (by assumption))) hb)
    go_wp2_with fail
    refine (split_walk' 32 s [x, y, z] hz.out (by have := hs.out; omega) _ hS1).mono ?_
    rintro e w2 ⟨rfl, hbn, hcl⟩
    have k0 := hcl 0 x rfl
    have k1 := hcl 1 y rfl
    have k2 := hcl 2 z rfl
    have hS2 := hS1.after hbn
    replace hb := ext_trans hb hbn
    clear hc hf hbn hcl
    obtain ⟨hc, hf⟩ := bcell hb
    go_wp2_with fail
    refine (day_yes x (by omega) _).mono ?_
    rintro e w3 ⟨rfl, hbn⟩
    replace k1 := cell_later hbn k1
    replace k2 := cell_later hbn k2
    have hS3 := hS2.after hbn
    replace hb := ext_trans hb hbn
    clear hc hf hbn k0
    obtain ⟨hc, hf⟩ := bcell hb
    go_wp2_with fail
    refine (slots_walk y (by have := hs.out; omega) _ hS3).mono ?_
    rintro e w4 ⟨rfl, hbn⟩
    replace k1 := cell_later hbn k1
    replace k2 := cell_later hbn k2
    have hS4 := hS3.after hbn
    replace hb := ext_trans hb hbn
    clear hc hf hbn
    obtain ⟨hc, hf⟩ := bcell hb
    have hz1 : w.heap.size + 1 < w4.heap.size := by have := hb.size; simp at this; omega
    go_wp2
    all_goals try (exfalso; omega)
    all_goals refine end_set4 rfl (Or.inr rfl) _ _ _ _ _ _ rfl rfl rfl (four_of (heap_new2 _ _ _) hb) ⟨rfl, ext_set4 (by repeat (first | exact Below.refl _ _ | refine ext_alloc ?_ _ | refine ext_drewN ?_ _ | refine ext_drew ?_ | refine ext_trans ?_ (by assumption))) (by omega) _ _ _ _⟩
  by_cases hsz : z.size = 0
  · rw [parseT3_err h (slotE_4 (Or.inr (Or.inr hsz))) (by decide)]
    have hem := isEmpty_true z hsz
    go_enter Tryz.func97, Tryz.ntmps97
    go_wp2_with fail
    refine (tgWeek_walk _ _ _ _ _ _).mono ?_
    rintro e w1 ⟨rfl, hb⟩
    obtain ⟨hc, hf⟩ := bcell hb
    have hS1 := hS.after (ext_trans (by repeat (first | exact Below.refl _ _ | refine ext_alloc ?_ _ | refine ext_drewN ?_ _ | refine ext_drew ?_ | refine ext_trans ?_ (by assumption))) hb)
    go_wp2_with fail
    refine (split_walk' 32 s [x, y, z] hz.out (by have := hs.out; omega) _ hS1).mono ?_
    rintro e w2 ⟨rfl, hbn, hcl⟩
    have k0 := hcl 0 x rfl
    have k1 := hcl 1 y rfl
    have k2 := hcl 2 z rfl
    have hS2 := hS1.after hbn
    replace hb := ext_trans hb hbn
    clear hc hf hbn hcl
    obtain ⟨hc, hf⟩ := bcell hb
    go_wp2_with fail
    refine (day_yes x (by omega) _).mono ?_
    rintro e w3 ⟨rfl, hbn⟩
    replace k1 := cell_later hbn k1
    replace k2 := cell_later hbn k2
    have hS3 := hS2.after hbn
    replace hb := ext_trans hb hbn
    clear hc hf hbn k0
    obtain ⟨hc, hf⟩ := bcell hb
    go_wp2_with fail
    refine (slots_walk y (by have := hs.out; omega) _ hS3).mono ?_
    rintro e w4 ⟨rfl, hbn⟩
    replace k1 := cell_later hbn k1
    replace k2 := cell_later hbn k2
    have hS4 := hS3.after hbn
    replace hb := ext_trans hb hbn
    clear hc hf hbn
    obtain ⟨hc, hf⟩ := bcell hb
    have hz1 : w.heap.size + 1 < w4.heap.size := by have := hb.size; simp at this; omega
    go_wp2
    all_goals try (exfalso; omega)
    all_goals refine end_set4 rfl (Or.inr rfl) _ _ _ _ _ _ rfl rfl rfl (four_of (heap_new2 _ _ _) hb) ⟨rfl, ext_set4 (by repeat (first | exact Below.refl _ _ | refine ext_alloc ?_ _ | refine ext_drewN ?_ _ | refine ext_drew ?_ | refine ext_trans ?_ (by assumption))) (by omega) _ _ _ _⟩
  have hem := isEmpty_false z hsz
  obtain ⟨q1, q2, q3, q4⟩ := slots_bd hok
  by_cases hc14 : d ≤ dayI x ∨ slotsTo y.data.toList < slotsFrom y.data.toList ∨ sl < slotsTo y.data.toList
  · rw [parseT3_err h (slotE_14 hday hok hsz hc14) (by decide)]
    go_enter Tryz.func97, Tryz.ntmps97
    go_wp2_with fail
    refine (tgWeek_walk _ _ _ _ _ _).mono ?_
    rintro e w1 ⟨rfl, hb⟩
    obtain ⟨hc, hf⟩ := bcell hb
    have hS1 := hS.after (ext_trans (by repeat (first | exact Below.refl _ _ | refine ext_alloc ?_ _ | refine ext_drewN ?_ _ | refine ext_drew ?_ | refine ext_trans ?_ (by assumption))) hb)
    go_wp2_with fail
    refine (split_walk' 32 s [x, y, z] hz.out (by have := hs.out; omega) _ hS1).mono ?_
    rintro e w2 ⟨rfl, hbn, hcl⟩
    have k0 := hcl 0 x rfl
    have k1 := hcl 1 y rfl
    have k2 := hcl 2 z rfl
    have hS2 := hS1.after hbn
    replace hb := ext_trans hb hbn
    clear hc hf hbn hcl
    obtain ⟨hc, hf⟩ := bcell hb
    go_wp2_with fail
    refine (day_yes x (by omega) _).mono ?_
    rintro e w3 ⟨rfl, hbn⟩
    replace k1 := cell_later hbn k1
    replace k2 := cell_later hbn k2
    have hS3 := hS2.after hbn
    replace hb := ext_trans hb hbn
    clear hc hf hbn k0
    obtain ⟨hc, hf⟩ := bcell hb
    go_wp2_with fail
    refine (slots_walk y (by have := hs.out; omega) _ hS3).mono ?_
    rintro e w4 ⟨rfl, hbn⟩
    replace k1 := cell_later hbn k1
    replace k2 := cell_later hbn k2
    have hS4 := hS3.after hbn
    replace hb := ext_trans hb hbn
    clear hc hf hbn
    obtain ⟨hc, hf⟩ := bcell hb
    have hz1 : w.heap.size + 1 < w4.heap.size := by have := hb.size; simp at this; omega
    go_wp2
    all_goals try (exfalso; omega)
    all_goals refine end_set4 rfl (Or.inr rfl) _ _ _ _ _ _ rfl rfl rfl (four_of (heap_new2 _ _ _) hb) ⟨rfl, ext_set4 (by repeat (first | exact Below.refl _ _ | refine ext_alloc ?_ _ | refine ext_drewN ?_ _ | refine ext_drew ?_ | refine ext_trans ?_ (by assumption))) (by omega) _ _ _ _⟩
  have he0 := slotE_0 hday hok hsz hc14
  obtain ⟨c1, c2, c3⟩ : dayI x < d ∧ ¬ slotsTo y.data.toList < slotsFrom y.data.toList ∧ (slotsTo y.data.toList : Int) ≤ sl := by omega
  clear hc14
  have hpv := parseV_bd z n
  cases hp : parseV z n with
  | mk p1 p2 =>
  rw [hp] at hpv
  have hp := hide hp
  by_cases hp2 : p2 = 0
  · have hp3 : ((p2 : Int) != 0) = false := by simp [hp2]
    rw [parseT3_ok h he0 (by rw [hp.out]; exact hp2), hp.out]
    clear he0
    replace hp2 := hide hp2
    go_enter Tryz.func97, Tryz.ntmps97
    go_wp2_with fail
    refine (tgWeek_walk _ _ _ _ _ _).mono ?_
    rintro e w1 ⟨rfl, hb⟩
    obtain ⟨hc, hf⟩ := bcell hb
    have hS1 := hS.after (ext_trans (by repeat (first | exact Below.refl _ _ | refine ext_alloc ?_ _ | refine ext_drewN ?_ _ | refine ext_drew ?_ | refine ext_trans ?_ (by assumption))) hb)
    go_wp2_with fail
    refine (split_walk' 32 s [x, y, z] hz.out (by have := hs.out; omega) _ hS1).mono ?_
    rintro e w2 ⟨rfl, hbn, hcl⟩
    have k0 := hcl 0 x rfl
    have k1 := hcl 1 y rfl
    have k2 := hcl 2 z rfl
    have hS2 := hS1.after hbn
    replace hb := ext_trans hb hbn
    clear hc hf hbn hcl
    obtain ⟨hc, hf⟩ := bcell hb
    go_wp2_with fail
    refine (day_yes x (by omega) _).mono ?_
    rintro e w3 ⟨rfl, hbn⟩
    replace k1 := cell_later hbn k1
    replace k2 := cell_later hbn k2
    have hS3 := hS2.after hbn
    replace hb := ext_trans hb hbn
    clear hc hf hbn k0
    obtain ⟨hc, hf⟩ := bcell hb
    go_wp2_with fail
    refine (slots_walk y (by have := hs.out; omega) _ hS3).mono ?_
    rintro e w4 ⟨rfl, hbn⟩
    replace k1 := cell_later hbn k1
    replace k2 := cell_later hbn k2
    have hS4 := hS3.after hbn
    replace hb := ext_trans hb hbn
    clear hc hf hbn
    obtain ⟨hc, hf⟩ := bcell hb
    have hz1 : w.heap.size + 1 < w4.heap.size := by have := hb.size; simp at this; omega
    have hz2 : w1.heap.size < w4.heap.size := World.block_lt_of_cell? _ _ k2
    have hz4 : w.heap.size ≤ w4.heap.size := by omega
    go_wp2_with fail
    all_goals try (exfalso; omega)
    refine (wsParse_walk z n (by have := hs.out; omega) _ (hS4.alloc _)).mono ?_
    rintro e w5 ⟨rfl, hb5⟩
    rw [hp.out]
    have hbt : Below w4.heap.size w4 w5 := ext_trans ((by repeat (first | exact Below.refl _ _ | refine ext_alloc ?_ _ | refine ext_drewN ?_ _ | refine ext_drew ?_ | refine ext_trans ?_ (by assumption)))) hb5
    replace hb := ext_trans hb hbt
    clear hc hf hbt
    obtain ⟨hc, hf⟩ := bcell hb
    obtain ⟨hc5, hf5⟩ := bcell hb5
    go_wp2
    refine end_set4 rfl (Or.inr rfl) _ _ _ _ _ _ rfl rfl rfl (four_set (four_of (heap_new2 _ _ _) hb) _ _) ⟨rfl, ext_set4 (ext_set (by repeat (first | exact Below.refl _ _ | refine ext_alloc ?_ _ | refine ext_drewN ?_ _ | refine ext_drew ?_ | refine ext_trans ?_ (by assumption))) hz4 _) (by omega) _ _ _ _⟩
  · have hp3 : ((p2 : Int) != 0) = true := by simp [hp2]
    rw [parseT3_err2 h he0 (by rw [hp.out]; exact hp2), hp.out]
    clear he0
    replace hp2 := hide hp2
    go_enter Tryz.func97, Tryz.ntmps97
    go_wp2_with fail
    refine (tgWeek_walk _ _ _ _ _ _).mono ?_
    rintro e w1 ⟨rfl, hb⟩
    obtain ⟨hc, hf⟩ := bcell hb
    have hS1 := hS.after (ext_trans (by repeat (first | exact Below.refl _ _ | refine ext_alloc ?_ _ | refine ext_drewN ?_ _ | refine ext_drew ?_ | refine ext_trans ?_ (by assumption))) hb)
    go_wp2_with fail
    refine (split_walk' 32 s [x, y, z] hz.out (by have := hs.out; omega) _ hS1).mono ?_
    rintro e w2 ⟨rfl, hbn, hcl⟩
    have k0 := hcl 0 x rfl
    have k1 := hcl 1 y rfl
    have k2 := hcl 2 z rfl
    have hS2 := hS1.after hbn
    replace hb := ext_trans hb hbn
    clear hc hf hbn hcl
    obtain ⟨hc, hf⟩ := bcell hb
    go_wp2_with fail
    refine (day_yes x (by omega) _).mono ?_
    rintro e w3 ⟨rfl, hbn⟩
    replace k1 := cell_later hbn k1
    replace k2 := cell_later hbn k2
    have hS3 := hS2.after hbn
    replace hb := ext_trans hb hbn
    clear hc hf hbn k0
    obtain ⟨hc, hf⟩ := bcell hb
    go_wp2_with fail
    refine (slots_walk y (by have := hs.out; omega) _ hS3).mono ?_
    rintro e w4 ⟨rfl, hbn⟩
    replace k1 := cell_later hbn k1
    replace k2 := cell_later hbn k2
    have hS4 := hS3.after hbn
    replace hb := ext_trans hb hbn
    clear hc hf hbn
    obtain ⟨hc, hf⟩ := bcell hb
    have hz1 : w.heap.size + 1 < w4.heap.size := by have := hb.size; simp at this; omega
    have hz2 : w1.heap.size < w4.heap.size := World.block_lt_of_cell? _ _ k2
    have hz4 : w.heap.size ≤ w4.heap.size := by omega
    go_wp2_with fail
    all_goals try (exfalso; omega)
    refine (wsParse_walk z n (by have := hs.out; omega) _ (hS4.alloc _)).mono ?_
    rintro e w5 ⟨rfl, hb5⟩
    rw [hp.out]
    have hbt : Below w4.heap.size w4 w5 := ext_trans ((by repeat (first | exact Below.refl _ _ | refine ext_alloc ?_ _ | refine ext_drewN ?_ _ | refine ext_drew ?_ | refine ext_trans ?_ (by assumption)))) hb5
    replace hb := ext_trans hb hbt
    clear hc hf hbt
    obtain ⟨hc, hf⟩ := bcell hb
    obtain ⟨hc5, hf5⟩ := bcell hb5
    go_wp2
    refine end_set4 rfl (Or.inr rfl) _ _ _ _ _ _ rfl rfl rfl (four_of (heap_new2 _ _ _) hb) ⟨rfl, ext_set4 (by repeat (first | exact Below.refl _ _ | refine ext_alloc ?_ _ | refine ext_drewN ?_ _ | refine ext_drew ?_ | refine ext_trans ?_ (by assumption))) (by omega) _ _ _ _⟩

/-- timegrid.Parse, whole. -/
theorem tgParse_walk (d sl b m n : Int) (s : ByteArray) (hs : s.size < 1073741824) (w : World) (hS : Std w) :
    Calls Tryz.prog 97 #[.agg #[.int .i64 d, .int .i64 sl, .int .i64 b, .int .i64 m], .int .i64 n, .string s] w fun e w' => e = .returned (timeVal (parseT d sl b m n (Lib.splitB ⟨#[32]⟩ 0 (Lib.countB s ⟨#[32]⟩) s))) ∧ Below w.heap.size w w' := by
  cases hw : weekB d sl b m n
  · rw [show parseT d sl b m n (Lib.splitB ⟨#[32]⟩ 0 (Lib.countB s ⟨#[32]⟩) s) = (0, 0, 0, 0, 1) from if_pos hw]
    exact parse_noweek d sl b m n s hw w
  · obtain ⟨zs, hz⟩ : ∃ zs, Lib.splitB ⟨#[32]⟩ 0 (Lib.countB s ⟨#[32]⟩) s = zs := ⟨_, rfl⟩
    rw [hz]
    match zs, hz with
    | [], hz => exact parse_badlen d sl b m n s [] hz (by simp) hs hw w hS |> fun h => by rw [show parseT d sl b m n [] = (0, 0, 0, 0, 4) from by simp [parseT, hw]]; exact h
    | [x], hz => exact parse_badlen d sl b m n s [x] hz (by simp) hs hw w hS |> fun h => by rw [show parseT d sl b m n [x] = (0, 0, 0, 0, 4) from by simp [parseT, hw]]; exact h
    | [x, y], hz => exact parse_two d sl b m n s x y hz hs hw w hS
    | [x, y, z], hz => exact parse_three d sl b m n s x y z hz hs hw w hS
    | x :: y :: z :: u :: r, hz => exact parse_badlen d sl b m n s (x :: y :: z :: u :: r) hz (by simp) hs hw w hS |> fun h => by rw [show parseT d sl b m n (x :: y :: z :: u :: r) = (0, 0, 0, 0, 4) from by simp [parseT, hw]]; exact h
end Go.Proofs.YtdnnahdafhddlaaGreatDoor
