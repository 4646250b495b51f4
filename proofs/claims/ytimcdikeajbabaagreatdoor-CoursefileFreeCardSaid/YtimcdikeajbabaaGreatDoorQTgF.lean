/- Walks of package timegrid, on: numbers, slots, names of days. Conditions: texts shorter than 2^30 bytes. Walk of timegrid.Parse. Conditions: texts shorter than 2^30 bytes. Walk of timegrid.Parse, on: two words, three words. Conditions: texts shorter than 2^30 bytes. -/
import Derived.Test.YtimcdikeajbabaaGreatDoorRows
import Derived.WalkKit
import Derived.WalkSpells
import Derived.WalkLawsBesides
import Derived.BigGuardPart
import Derived.Lib.Hide
import Derived.Laws.BitsAllLaws
import Derived.Laws.BitsLemmas
import Derived.Lib.LaidTab
import Derived.Test.YtimcdikeajbabaaGreatDoorShelf
import Derived.Lib.ConvBytes
import Derived.Deep.QuietTactic
import Derived.BigQuiet
import Derived.Lib.SmallJoins
import Derived.Lib.SplitLaws
import Derived.Lib.CountLaws
import Derived.Lib.IndexMore
import Derived.Lib.Split
import Derived.Lib.Join
import Derived.Test.YtimcdikeajbabaaGreatDoorQWsC
import Derived.Test.YtimcdikeajbabaaGreatDoorQPlain
import Derived.Laws.ResultCell
import Derived.Test.YtimcdikeajbabaaGreatDoorQEnds
import Derived.Test.YtimcdikeajbabaaGreatDoorQWsD
import Derived.Test.YtimcdikeajbabaaGreatDoorQTgB
namespace Go.Proofs.YtimcdikeajbabaaGreatDoor
open Go.RowKit

/-- strings.Split at one byte, with its pieces named. -/
theorem split_walk (c : UInt8) (s : ByteArray) (zs : List ByteArray) (hz : Lib.splitB ⟨#[c]⟩ 0 (Lib.countB s ⟨#[c]⟩) s = zs) (hs : s.size < 4294967281) (w : World) (hS : Std w) :
    Calls Tryz.prog 103 #[.string s, .string ⟨#[c]⟩] w fun e w' => e = .returned (.slice (some ⟨w.heap.size, 0, none⟩) zs.length zs.length) ∧ w.alloc (.cells (zs.map Value.string).toArray 9) = w' := by
  obtain ⟨m, hm⟩ := hS.maxLen
  refine (Tryz.strings_Split s ⟨#[c]⟩ m w hs hm (Nat.le_refl 1)).mono fun e w' ⟨he, hw⟩ => ?_
  have hl := splitB_len c s
  rw [hz] at hl hw
  rw [he, hw, hl]
  exact ⟨rfl, rfl⟩

/-- The same with the new world closed: what its block holds. -/
theorem split_walk' (c : UInt8) (s : ByteArray) (zs : List ByteArray) (hz : Lib.splitB ⟨#[c]⟩ 0 (Lib.countB s ⟨#[c]⟩) s = zs) (hs : s.size < 4294967281) (w : World) (hS : Std w) :
    Calls Tryz.prog 103 #[.string s, .string ⟨#[c]⟩] w fun e w' => e = .returned (.slice (some ⟨w.heap.size, 0, none⟩) zs.length zs.length) ∧ Below w.heap.size w w' ∧ ∀ j z, zs[j]? = some z → w'.cell? ⟨w.heap.size, j, none⟩ = some (.string z) := by
  refine (split_walk c s zs hz hs w hS).mono fun e w' ⟨he, hw⟩ => ⟨he, ?_, ?_⟩
  · subst hw; exact ext_alloc (Below.refl _ _) _
  · subst hw
    intro j z hj
    simp [hj]

/-- Two numbers with a sign between, or one. -/
def slotsZ (l : List UInt8) : List UInt8 := if (Lib.cut l [45]).2.2 then (Lib.cut l [45]).2.1 else (Lib.cut l [45]).1
def slotsFrom (l : List UInt8) : Nat := numV (Lib.cut l [45]).1
def slotsTo (l : List UInt8) : Nat := numV (slotsZ l)
def slotsOk (l : List UInt8) : Bool := numOk (Lib.cut l [45]).1 && numOk (slotsZ l)
def dayNames : List ByteArray := [⟨#[77, 111]⟩, ⟨#[84, 117]⟩, ⟨#[87, 101]⟩, ⟨#[84, 104]⟩, ⟨#[70, 114]⟩, ⟨#[83, 97]⟩, ⟨#[83, 117]⟩]
theorem names_walk (w : World) :
    Calls Tryz.prog 81 #[] w fun e w' => e = .returned (.slice (some ⟨w.heap.size, 0, none⟩) 7 7) ∧ w.alloc (.cells (dayNames.map Value.string).toArray 9) = w' := by
  go_enter Tryz.func81, Tryz.ntmps81
  go_wp2
  go_ret
  exact ⟨rfl, rfl⟩
/-- Which day a name is; -1: none. -/
def dayI (x : ByteArray) : Int := Lib.idxOfS dayNames x
theorem idxFromS_bd (x : ByteArray) : ∀ (zs : List ByteArray) (i : Nat), -1 ≤ Lib.idxFromS zs x i ∧ Lib.idxFromS zs x i < i + zs.length ∨ Lib.idxFromS zs x i = -1
  | [], _ => Or.inr rfl
  | z :: zs, i => by
    unfold Lib.idxFromS
    by_cases h : z = x
    · rw [if_pos h]; simp; omega
    · rw [if_neg h]
      have := idxFromS_bd x zs (i + 1)
      simp only [List.length_cons]
      omega
theorem dayI_bd (x : ByteArray) : -1 ≤ dayI x ∧ dayI x ≤ 6 := by
  have h := idxFromS_bd x dayNames 0
  have hl : dayNames.length = 7 := rfl
  rw [hl] at h
  unfold dayI Lib.idxOfS
  omega
theorem day_cells (w : World) (j : Nat) (hj : j < dayNames.length) : (w.alloc (.cells (dayNames.map Value.string).toArray 9)).cell? ⟨w.heap.size, 0 + j, none⟩ = some (.string (dayNames.getD j ByteArray.empty)) := by
  have hl : dayNames.length = 7 := rfl
  simp only [Nat.zero_add]
  have h : ∀ l : List ByteArray, j < l.length → (w.alloc (.cells (l.map Value.string).toArray 9)).cell? ⟨w.heap.size, j, none⟩ = some (.string (l.getD j ByteArray.empty)) := by
    intro l hl
    simp [hl]
  exact h dayNames hj
set_option maxHeartbeats 800000 in
theorem day_walk (x : ByteArray) (w : World) :
    Calls Tryz.prog 151 #[.string x] w fun e w' => e = .returned (.tuple #[.int .i64 (max (dayI x) 0), .bool (decide (0 ≤ dayI x))]) ∧ Below w.heap.size w w' := by
  have hd := dayI_bd x
  obtain ⟨hd1, hd2⟩ := hd
  go_enter Tryz.func151, Tryz.ntmps151
  go_wp2_with fail
  refine (names_walk _).mono ?_
  rintro e w1 ⟨rfl, rfl⟩
  go_wp2_with fail
  refine (Tryz.slices_Index_string w.heap.size 0 7 7 dayNames x _ (by decide) (by omega) (day_cells w)).mono ?_
  rintro e w1 ⟨rfl, rfl⟩
  rw [show dayNames.take 7 = dayNames from rfl, show Lib.idxOfS dayNames x = dayI x from rfl]
  go_wp2
  go_ret2
  exact ⟨ret_ib (by omega) rfl, (by repeat (first | exact Below.refl _ _ | refine ext_alloc ?_ _ | refine ext_drewN ?_ _ | refine ext_drew ?_ | refine ext_trans ?_ (by assumption)))⟩

theorem day_no (x : ByteArray) (h : dayI x < 0) (w : World) :
    Calls Tryz.prog 151 #[.string x] w fun e w' => e = .returned (.tuple #[.int .i64 0, .bool false]) ∧ Below w.heap.size w w' := by
  refine (day_walk x w).mono fun e w' ⟨he, hb⟩ => ⟨?_, hb⟩
  rw [he, show max (dayI x) 0 = 0 from by omega, decide_eq_false (by omega)]
theorem day_yes (x : ByteArray) (h : 0 ≤ dayI x) (w : World) :
    Calls Tryz.prog 151 #[.string x] w fun e w' => e = .returned (.tuple #[.int .i64 (dayI x), .bool true]) ∧ Below w.heap.size w w' := by
  refine (day_walk x w).mono fun e w' ⟨he, hb⟩ => ⟨?_, hb⟩
  rw [he, show max (dayI x) 0 = dayI x from by omega, decide_eq_true (by omega)]
set_option maxHeartbeats 800000 in
theorem name_walk (k : Nat) (hk : k < 7) (w : World) :
    Calls Tryz.prog 45 #[.int .i64 (k : Int)] w fun e w' => e = .returned (.string (dayNames.getD k ByteArray.empty)) ∧ Below w.heap.size w w' := by
  have hcell := day_cells w k hk
  rw [Nat.zero_add] at hcell
  obtain ⟨W, hW⟩ : ∃ W, w.alloc (.cells (dayNames.map Value.string).toArray 9) = W := ⟨_, rfl⟩
  rw [hW] at hcell
  have hb : Below w.heap.size w W := by rw [← hW]; exact (by repeat (first | exact Below.refl _ _ | refine ext_alloc ?_ _ | refine ext_drewN ?_ _ | refine ext_drew ?_ | refine ext_trans ?_ (by assumption)))
  have hW := hide hW
  go_enter Tryz.func45, Tryz.ntmps45
  go_wp2_with fail
  refine (names_walk _).mono ?_
  rintro e w1 ⟨rfl, hw1⟩
  obtain rfl := hw1.symm.trans hW.out
  clear hW hw1
  go_wp2
  go_ret
  exact ⟨rfl, hb⟩
end Go.Proofs.YtimcdikeajbabaaGreatDoor

namespace Go.Proofs.YtimcdikeajbabaaGreatDoor
open Go.RowKit

/-- The error of day and slots: 4, 14 or 0. -/
def slotE (d sl : Int) (x y z : ByteArray) : Int :=
  if dayI x < 0 ∨ slotsOk y.data.toList = false ∨ z.size = 0 then 4 else if d ≤ dayI x ∨ slotsTo y.data.toList < slotsFrom y.data.toList ∨ sl < slotsTo y.data.toList then 14 else 0
/-- What Parse returns: weeks, day, start, length, error. -/
def parseT (d sl b m n : Int) (zs : List ByteArray) : Int × Int × Int × Int × Int :=
  if weekB d sl b m n = false then (0, 0, 0, 0, 1) else
  match zs with
  | [x, y] => if slotE d sl x y y = 0 then (2 ^ n.toNat - 1, dayI x, slotsFrom y.data.toList - 1, slotsTo y.data.toList - slotsFrom y.data.toList + 1, 0) else (0, 0, 0, 0, slotE d sl x y y)
  | [x, y, z] => if slotE d sl x y z = 0 then
      if (parseV z n).2 = 0 then ((parseV z n).1, dayI x, slotsFrom y.data.toList - 1, slotsTo y.data.toList - slotsFrom y.data.toList + 1, 0) else (0, 0, 0, 0, (parseV z n).2)
    else (0, 0, 0, 0, slotE d sl x y z)
  | _ => (0, 0, 0, 0, 4)
def timeVal (v : Int × Int × Int × Int × Int) : Value := .tuple #[.agg #[.int .i64 v.1, .int .i64 v.2.1, .int .i64 v.2.2.1, .int .i64 v.2.2.2.1], .int .i64 v.2.2.2.2]

theorem isEmpty_false (z : ByteArray) (h : z.size ≠ 0) : z.toList.isEmpty = false := by
  rw [Lib.toList_data]
  cases hl : z.data.toList with
  | nil => exact absurd (by rw [← ba_len, hl]; rfl) h
  | cons a r => rfl
theorem isEmpty_true (z : ByteArray) (h : z.size = 0) : z.toList.isEmpty = true := by
  rw [Lib.toList_data]
  cases hl : z.data.toList with
  | nil => rfl
  | cons a r => rw [← ba_len, hl] at h; simp at h
theorem splitB_mem {c : UInt8} {s x : ByteArray} {zs : List ByteArray} (hz : Lib.splitB ⟨#[c]⟩ 0 (Lib.countB s ⟨#[c]⟩) s = zs) (hx : x ∈ zs) : x.size ≤ s.size := by
  have h1 : x.data.toList ∈ splitOn1 c s.data.toList := by rw [← splitB_one, hz]; exact List.mem_map.2 ⟨x, hx, rfl⟩
  have := (splitOn1_mem c _ _ h1).1
  rwa [ba_len, ba_len] at this

end Go.Proofs.YtimcdikeajbabaaGreatDoor

namespace Go.Proofs.YtimcdikeajbabaaGreatDoor
open Go.RowKit

theorem slotE_4 {d sl : Int} {x y z : ByteArray} (h : dayI x < 0 ∨ slotsOk y.data.toList = false ∨ z.size = 0) : slotE d sl x y z = 4 := if_pos h
theorem slotE_14 {d sl : Int} {x y z : ByteArray} (h : ¬ dayI x < 0) (h' : slotsOk y.data.toList = true) (hz : z.size ≠ 0) (hc : d ≤ dayI x ∨ slotsTo y.data.toList < slotsFrom y.data.toList ∨ sl < slotsTo y.data.toList) : slotE d sl x y z = 14 := by
  unfold slotE; rw [if_neg (by simp [h, h', hz]), if_pos hc]
theorem slotE_0 {d sl : Int} {x y z : ByteArray} (h : ¬ dayI x < 0) (h' : slotsOk y.data.toList = true) (hz : z.size ≠ 0) (hc : ¬ (d ≤ dayI x ∨ slotsTo y.data.toList < slotsFrom y.data.toList ∨ sl < slotsTo y.data.toList)) : slotE d sl x y z = 0 := by
  unfold slotE; rw [if_neg (by simp [h, h', hz]), if_neg hc]
theorem parseT2_err {d sl b m n : Int} {x y : ByteArray} {k : Int} (h : weekB d sl b m n = true) (he : slotE d sl x y y = k) (hk : k ≠ 0) : parseT d sl b m n [x, y] = (0, 0, 0, 0, k) := by
  simp [parseT, h, he, hk]
theorem parseT2_ok {d sl b m n : Int} {x y : ByteArray} (h : weekB d sl b m n = true) (he : slotE d sl x y y = 0) : parseT d sl b m n [x, y] = ((2 ^ n.toNat - 1, dayI x, slotsFrom y.data.toList - 1, slotsTo y.data.toList - slotsFrom y.data.toList + 1, 0) : Int × Int × Int × Int × Int) := by
  simp [parseT, h, he]
theorem parseT3_err {d sl b m n : Int} {x y z : ByteArray} {k : Int} (h : weekB d sl b m n = true) (he : slotE d sl x y z = k) (hk : k ≠ 0) : parseT d sl b m n [x, y, z] = (0, 0, 0, 0, k) := by
  simp [parseT, h, he, hk]
theorem parseT3_err2 {d sl b m n : Int} {x y z : ByteArray} (h : weekB d sl b m n = true) (he : slotE d sl x y z = 0) (hp : (parseV z n).2 ≠ 0) : parseT d sl b m n [x, y, z] = ((0, 0, 0, 0, (parseV z n).2) : Int × Int × Int × Int × Int) := by
  simp [parseT, h, he, hp]
theorem parseT3_ok {d sl b m n : Int} {x y z : ByteArray} (h : weekB d sl b m n = true) (he : slotE d sl x y z = 0) (hp : (parseV z n).2 = 0) : parseT d sl b m n [x, y, z] = (((parseV z n).1, dayI x, slotsFrom y.data.toList - 1, slotsTo y.data.toList - slotsFrom y.data.toList + 1, 0) : Int × Int × Int × Int × Int) := by
  simp [parseT, h, he, hp]
theorem pow_facts (n : Int) (h2 : n ≤ 20) : wrap64 ((2 : Int) ^ n.toNat) = (2 : Int) ^ n.toNat ∧ wrap64 ((2 : Int) ^ n.toNat - 1) = (2 : Int) ^ n.toNat - 1 := by
  refine ⟨wrap64_powZ n h2, ?_⟩
  have hpl := pow_small n.toNat (by omega)
  have e : ((2 : Int) ^ n.toNat) = ((2 ^ n.toNat : Nat) : Int) := by simp
  rw [e]
  generalize 2 ^ n.toNat = m at hpl
  exact IntWalk.wrap64_in _ ⟨by omega, by omega⟩
theorem numL_nil : numOk [] = false := rfl
theorem slotsOk_size {y : ByteArray} (h : slotsOk y.data.toList = true) : y.size ≠ 0 := by
  intro e
  have : y.data.toList = [] := List.eq_nil_of_length_eq_zero (by rw [ba_len]; exact e)
  rw [this] at h
  revert h; decide
theorem itemsV_bd (n : Nat) (hn : n ≤ 20) : ∀ (l : List (List UInt8)) (acc : Nat), acc < 1048576 → (itemsV n l acc).1 < 1048576 ∧ (itemsV n l acc).2 ≤ 16
  | [], acc, h => by
    unfold itemsV
    split
    · simp
    · exact ⟨h, by simp⟩
  | x :: r, acc, h => by
    rw [itemsV_cons]
    have hi := itemV_lt x n hn
    split
    · exact itemsV_bd n hn r _ (or_lt _ _ h hi.1)
    · exact ⟨by simp, by simp; omega⟩
theorem parseV_bd (z : ByteArray) (n : Int) : (parseV z n).1 < 1048576 ∧ (parseV z n).2 ≤ 16 := by
  unfold parseV
  split
  · exact ⟨by simp, by simp⟩
  · exact itemsV_bd _ (by omega) _ _ (by omega)
theorem slots_bd {l : List UInt8} (h : slotsOk l = true) : 1 ≤ slotsFrom l ∧ slotsFrom l ≤ 99 ∧ 1 ≤ slotsTo l ∧ slotsTo l ≤ 99 := by
  simp only [slotsOk, Bool.and_eq_true] at h
  have h1 := numV_pos h.1
  have h2 := numV_pos h.2
  unfold slotsFrom slotsTo
  omega

end Go.Proofs.YtimcdikeajbabaaGreatDoor
