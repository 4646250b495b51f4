/- Walks of package timegrid, on: numbers, slots, names of days. Conditions: texts shorter than 2^30 bytes. Walk of timegrid.Parse. Conditions: texts shorter than 2^30 bytes. -/
import Derived.Test.YtimcdikeajbabaaGreatDoorRows
import Derived.WalkKit
import Derived.WalkSpells
import Derived.WalkLawsBesides
import Derived.BigGuardPart
import Derived.Lib.Hide
import Derived.Laws.BitsAllLaws
import Derived.Laws.BitsLemmas
import Derived.Lib.LaidTab
import Derived.Test.YtimcdikeajbabaaGreatDoorShelf
import Derived.Lib.ConvBytes
import Derived.Deep.QuietTactic
import Derived.BigQuiet
import Derived.Lib.SmallJoins
import Derived.Lib.SplitLaws
import Derived.Lib.CountLaws
import Derived.Lib.IndexMore
import Derived.Lib.Split
import Derived.Lib.Join
import Derived.Test.YtimcdikeajbabaaGreatDoorZPlain
import Derived.Laws.ResultCell
import Derived.Test.YtimcdikeajbabaaGreatDoorZWsC
namespace Go.Proofs.YtimcdikeajbabaaGreatDoor
open Go.RowKit

/-- strings.Split at one byte, with its pieces named. -/
theorem split_walk (c : UInt8) (s : ByteArray) (zs : List ByteArray) (hz : Lib.splitB ⟨#[c]⟩ 0 (Lib.countB s ⟨#[c]⟩) s = zs) (hs : s.size < 4294967281) (w : World) (hS : Std w) :
    Calls Tryz.prog 103 #[.string s, .string ⟨#[c]⟩] w fun e w' => e = .returned (.slice (some ⟨w.heap.size, 0, none⟩) zs.length zs.length) ∧ w.alloc (.cells (zs.map Value.string).toArray 9) = w' := by
  obtain ⟨m, hm⟩ := hS.maxLen
  refine (Tryz.strings_Split s ⟨#[c]⟩ m w hs hm (Nat.le_refl 1)).mono fun e w' ⟨he, hw⟩ => ?_
  have hl := splitB_len c s
  rw [hz] at hl hw
  rw [he, hw, hl]
  exact ⟨rfl, rfl⟩

/-- The same with the new world closed: what its block holds. -/
theorem split_walk' (c : UInt8) (s : ByteArray) (zs : List ByteArray) (hz : Lib.splitB ⟨#[c]⟩ 0 (Lib.countB s ⟨#[c]⟩) s = zs) (hs : s.size < 4294967281) (w : World) (hS : Std w) :
    Calls Tryz.prog 103 #[.string s, .string ⟨#[c]⟩] w fun e w' => e = .returned (.slice (some ⟨w.heap.size, 0, none⟩) zs.length zs.length) ∧ Below w.heap.size w w' ∧ ∀ j z, zs[j]? = some z → w'.cell? ⟨w.heap.size, j, none⟩ = some (.string z) := by
  refine (split_walk c s zs hz hs w hS).mono fun e w' ⟨he, hw⟩ => ⟨he, ?_, ?_⟩
  · subst hw; exact ext_alloc (Below.refl _ _) _
  · subst hw
    intro j z hj
    simp [hj]

def dayNames : List ByteArray := [⟨#[77, 111]⟩, ⟨#[84, 117]⟩, ⟨#[87, 101]⟩, ⟨#[84, 104]⟩, ⟨#[70, 114]⟩, ⟨#[83, 97]⟩, ⟨#[83, 117]⟩]
theorem names_walk (w : World) :
    Calls Tryz.prog 81 #[] w fun e w' => e = .returned (.slice (some ⟨w.heap.size, 0, none⟩) 7 7) ∧ w.alloc (.cells (dayNames.map Value.string).toArray 9) = w' := by
  go_enter Tryz.func81, Tryz.ntmps81
  go_wp2
  go_ret
  exact ⟨rfl, rfl⟩
/-- Which day a name is; -1: none. -/
def dayI (x : ByteArray) : Int := Lib.idxOfS dayNames x
theorem idxFromS_bd (x : ByteArray) : ∀ (zs : List ByteArray) (i : Nat), -1 ≤ Lib.idxFromS zs x i ∧ Lib.idxFromS zs x i < i + zs.length ∨ Lib.idxFromS zs x i = -1
  | [], _ => Or.inr rfl
  | z :: zs, i => by
    unfold Lib.idxFromS
    by_cases h : z = x
    · rw [if_pos h]; simp; omega
    · rw [if_neg h]
      have := idxFromS_bd x zs (i + 1)
      simp only [List.length_cons]
      omega
theorem dayI_bd (x : ByteArray) : -1 ≤ dayI x ∧ dayI x ≤ 6 := by
  have h := idxFromS_bd x dayNames 0
  have hl : dayNames.length = 7 := rfl
  rw [hl] at h
  unfold dayI Lib.idxOfS
  omega
theorem day_cells (w : World) (j : Nat) (hj : j < dayNames.length) : (w.alloc (.cells (dayNames.map Value.string).toArray 9)).cell? ⟨w.heap.size, 0 + j, none⟩ = some (.string (dayNames.getD j ByteArray.empty)) := by
  have hl : dayNames.length = 7 := rfl
  simp only [Nat.zero_add]
  have h : ∀ l : List ByteArray, j < l.length → (w.alloc (.cells (l.map Value.string).toArray 9)).cell? ⟨w.heap.size, j, none⟩ = some (.string (l.getD j ByteArray.empty)) := by
    intro l hl
    simp [hl]
  exact h dayNames hj
set_option maxHeartbeats 800000 in
theorem day_walk (x : ByteArray) (w : World) :
    Calls Tryz.prog 151 #[.string x] w fun e w' => e = .returned (.tuple #[.int .i64 (max (dayI x) 0), .bool (decide (0 ≤ dayI x))]) ∧ Below w.heap.size w w' := by
  have hd := dayI_bd x
  obtain ⟨hd1, hd2⟩ := hd
  go_enter Tryz.func151, Tryz.ntmps151
  go_wp2_with fail
  refine (names_walk _).mono ?_
  rintro e w1 ⟨rfl, rfl⟩
  go_wp2_with fail
  refine (Tryz.slices_Index_string w.heap.size 0 7 7 dayNames x _ (by decide) (by omega) (day_cells w)).mono ?_
  rintro e w1 ⟨rfl, rfl⟩
  rw [show dayNames.take 7 = dayNames from rfl, show Lib.idxOfS dayNames x = dayI x from rfl]
  go_wp2
  go_ret2
  exact ⟨ret_ib (by omega) rfl, (by repeat (first | exact Below.refl _ _ | refine ext_alloc ?_ _ | refine ext_drewN ?_ _ | refine ext_drew ?_ | refine ext_trans ?_ (by assumption)))⟩

end Go.Proofs.YtimcdikeajbabaaGreatDoor

namespace Go.Proofs.YtimcdikeajbabaaGreatDoor
open Go.RowKit

theorem isEmpty_false (z : ByteArray) (h : z.size ≠ 0) : z.toList.isEmpty = false := by
  rw [Lib.toList_data]
  cases hl : z.data.toList with
  | nil => exact absurd (by rw [← ba_len, hl]; rfl) h
  | cons a r => rfl
theorem isEmpty_true (z : ByteArray) (h : z.size = 0) : z.toList.isEmpty = true := by
  rw [Lib.toList_data]
  cases hl : z.data.toList with
  | nil => rfl
  | cons a r => rw [← ba_len, hl] at h; simp at h
theorem splitB_mem {c : UInt8} {s x : ByteArray} {zs : List ByteArray} (hz : Lib.splitB ⟨#[c]⟩ 0 (Lib.countB s ⟨#[c]⟩) s = zs) (hx : x ∈ zs) : x.size ≤ s.size := by
  have h1 : x.data.toList ∈ splitOn1 c s.data.toList := by rw [← splitB_one, hz]; exact List.mem_map.2 ⟨x, hx, rfl⟩
  have := (splitOn1_mem c _ _ h1).1
  rwa [ba_len, ba_len] at this

end Go.Proofs.YtimcdikeajbabaaGreatDoor
