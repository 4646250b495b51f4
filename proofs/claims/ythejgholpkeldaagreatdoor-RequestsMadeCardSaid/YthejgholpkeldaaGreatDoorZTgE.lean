/- Walks of package timegrid, on: numbers, slots, names of days. Conditions: texts shorter than 2^30 bytes. Walk of timegrid.Parse. Conditions: texts shorter than 2^30 bytes. -/
import Derived.Test.YthejgholpkeldaaGreatDoorRows
import Derived.WalkKit
import Derived.WalkSpells
import Derived.WalkLawsBesides
import Derived.BigGuardPart
import Derived.Lib.Hide
import Derived.Laws.BitsAllLaws
import Derived.Laws.BitsLemmas
import Derived.Lib.LaidTab
import Derived.Test.YthejgholpkeldaaGreatDoorShelf
import Derived.Lib.ConvBytes
import Derived.Deep.QuietTactic
import Derived.BigQuiet
import Derived.Lib.SmallJoins
import Derived.Lib.SplitLaws
import Derived.Lib.CountLaws
import Derived.Lib.IndexMore
import Derived.Lib.Split
import Derived.Lib.Join
import Derived.Test.YthejgholpkeldaaGreatDoorZPlain
import Derived.Laws.ResultCell
import Derived.Test.YthejgholpkeldaaGreatDoorZWsB
namespace Go.Proofs.YthejgholpkeldaaGreatDoor
open Go.RowKit

/-- strings.Split at one byte, with its pieces named. -/
theorem split_walk (c : UInt8) (s : ByteArray) (zs : List ByteArray) (hz : Lib.splitB ⟨#[c]⟩ 0 (Lib.countB s ⟨#[c]⟩) s = zs) (hs : s.size < 4294967281) (w : World) (hS : Std w) :
    Calls Tryz.prog 127 #[.string s, .string ⟨#[c]⟩] w fun e w' => e = .returned (.slice (some ⟨w.heap.size, 0, none⟩) zs.length zs.length) ∧ w.alloc (.cells (zs.map Value.string).toArray 9) = w' := by
  obtain ⟨m, hm⟩ := hS.maxLen
  refine (Tryz.strings_Split s ⟨#[c]⟩ m w hs hm (Nat.le_refl 1)).mono fun e w' ⟨he, hw⟩ => ?_
  have hl := splitB_len c s
  rw [hz] at hl hw
  rw [he, hw, hl]
  exact ⟨rfl, rfl⟩

/-- The same with the new world closed: what its block holds. -/
theorem split_walk' (c : UInt8) (s : ByteArray) (zs : List ByteArray) (hz : Lib.splitB ⟨#[c]⟩ 0 (Lib.countB s ⟨#[c]⟩) s = zs) (hs : s.size < 4294967281) (w : World) (hS : Std w) :
    Calls Tryz.prog 127 #[.string s, .string ⟨#[c]⟩] w fun e w' => e = .returned (.slice (some ⟨w.heap.size, 0, none⟩) zs.length zs.length) ∧ Below w.heap.size w w' ∧ ∀ j z, zs[j]? = some z → w'.cell? ⟨w.heap.size, j, none⟩ = some (.string z) := by
  refine (split_walk c s zs hz hs w hS).mono fun e w' ⟨he, hw⟩ => ⟨he, ?_, ?_⟩
  · subst hw; exact ext_alloc (Below.refl _ _) _
  · subst hw
    intro j z hj
    simp [hj]

end Go.Proofs.YthejgholpkeldaaGreatDoor

namespace Go.Proofs.YthejgholpkeldaaGreatDoor
open Go.RowKit

theorem isEmpty_false (z : ByteArray) (h : z.size ≠ 0) : z.toList.isEmpty = false := by
  rw [Lib.toList_data]
  cases hl : z.data.toList with
  | nil => exact absurd (by rw [← ba_len, hl]; rfl) h
  | cons a r => rfl
theorem isEmpty_true (z : ByteArray) (h : z.size = 0) : z.toList.isEmpty = true := by
  rw [Lib.toList_data]
  cases hl : z.data.toList with
  | nil => rfl
  | cons a r => rw [← ba_len, hl] at h; simp at h
theorem splitB_mem {c : UInt8} {s x : ByteArray} {zs : List ByteArray} (hz : Lib.splitB ⟨#[c]⟩ 0 (Lib.countB s ⟨#[c]⟩) s = zs) (hx : x ∈ zs) : x.size ≤ s.size := by
  have h1 : x.data.toList ∈ splitOn1 c s.data.toList := by rw [← splitB_one, hz]; exact List.mem_map.2 ⟨x, hx, rfl⟩
  have := (splitOn1_mem c _ _ h1).1
  rwa [ba_len, ba_len] at this

end Go.Proofs.YthejgholpkeldaaGreatDoor
