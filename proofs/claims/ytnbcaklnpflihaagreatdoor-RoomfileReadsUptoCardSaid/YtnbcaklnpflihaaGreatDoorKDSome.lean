/- Walks of timetablemade.has and Dice.Codes: what is made, told by bounds. Conditions: the dice's cells. Walk of Dice.some: some of a list of strings. Conditions: the dice's cells; the strings'. -/
import Derived.Test.YtnbcaklnpflihaaGreatDoorKWide
import Derived.Test.YtnbcaklnpflihaaGreatDoorKWriteT
import Derived.Test.YtnbcaklnpflihaaGreatDoorKSpoilB
namespace Go.Proofs.YtnbcaklnpflihaaGreatDoor
open Go.RowKit
set_option maxRecDepth 100000

/-- The codes that lists are made of. -/
def codesL : List ByteArray := [⟨#[65, 49]⟩, ⟨#[65, 50]⟩, ⟨#[65, 51]⟩, ⟨#[65, 52]⟩, ⟨#[82, 48, 56]⟩, ⟨#[82, 48, 57]⟩, ⟨#[82, 49, 48]⟩, ⟨#[82, 49, 49]⟩, ⟨#[66]⟩, ⟨#[67, 45, 49]⟩, ⟨#[120]⟩, ⟨#[57]⟩, ⟨#[49, 48]⟩, ⟨#[49, 49]⟩, ⟨#[77, 65]⟩, ⟨#[90, 122]⟩]
theorem codesL_ok : ∀ x ∈ codesL, codeB x = true := by decide +kernel
theorem codesL_len : codesL.length = 16 := rfl
/-- A text stands in a list, told in two ways. -/
theorem idx_mem {z : ByteArray} {xs : List ByteArray} : 0 ≤ idxS z xs ↔ z ∈ xs := by
  constructor
  · intro h
    apply Classical.byContradiction
    intro hz
    rw [idxS_none (fun y hy => by rw [toList_dataL, toList_dataL]; exact beq_false_of_ne fun e => hz (dat_inj e ▸ hy))] at h
    exact absurd h (by decide)
  · intro hz
    apply Classical.byContradiction
    intro h
    have hall : ∀ n, n ≤ xs.length → ∀ y ∈ xs.take n, (y.toList == z.toList) = false := by
      intro n
      induction n with
      | zero => intro _ y hy; simp at hy
      | succ n ih =>
        intro hn y hy
        have hx : xs[n]? = some xs[n] := List.getElem?_eq_getElem (by omega)
        cases hq : (xs[n].toList == z.toList) with
        | false => exact take_miss hx (ih (by omega)) hq y hy
        | true => rw [idxS_hit hx (ih (by omega)) hq] at h; exact absurd (by omega) h
    have := hall xs.length (Nat.le_refl _) z (by rw [List.take_length]; exact hz)
    simp at this
def codesA : Array Value := #[.string ⟨#[65, 49]⟩, .string ⟨#[65, 50]⟩, .string ⟨#[65, 51]⟩, .string ⟨#[65, 52]⟩, .string ⟨#[82, 48, 56]⟩, .string ⟨#[82, 48, 57]⟩, .string ⟨#[82, 49, 48]⟩, .string ⟨#[82, 49, 49]⟩, .string ⟨#[66]⟩, .string ⟨#[67, 45, 49]⟩, .string ⟨#[120]⟩, .string ⟨#[57]⟩, .string ⟨#[49, 48]⟩, .string ⟨#[49, 49]⟩, .string ⟨#[77, 65]⟩, .string ⟨#[90, 122]⟩]
/-- Codes that were made. -/
def CodesMade (L : List ByteArray) : Prop := L.length ≤ 16 ∧ L.Nodup ∧ ∀ x ∈ L, x ∈ codesL
/-- The array of the codes. -/
def CodesAt (w : World) (ga : Nat) : Prop := ∀ k x, codesL[k]? = some x → w.cell? ⟨ga, k, none⟩ = some (.string x)
theorem codesAt_new {w : World} {t : TypeId} : CodesAt (w.alloc (.cells codesA t)) w.heap.size := by
  intro k x hk
  have h1 : codesA[k]? = some (.string x) := by
    have e : codesA.toList = codesL.map Value.string := rfl
    rw [← Array.getElem?_toList, e, List.getElem?_map, hk]; rfl
  rw [cell_of_row _ _ k _ _ _ (heap_alloc_new _ _)]
  exact h1
theorem CodesAt.later {ga : Nat} {a b : World} (h : CodesAt a ga) (hb : Below a.heap.size a b) : CodesAt b ga := fun k x hk => cell_later hb (h k x hk)
theorem CodesMade.snoc {L : List ByteArray} {k : Nat} {x : ByteArray} (h : CodesMade L) (hx : codesL[k]? = some x) (hn : x ∉ L) (hl : L.length < 16) : CodesMade (L ++ [x]) := by
  obtain ⟨h1, h2, h3⟩ := h
  refine ⟨by rw [List.length_append]; exact hl, ?_, fun y hy => ?_⟩
  · rw [List.nodup_append]
    refine ⟨h2, by simp, fun y hy z hz e => ?_⟩
    simp at hz
    subst hz
    exact hn (e ▸ hy)
  · rcases List.mem_append.1 hy with h | h
    · exact h3 y h
    · simp at h; subst h; exact List.mem_of_getElem? hx
end Go.Proofs.YtnbcaklnpflihaaGreatDoor

namespace Go.Proofs.YtnbcaklnpflihaaGreatDoor
open Go.RowKit
set_option maxRecDepth 100000

theorem At.grownK {α : Type} {K : Kind α} {S : Nat → Prop} {a b : World} {A : Option Addr} {l : List α} {row : Option Nat} (h : At K S a A l) (hg : a.grownBy b row) (hS : ∀ x, S x → row ≠ some x) : At K S b A l :=
  h.kept fun x hx hlt => ⟨hx, Nat.lt_of_lt_of_le hlt hg.size, hg.block x hlt (fun e => hS x hx e.symm)⟩
end Go.Proofs.YtnbcaklnpflihaaGreatDoor
