/- Walks of package timetablemade: the dice that make inputs out of numbers. What they give is told by its bounds alone. -/
import Derived.Test.YtpojkgfckepoeaaGreatDoorRows
import Derived.WalkKit
import Derived.WalkSpells
import Derived.WalkLawsBesides
import Derived.BigGuardPart
import Derived.Lib.Hide
import Derived.Laws.BitsAllLaws
import Derived.Laws.BitsLemmas
import Derived.Lib.LaidTab
import Derived.Test.YtpojkgfckepoeaaGreatDoorShelf
import Derived.Lib.ConvBytes
import Derived.Deep.QuietTactic
import Derived.BigQuiet
import Derived.Laws.ResultCell
import Derived.RegionTactic
import Derived.BigRegion
import Derived.Deep.RegionHeld3
import Derived.Deep.DeepCutAuto
import Derived.Test.YtpojkgfckepoeaaGreatDoorXEnds
namespace Go.Proofs.YtpojkgfckepoeaaGreatDoor
open Go.RowKit

/-- n modulo m, from 0 on; 0 if m is less than 1. -/
def modV (x m : Int) : Int := if m < 1 then 0 else if x.tmod m < 0 then x.tmod m + m else x.tmod m
theorem tmod_bd (x m : Int) (h : 1 ≤ m) : -m < x.tmod m ∧ x.tmod m < m := by
  have h1 := Int.tmod_lt_of_pos x (by omega : 0 < m)
  have h2 := Int.lt_tmod_of_pos x (by omega : 0 < m)
  omega
theorem modV_bd (x m : Int) : 0 ≤ modV x m ∧ (1 ≤ m → modV x m < m) ∧ (m < 1 → modV x m = 0) := by
  unfold modV
  by_cases h : m < 1
  · rw [if_pos h]; exact ⟨by omega, by omega, fun _ => rfl⟩
  · rw [if_neg h]
    have := tmod_bd x m (by omega)
    split <;> exact ⟨by omega, by omega, by omega⟩
set_option maxHeartbeats 400000 in
theorem mod_walk (x m : Int) (hm : m ≤ 1073741824) (w : World) :
    Calls Tryz.prog 33 #[.int .i64 x, .int .i64 m] w fun e w' => e = .returned (.int .i64 (modV x m)) ∧ w = w' := by
  by_cases h : m < 1
  · rw [show modV x m = 0 from if_pos h]
    go_enter Tryz.func33, Tryz.ntmps33
    go_wp2
    go_ret
    exact ⟨rfl, rfl⟩
  · have hb := tmod_bd x m (by omega)
    obtain ⟨h1, h2⟩ := hb
    have hv : Hid (modV x m = if x.tmod m < 0 then x.tmod m + m else x.tmod m) := if_neg h
    have hm0 : (m == 0) = false := by simp; omega
    go_enter Tryz.func33, Tryz.ntmps33
    go_wp2
    all_goals go_ret
    all_goals refine ⟨ret_int ?_, rfl⟩
    all_goals rw [hv.out]
    all_goals first | exact (if_pos ‹_›).symm | exact (if_neg (by omega)).symm

theorem only_alloc {a w : World} {row : Option Nat} (h : a.grownBy w row) (o : Obj) : a.grownBy (w.alloc o) row :=
  ⟨h.os, h.tape, h.output, Nat.le_trans h.size (by simp), fun i hi hne => (Below.heap_alloc w o i (Nat.lt_of_lt_of_le hi h.size)).trans (h.block i hi hne)⟩
theorem only_setCell {a w : World} {g : Nat} (h : a.grownBy w (some g)) {p : Addr} (hp : p.block = g ∨ a.heap.size ≤ p.block) (u : Value) : a.grownBy (w.setCell p u) (some g) :=
  ⟨h.os, h.tape, h.output, by simpa [World.setCell] using h.size, fun i hi hne => (Below.heap_setCell w p u i (by
    rintro rfl
    rcases hp with hp | hp
    · exact hne (by rw [hp])
    · omega)).trans (h.block i hi hne)⟩
theorem only_of_below {a w : World} (h : Below a.heap.size a w) (row : Option Nat) : a.grownBy w row := ⟨h.os, h.tape, h.output, h.size, fun i hi _ => h.block i hi⟩
end Go.Proofs.YtpojkgfckepoeaaGreatDoor
