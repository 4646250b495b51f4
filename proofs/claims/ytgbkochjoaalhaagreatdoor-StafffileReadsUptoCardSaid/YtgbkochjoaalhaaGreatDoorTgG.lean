/- The sanity check of the statements about timegrid: it answers true. No condition but what the program's variables hold. -/
import Derived.Test.YtgbkochjoaalhaaGreatDoorTgF
import Derived.Test.YtgbkochjoaalhaaGreatDoorTgC
namespace Go.Proofs.YtgbkochjoaalhaaGreatDoor
open Go.RowKit

theorem week_walk (w : World) :
    Calls Tryz.prog 48 #[] w fun e w' => e = .returned (.agg #[.int .i64 5, .int .i64 10, .int .i64 480, .int .i64 45]) ∧ Below w.heap.size w w' := by
  go_enter Tryz.func48, Tryz.ntmps48
  go_wp2
  refine end_struct1 rfl (Or.inl rfl) w.heap.size (.int .i64 5) (.int .i64 10) (.int .i64 480) (.int .i64 45) rfl rfl (by simp) (by simp) (by simp) (by simp) ⟨rfl, (by repeat (first | exact Below.refl _ _ | refine ext_alloc ?_ _ | refine ext_drewN ?_ _ | refine ext_drew ?_ | refine ext_trans ?_ (by assumption)))⟩

def textA : ByteArray := ⟨#[77, 111, 32, 51, 45, 52, 32, 111, 100, 100]⟩
def textB : ByteArray := ⟨#[77, 111, 32, 52, 32, 101, 118, 101, 110]⟩
def textC : ByteArray := ⟨#[77, 111, 32, 52]⟩
theorem parseA : parseT 5 10 480 45 10 (Lib.splitB ⟨#[32]⟩ 0 (Lib.countB textA ⟨#[32]⟩) textA) = (341, 0, 2, 2, 0) := by decide +kernel
theorem parseB : parseT 5 10 480 45 10 (Lib.splitB ⟨#[32]⟩ 0 (Lib.countB textB ⟨#[32]⟩) textB) = (682, 0, 3, 1, 0) := by decide +kernel
theorem parseC : parseT 5 10 480 45 10 (Lib.splitB ⟨#[32]⟩ 0 (Lib.countB textC ⟨#[32]⟩) textC) = (1023, 0, 3, 1, 0) := by decide +kernel
theorem ovAB : overlapB 341 0 2 2 682 0 3 1 = false := by decide +kernel
theorem ovAC : overlapB 341 0 2 2 1023 0 3 1 = true := by decide +kernel
theorem callA (w : World) (hS : Std w) :
    Calls Tryz.prog 26 #[.agg #[.int .i64 5, .int .i64 10, .int .i64 480, .int .i64 45], .int .i64 10, .string textA] w fun e w' => e = .returned (.tuple #[.agg #[.int .i64 341, .int .i64 0, .int .i64 2, .int .i64 2], .int .i64 0]) ∧ Below w.heap.size w w' := by
  have h := tgParse_walk 5 10 480 45 10 textA (by decide) w hS
  rw [parseA] at h
  exact h
theorem callB (w : World) (hS : Std w) :
    Calls Tryz.prog 26 #[.agg #[.int .i64 5, .int .i64 10, .int .i64 480, .int .i64 45], .int .i64 10, .string textB] w fun e w' => e = .returned (.tuple #[.agg #[.int .i64 682, .int .i64 0, .int .i64 3, .int .i64 1], .int .i64 0]) ∧ Below w.heap.size w w' := by
  have h := tgParse_walk 5 10 480 45 10 textB (by decide) w hS
  rw [parseB] at h
  exact h
theorem callC (w : World) (hS : Std w) :
    Calls Tryz.prog 26 #[.agg #[.int .i64 5, .int .i64 10, .int .i64 480, .int .i64 45], .int .i64 10, .string textC] w fun e w' => e = .returned (.tuple #[.agg #[.int .i64 1023, .int .i64 0, .int .i64 3, .int .i64 1], .int .i64 0]) ∧ Below w.heap.size w w' := by
  have h := tgParse_walk 5 10 480 45 10 textC (by decide) w hS
  rw [parseC] at h
  exact h
set_option maxHeartbeats 1000000 in
theorem awake06_walk (w : World) (hS : Std w) :
    Calls Tryz.prog 21 #[] w fun e w' => e = .returned (.bool true) ∧ Below w.heap.size w w' := by
  have hAB := ovAB
  have hAC := ovAC
  go_enter Tryz.func21, Tryz.ntmps21
  go_wp2_with fail
  refine (week_walk _).mono ?_
  rintro e w1 ⟨rfl, hb1⟩
  have hS1 := hS.after hb1
  go_wp2_with fail
  refine (callA _ hS1).mono ?_
  rintro e w2 ⟨rfl, hb2⟩
  have hS2 := hS1.after hb2
  have hb := ext_trans hb1 hb2
  clear hb1 hb2 hS1
  go_wp2_with fail
  have bA := Box4.new w2 43 (.int .i64 341) (.int .i64 0) (.int .i64 2) (.int .i64 2)
  refine (week_walk _).mono ?_
  rintro e w3 ⟨rfl, hbn⟩
  have hS3 := (hS2.alloc _).after hbn
  replace bA := bA.later hbn
  replace hb := ext_trans (ext_alloc hb _) hbn
  clear hbn hS2
  go_wp2_with fail
  refine (callB _ hS3).mono ?_
  rintro e w4 ⟨rfl, hbn⟩
  have hS4 := hS3.after hbn
  replace bA := bA.later hbn
  replace hb := ext_trans hb hbn
  clear hbn hS3
  go_wp2_with fail
  have bB := Box4.new w4 43 (.int .i64 682) (.int .i64 0) (.int .i64 3) (.int .i64 1)
  refine (week_walk _).mono ?_
  rintro e w5 ⟨rfl, hbn⟩
  have hS5 := (hS4.alloc _).after hbn
  replace bA := bA.later (ext_trans (ext_alloc (Below.refl _ _) _) hbn)
  replace bB := bB.later hbn
  replace hb := ext_trans (ext_alloc hb _) hbn
  clear hbn hS4
  go_wp2_with fail
  refine (callC _ hS5).mono ?_
  rintro e w6 ⟨rfl, hbn⟩
  have hS6 := hS5.after hbn
  replace bA := bA.later hbn
  replace bB := bB.later hbn
  replace hb := ext_trans hb hbn
  clear hbn hS5
  have lA := bA.lt
  have lB := bB.lt
  obtain ⟨a0, a1, a2, a3⟩ := bA
  obtain ⟨b0, b1, b2, b3⟩ := bB
  go_wp2_with fail
  refine (tgOverlap_walk _ _ _ _ _ _ _ _ _).mono ?_
  rintro e w7 ⟨rfl, hbn⟩
  replace hb := ext_trans (ext_alloc hb _) hbn
  obtain ⟨hc, hf⟩ := bcell hbn
  go_wp2_with fail
  refine (tgOverlap_walk _ _ _ _ _ _ _ _ _).mono ?_
  rintro e w8 ⟨rfl, hbn2⟩
  go_wp2
  go_ret
  exact ⟨rfl, ext_trans hb hbn2⟩
end Go.Proofs.YtgbkochjoaalhaaGreatDoor
