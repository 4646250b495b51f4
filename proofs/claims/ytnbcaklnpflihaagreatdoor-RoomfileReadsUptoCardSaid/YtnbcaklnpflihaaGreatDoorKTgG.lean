/- The sanity check of the statements about timegrid: it answers true. No condition but what the program's variables hold. -/
import Derived.Test.YtnbcaklnpflihaaGreatDoorKTgF
import Derived.Test.YtnbcaklnpflihaaGreatDoorKTgC
namespace Go.Proofs.YtnbcaklnpflihaaGreatDoor
open Go.RowKit

def textA : ByteArray := ⟨#[77, 111, 32, 51, 45, 52, 32, 111, 100, 100]⟩
def textB : ByteArray := ⟨#[77, 111, 32, 52, 32, 101, 118, 101, 110]⟩
def textC : ByteArray := ⟨#[77, 111, 32, 52]⟩
theorem parseA : parseT 5 10 480 45 10 (Lib.splitB ⟨#[32]⟩ 0 (Lib.countB textA ⟨#[32]⟩) textA) = (341, 0, 2, 2, 0) := by decide +kernel
theorem parseB : parseT 5 10 480 45 10 (Lib.splitB ⟨#[32]⟩ 0 (Lib.countB textB ⟨#[32]⟩) textB) = (682, 0, 3, 1, 0) := by decide +kernel
theorem parseC : parseT 5 10 480 45 10 (Lib.splitB ⟨#[32]⟩ 0 (Lib.countB textC ⟨#[32]⟩) textC) = (1023, 0, 3, 1, 0) := by decide +kernel
theorem ovAB : overlapB 341 0 2 2 682 0 3 1 = false := by decide +kernel
theorem ovAC : overlapB 341 0 2 2 1023 0 3 1 = true := by decide +kernel
theorem callA (w : World) (hS : Std w) :
    Calls Tryz.prog 82 #[.agg #[.int .i64 5, .int .i64 10, .int .i64 480, .int .i64 45], .int .i64 10, .string textA] w fun e w' => e = .returned (.tuple #[.agg #[.int .i64 341, .int .i64 0, .int .i64 2, .int .i64 2], .int .i64 0]) ∧ Below w.heap.size w w' := by
  have h := tgParse_walk 5 10 480 45 10 textA (by decide) w hS
  rw [parseA] at h
  exact h
theorem callB (w : World) (hS : Std w) :
    Calls Tryz.prog 82 #[.agg #[.int .i64 5, .int .i64 10, .int .i64 480, .int .i64 45], .int .i64 10, .string textB] w fun e w' => e = .returned (.tuple #[.agg #[.int .i64 682, .int .i64 0, .int .i64 3, .int .i64 1], .int .i64 0]) ∧ Below w.heap.size w w' := by
  have h := tgParse_walk 5 10 480 45 10 textB (by decide) w hS
  rw [parseB] at h
  exact h
theorem callC (w : World) (hS : Std w) :
    Calls Tryz.prog 82 #[.agg #[.int .i64 5, .int .i64 10, .int .i64 480, .int .i64 45], .int .i64 10, .string textC] w fun e w' => e = .returned (.tuple #[.agg #[.int .i64 1023, .int .i64 0, .int .i64 3, .int .i64 1], .int .i64 0]) ∧ Below w.heap.size w w' := by
  have h := tgParse_walk 5 10 480 45 10 textC (by decide) w hS
  rw [parseC] at h
  exact h
end Go.Proofs.YtnbcaklnpflihaaGreatDoor
