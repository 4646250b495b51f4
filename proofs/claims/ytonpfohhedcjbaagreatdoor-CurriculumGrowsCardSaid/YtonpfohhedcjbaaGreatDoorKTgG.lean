/- The sanity check of the statements about timegrid: it answers true. No condition but what the program's variables hold. -/
import Derived.Test.YtonpfohhedcjbaaGreatDoorKTgF
import Derived.Test.YtonpfohhedcjbaaGreatDoorKTgC
namespace Go.Proofs.YtonpfohhedcjbaaGreatDoor
open Go.RowKit

def textA : ByteArray := ⟨#[77, 111, 32, 51, 45, 52, 32, 111, 100, 100]⟩
def textB : ByteArray := ⟨#[77, 111, 32, 52, 32, 101, 118, 101, 110]⟩
def textC : ByteArray := ⟨#[77, 111, 32, 52]⟩
theorem parseA : parseT 5 10 480 45 10 (Lib.splitB ⟨#[32]⟩ 0 (Lib.countB textA ⟨#[32]⟩) textA) = (341, 0, 2, 2, 0) := by decide +kernel
theorem parseB : parseT 5 10 480 45 10 (Lib.splitB ⟨#[32]⟩ 0 (Lib.countB textB ⟨#[32]⟩) textB) = (682, 0, 3, 1, 0) := by decide +kernel
theorem parseC : parseT 5 10 480 45 10 (Lib.splitB ⟨#[32]⟩ 0 (Lib.countB textC ⟨#[32]⟩) textC) = (1023, 0, 3, 1, 0) := by decide +kernel
theorem ovAB : overlapB 341 0 2 2 682 0 3 1 = false := by decide +kernel
theorem ovAC : overlapB 341 0 2 2 1023 0 3 1 = true := by decide +kernel
end Go.Proofs.YtonpfohhedcjbaaGreatDoor
