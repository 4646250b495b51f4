/-
  DERIVED. GIVEN WITH THE SEED: THE CARDS: each row of YtgbkochjoaalhaaDoorRows.lean that lists a variable, with what it lists TIED to the program's text (the seventh form; the later family's looks); each row that meets fmt, with fmt's text TOLD by the authors' own Lean function (tested against real Go, not proved from fmt's source: count such statements apart). THE CARD IS WHAT COUNTS. Prove the row's statement (the work); the ties are given (YtgbkochjoaalhaaDoorTie.lean); close each card by the builder's one call (the guide's Derived/Test/ToyasCard.lean, 'card_holds'). Laid BY PROGRAM, IN A SANDBOX (cutbox-door.mjs). By AI agents, Wed Nov 11 2026. No macro, syntax, notation, axiom, sorry.
-/
import Derived.Test.YtgbkochjoaalhaaDoorRows
import GoSem.ClaimSeven
namespace Go.Proofs.YtgbkochjoaalhaaDoor
namespace Rows

/-- THE TIED CARD OF 'timetablelaw06.TimegridMeets'. -/
def timegridMeetsCard : Claim7 := { stood := { row := timegridMeetsRow, standIns := [], harness := (true, "7708882a4c7d566cfc70bcc51588be97af0ed9989c840fca762f43037d25fd1d"), looks := true }, kinds := [], alts := [], laidByText := true, laidKinds := [.data, .data, .data, .data, .sentinel, .sentinel, .pinned], laidTests := true, laidLooks := .later }
def TimegridMeetsCardSaid : Prop := Claim7.holds Tryd.pinned (.plain (OpenSpec.ofChange timegridMeetsSpec)) timegridMeetsCard

/-- THE SECOND FORM's CARD OF 'timetablelaw06.TimegridMeets'. -/
def timegridMeetsUptoCard : Claim7 := { stood := { row := timegridMeetsUptoRow, standIns := [], harness := (true, "7708882a4c7d566cfc70bcc51588be97af0ed9989c840fca762f43037d25fd1d"), looks := true }, kinds := [], alts := [], laidByText := true, laidKinds := [.data, .data, .data, .data, .sentinel, .sentinel, .pinned], laidTests := true, laidLooks := .later }
def TimegridMeetsUptoCardSaid : Prop := Claim7.holds Tryd.pinned (.plain (OpenSpec.upto timegridMeetsSpec)) timegridMeetsUptoCard
end Rows
end Go.Proofs.YtgbkochjoaalhaaDoor
