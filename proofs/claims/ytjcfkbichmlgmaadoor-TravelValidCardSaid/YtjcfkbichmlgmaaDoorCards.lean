/-
  DERIVED. GIVEN WITH THE SEED: THE CARDS: each row of YtjcfkbichmlgmaaDoorRows.lean that lists a variable, with what it lists TIED to the program's text (the seventh form; the later family's looks); each row that meets fmt, with fmt's text TOLD by the authors' own Lean function (tested against real Go, not proved from fmt's source: count such statements apart). THE CARD IS WHAT COUNTS. Prove the row's statement (the work); the ties are given (YtjcfkbichmlgmaaDoorTie.lean); close each card by the builder's one call (the guide's Derived/Test/ToyasCard.lean, 'card_holds'). Laid BY PROGRAM, IN A SANDBOX (cutbox-door.mjs). By AI agents, Wed Nov 11 2026. No macro, syntax, notation, axiom, sorry.
-/
import Derived.Test.YtjcfkbichmlgmaaDoorRows
import GoSem.ClaimSeven
namespace Go.Proofs.YtjcfkbichmlgmaaDoor
namespace Rows

/-- THE TIED CARD OF 'timetablelaw08.TravelValid'. -/
def travelValidCard : Claim7 := { stood := { row := travelValidRow, standIns := [], harness := (true, "582824ecb0320bcd275d755d8a76b1d233c4e8b82f8d20dcb7a85533cf6ca009"), looks := true }, kinds := [], alts := [], laidByText := true, laidKinds := [.data, .data, .data, .data, .sentinel, .sentinel, .pinned], laidTests := true, laidLooks := .later }
def TravelValidCardSaid : Prop := Claim7.holds Tryd.pinned (.plain (OpenSpec.ofChange travelValidSpec)) travelValidCard

/-- THE SECOND FORM's CARD OF 'timetablelaw08.TravelValid'. -/
def travelValidUptoCard : Claim7 := { stood := { row := travelValidUptoRow, standIns := [], harness := (true, "582824ecb0320bcd275d755d8a76b1d233c4e8b82f8d20dcb7a85533cf6ca009"), looks := true }, kinds := [], alts := [], laidByText := true, laidKinds := [.data, .data, .data, .data, .sentinel, .sentinel, .pinned], laidTests := true, laidLooks := .later }
def TravelValidUptoCardSaid : Prop := Claim7.holds Tryd.pinned (.plain (OpenSpec.upto travelValidSpec)) travelValidUptoCard
end Rows
end Go.Proofs.YtjcfkbichmlgmaaDoor
