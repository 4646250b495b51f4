/-
  DERIVED. GIVEN WITH THE SEED: THE CARDS: each row of YtdnnahdafhddlaaGreatDoorRows.lean that lists a variable, with what it lists TIED to the program's text (the seventh form; the later family's looks); each row that meets fmt, with fmt's text TOLD by the authors' own Lean function (tested against real Go, not proved from fmt's source: count such statements apart). THE CARD IS WHAT COUNTS. Prove the row's statement (the work); the ties are given (YtdnnahdafhddlaaGreatDoorTie.lean); close each card by the builder's one call (the guide's Derived/Test/ToyasCard.lean, 'card_holds'). Laid BY PROGRAM, IN A SANDBOX (cutbox-door.mjs). By AI agents, Wed Nov 11 2026. No macro, syntax, notation, axiom, sorry.
-/
import Derived.Test.YtdnnahdafhddlaaGreatDoorRows
import GoSem.ClaimSeven
namespace Go.Proofs.YtdnnahdafhddlaaGreatDoor
namespace Rows

/-- THE TIED CARD OF 'timetablelaw14.RulesyntaxParses'. -/
def rulesyntaxParsesCard : Claim7 := { stood := { row := rulesyntaxParsesRow, standIns := [], harness := (true, "b5049518bfd530daec781fa7f5904fe118e670142e39e4e57c73d242c6b9ea3c"), looks := true }, kinds := [], alts := [], laidByText := true, laidKinds := [.data, .data, .data, .data, .data, .data, .data, .data, .sentinel, .sentinel, .pinned], laidTests := true, laidLooks := .later }
def RulesyntaxParsesCardSaid : Prop := Claim7.holds Tryz.pinned (.plain (OpenSpec.ofChange rulesyntaxParsesSpec)) rulesyntaxParsesCard

/-- THE TIED CARD OF 'timetablelaw14.RulesyntaxWords'. -/
def rulesyntaxWordsCard : Claim7 := { stood := { row := rulesyntaxWordsRow, standIns := [], harness := (true, "b5049518bfd530daec781fa7f5904fe118e670142e39e4e57c73d242c6b9ea3c"), looks := true }, kinds := [], alts := [], laidByText := true, laidKinds := [.data, .data, .data, .data, .data, .data, .data, .data, .sentinel, .sentinel, .pinned], laidTests := true, laidLooks := .later }
def RulesyntaxWordsCardSaid : Prop := Claim7.holds Tryz.pinned (.plain (OpenSpec.ofChange rulesyntaxWordsSpec)) rulesyntaxWordsCard

/-- THE TIED CARD OF 'timetablelaw14.RulesyntaxExact'. -/
def rulesyntaxExactCard : Claim7 := { stood := { row := rulesyntaxExactRow, standIns := [], harness := (true, "b5049518bfd530daec781fa7f5904fe118e670142e39e4e57c73d242c6b9ea3c"), looks := true }, kinds := [], alts := [], laidByText := true, laidKinds := [.data, .data, .data, .data, .data, .data, .data, .data, .sentinel, .sentinel, .pinned], laidTests := true, laidLooks := .later }
def RulesyntaxExactCardSaid : Prop := Claim7.holds Tryz.pinned (.plain (OpenSpec.ofChange rulesyntaxExactSpec)) rulesyntaxExactCard

/-- THE SECOND FORM's CARD OF 'timetablelaw14.RulesyntaxParses'. -/
def rulesyntaxParsesUptoCard : Claim7 := { stood := { row := rulesyntaxParsesUptoRow, standIns := [], harness := (true, "b5049518bfd530daec781fa7f5904fe118e670142e39e4e57c73d242c6b9ea3c"), looks := true }, kinds := [], alts := [], laidByText := true, laidKinds := [.data, .data, .data, .data, .data, .data, .data, .data, .sentinel, .sentinel, .pinned], laidTests := true, laidLooks := .later }
def RulesyntaxParsesUptoCardSaid : Prop := Claim7.holds Tryz.pinned (.plain (OpenSpec.upto rulesyntaxParsesSpec)) rulesyntaxParsesUptoCard

/-- THE SECOND FORM's CARD OF 'timetablelaw14.RulesyntaxWords'. -/
def rulesyntaxWordsUptoCard : Claim7 := { stood := { row := rulesyntaxWordsUptoRow, standIns := [], harness := (true, "b5049518bfd530daec781fa7f5904fe118e670142e39e4e57c73d242c6b9ea3c"), looks := true }, kinds := [], alts := [], laidByText := true, laidKinds := [.data, .data, .data, .data, .data, .data, .data, .data, .sentinel, .sentinel, .pinned], laidTests := true, laidLooks := .later }
def RulesyntaxWordsUptoCardSaid : Prop := Claim7.holds Tryz.pinned (.plain (OpenSpec.upto rulesyntaxWordsSpec)) rulesyntaxWordsUptoCard

/-- THE SECOND FORM's CARD OF 'timetablelaw14.RulesyntaxExact'. -/
def rulesyntaxExactUptoCard : Claim7 := { stood := { row := rulesyntaxExactUptoRow, standIns := [], harness := (true, "b5049518bfd530daec781fa7f5904fe118e670142e39e4e57c73d242c6b9ea3c"), looks := true }, kinds := [], alts := [], laidByText := true, laidKinds := [.data, .data, .data, .data, .data, .data, .data, .data, .sentinel, .sentinel, .pinned], laidTests := true, laidLooks := .later }
def RulesyntaxExactUptoCardSaid : Prop := Claim7.holds Tryz.pinned (.plain (OpenSpec.upto rulesyntaxExactSpec)) rulesyntaxExactUptoCard
end Rows
end Go.Proofs.YtdnnahdafhddlaaGreatDoor
