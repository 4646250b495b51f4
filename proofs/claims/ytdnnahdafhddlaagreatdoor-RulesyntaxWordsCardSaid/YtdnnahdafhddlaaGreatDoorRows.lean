/-
  NARROWER THAN 'FOR EVERY INPUT', by the rows' own cells (each row's printed sentence says how): RulesyntaxParses: laid · RulesyntaxWords: laid · RulesyntaxExact: loops, laid.
  DERIVED. THE GIVEN ROWS OF THIS SEAT. 3 by the template 'for every input the law returns true; each argument reads behind the call as it read before'; 0 by the template 'total and deterministic' (their statements: YtdnnahdafhddlaaGreatDoorTotals.lean).
  GIVEN WITH THE SEED: the statements are not yours to turn. If you find one false, say at which input.
  Laid BY PROGRAM, IN A SANDBOX (cutbox-rows.mjs): the forced cells as the released guide's own fill.sh prints them over the translation 194fdfd0f49daaad… (all of the seat's roots in one cut). By AI agents, Wed Nov 11 2026. No macro, syntax, notation, axiom, sorry.
-/
import Derived.Test.YtdnnahdafhddlaaGreatDoorChecked
import GoSem.PinnedTables
import GoSem.Claim
import GoSem.ClaimJoined
import GoSem.ClaimMapViews
import Derived.JoinedTies
import Derived.KernelRfl
namespace Go.Proofs.YtdnnahdafhddlaaGreatDoor
/- THE CELL 'sum', in the pinned program and in every row, IS THE sha256 OF THE DUMP (.gsa) THAT YtdnnahdafhddlaaGreatDoorProg.lean LOADS. Nothing in Lean hashes anything: it is a label: what it is worth is what the hold of that sum in a sandbox is worth. -/
noncomputable def Tryz.pinned : Pinned := { name := "ytdnnahdafhddlaagreatdoor", sum := "194fdfd0f49daaad9d93193e7947967ed6b2d73845c60520989ccfc096cf48ea", checked := Tryz.checked }
namespace Rows
def none {H : Type} : Left H := { results := [], args := [] }

/- WHAT THE LISTED PACKAGE-LEVEL VARIABLES READ AS WHEN THE CALL BEGINS. Each datum BY PROGRAM (the guide's laid-datum.mjs) off the statement by which the dump's own 'gosem.cut.vars' lays the variable. In a bare row this is a premise. The card (YtdnnahdafhddlaaGreatDoorCards.lean) ties it to the program's text. -/
def laid_math_bits_deBruijn32tab {H : Type} : DataW H := .agg [.lit (.int .u8 0), .lit (.int .u8 1), .lit (.int .u8 28), .lit (.int .u8 2), .lit (.int .u8 29), .lit (.int .u8 14), .lit (.int .u8 24), .lit (.int .u8 3), .lit (.int .u8 30), .lit (.int .u8 22), .lit (.int .u8 20), .lit (.int .u8 15), .lit (.int .u8 25), .lit (.int .u8 17), .lit (.int .u8 4), .lit (.int .u8 8), .lit (.int .u8 31), .lit (.int .u8 27), .lit (.int .u8 13), .lit (.int .u8 23), .lit (.int .u8 21), .lit (.int .u8 19), .lit (.int .u8 16), .lit (.int .u8 7), .lit (.int .u8 26), .lit (.int .u8 12), .lit (.int .u8 18), .lit (.int .u8 6), .lit (.int .u8 11), .lit (.int .u8 5), .lit (.int .u8 10), .lit (.int .u8 9)]
def laid_math_bits_deBruijn64tab {H : Type} : DataW H := .agg [.lit (.int .u8 0), .lit (.int .u8 1), .lit (.int .u8 56), .lit (.int .u8 2), .lit (.int .u8 57), .lit (.int .u8 49), .lit (.int .u8 28), .lit (.int .u8 3), .lit (.int .u8 61), .lit (.int .u8 58), .lit (.int .u8 42), .lit (.int .u8 50), .lit (.int .u8 38), .lit (.int .u8 29), .lit (.int .u8 17), .lit (.int .u8 4), .lit (.int .u8 62), .lit (.int .u8 47), .lit (.int .u8 59), .lit (.int .u8 36), .lit (.int .u8 45), .lit (.int .u8 43), .lit (.int .u8 51), .lit (.int .u8 22), .lit (.int .u8 53), .lit (.int .u8 39), .lit (.int .u8 33), .lit (.int .u8 30), .lit (.int .u8 24), .lit (.int .u8 18), .lit (.int .u8 12), .lit (.int .u8 5), .lit (.int .u8 63), .lit (.int .u8 55), .lit (.int .u8 48), .lit (.int .u8 27), .lit (.int .u8 60), .lit (.int .u8 41), .lit (.int .u8 37), .lit (.int .u8 16), .lit (.int .u8 46), .lit (.int .u8 35), .lit (.int .u8 44), .lit (.int .u8 21), .lit (.int .u8 52), .lit (.int .u8 32), .lit (.int .u8 23), .lit (.int .u8 11), .lit (.int .u8 54), .lit (.int .u8 26), .lit (.int .u8 40), .lit (.int .u8 15), .lit (.int .u8 34), .lit (.int .u8 20), .lit (.int .u8 31), .lit (.int .u8 10), .lit (.int .u8 25), .lit (.int .u8 14), .lit (.int .u8 19), .lit (.int .u8 9), .lit (.int .u8 13), .lit (.int .u8 8), .lit (.int .u8 7), .lit (.int .u8 6)]
def laid_internal_strconv_uint64pow10 {H : Type} : DataW H := .agg [.lit (.int .u64 1), .lit (.int .u64 10), .lit (.int .u64 100), .lit (.int .u64 1000), .lit (.int .u64 10000), .lit (.int .u64 100000), .lit (.int .u64 1000000), .lit (.int .u64 10000000), .lit (.int .u64 100000000), .lit (.int .u64 1000000000), .lit (.int .u64 10000000000), .lit (.int .u64 100000000000), .lit (.int .u64 1000000000000), .lit (.int .u64 10000000000000), .lit (.int .u64 100000000000000), .lit (.int .u64 1000000000000000), .lit (.int .u64 10000000000000000), .lit (.int .u64 100000000000000000), .lit (.int .u64 1000000000000000000), .lit (.int .u64 10000000000000000000)]
def laid_timetable_timetableref05_words {H : Type} : DataW H := .agg [.lit (.string [97, 108, 108]), .lit (.string [111, 100, 100]), .lit (.string [101, 118, 101, 110]), .lit (.string [102, 105, 114, 115, 116]), .lit (.string [115, 101, 99, 111, 110, 100])]
def laid_timetable_timetableref06_days {H : Type} : DataW H := .agg [.lit (.string [77, 111]), .lit (.string [84, 117]), .lit (.string [87, 101]), .lit (.string [84, 104]), .lit (.string [70, 114]), .lit (.string [83, 97]), .lit (.string [83, 117])]
def laid_timetable_timetableref14_names {H : Type} : DataW H := .agg [.lit (.string [97, 112, 97, 114, 116]), .lit (.string [115, 97, 109, 101, 100, 97, 121]), .lit (.string [111, 116, 104, 101, 114, 100, 97, 121]), .lit (.string [115, 97, 109, 101, 114, 111, 111, 109]), .lit (.string [115, 97, 109, 101, 115, 116, 97, 114, 116]), .lit (.string [98, 101, 102, 111, 114, 101]), .lit (.string [109, 111, 115, 116]), .lit (.string [103, 97, 112]), .lit (.string [115, 112, 97, 110]), .lit (.string [97, 118, 111, 105, 100]), .lit (.string [114, 111, 111, 109, 115]), .lit (.string [116, 114, 97, 118, 101, 108])]
def laid_timetable_timetableref14_leaves {H : Type} : DataW H := .agg [.lit (.string [99, 108, 97, 115, 115]), .lit (.string [99, 111, 117, 114, 115, 101]), .lit (.string [112, 97, 114, 116]), .lit (.string [99, 117, 114, 114, 105, 99, 117, 108, 117, 109]), .lit (.string [115, 116, 97, 102, 102]), .lit (.string [102, 101, 97, 116, 117, 114, 101])]
def laid_unicode_utf8_acceptRanges {H : Type} : DataW H := .agg [.agg [.lit (.int .u8 128), .lit (.int .u8 191)], .agg [.lit (.int .u8 160), .lit (.int .u8 191)], .agg [.lit (.int .u8 128), .lit (.int .u8 159)], .agg [.lit (.int .u8 144), .lit (.int .u8 191)], .agg [.lit (.int .u8 128), .lit (.int .u8 143)], .agg [.lit (.int .u8 0), .lit (.int .u8 0)], .agg [.lit (.int .u8 0), .lit (.int .u8 0)], .agg [.lit (.int .u8 0), .lit (.int .u8 0)], .agg [.lit (.int .u8 0), .lit (.int .u8 0)], .agg [.lit (.int .u8 0), .lit (.int .u8 0)], .agg [.lit (.int .u8 0), .lit (.int .u8 0)], .agg [.lit (.int .u8 0), .lit (.int .u8 0)], .agg [.lit (.int .u8 0), .lit (.int .u8 0)], .agg [.lit (.int .u8 0), .lit (.int .u8 0)], .agg [.lit (.int .u8 0), .lit (.int .u8 0)], .agg [.lit (.int .u8 0), .lit (.int .u8 0)]]
def laid_strconv_ErrRange {H : Type} : DataW H := .iface "*errors.errorString" (.ptr (.agg [.lit (.string [118, 97, 108, 117, 101, 32, 111, 117, 116, 32, 111, 102, 32, 114, 97, 110, 103, 101])]))
def laid_strconv_ErrSyntax {H : Type} : DataW H := .iface "*errors.errorString" (.ptr (.agg [.lit (.string [105, 110, 118, 97, 108, 105, 100, 32, 115, 121, 110, 116, 97, 120])]))
/-- One of Go's own tables, pinned by name: the form's constant. -/
def laid_unicode_utf8_first : DataW Unit := Go.Pinned.utf8First

/-- 'timetablelaw14.RulesyntaxParses': WHATEVER THE INPUT: true; the input reads as it did. -/
def rulesyntaxParsesSpec : ChangeSpec := { name := "rulesyntaxParses", fn := fun _ => fun
  | [d1, d2, d3] => { results := [.lit (.bool true)], args := [d1, d2, d3] }
  | _ => none }
def rulesyntaxParsesRow : OpenClaim := { program := "ytdnnahdafhddlaagreatdoor", sum := "194fdfd0f49daaad9d93193e7947967ed6b2d73845c60520989ccfc096cf48ea", func := "timetable/timetablelaw14.RulesyntaxParses", spec := "rulesyntaxParses", inPlace := ["internal/bytealg.CountString", "internal/bytealg.IndexByteString", "internal/bytealg.IndexString", "internal/abi.NoEscape", "internal/bytealg.MakeNoZero"], unfollowed := true, recurses := true, named := ["unicode/utf8.first", "unicode/utf8.acceptRanges", "internal/bytealg.MaxLen", "strconv.ErrSyntax", "strconv.ErrRange", "internal/strconv.uint64pow10", "math/bits.deBruijn32tab", "math/bits.deBruijn64tab", "timetable/timetableref14.names", "timetable/timetableref14.leaves", "timetable/timetableref06.days", "timetable/timetableref05.words"], apart := false, laid := [("math/bits.deBruijn32tab", laid_math_bits_deBruijn32tab), ("math/bits.deBruijn64tab", laid_math_bits_deBruijn64tab), ("internal/strconv.uint64pow10", laid_internal_strconv_uint64pow10), ("timetable/timetableref05.words", laid_timetable_timetableref05_words), ("timetable/timetableref06.days", laid_timetable_timetableref06_days), ("timetable/timetableref14.names", laid_timetable_timetableref14_names), ("timetable/timetableref14.leaves", laid_timetable_timetableref14_leaves), ("unicode/utf8.acceptRanges", laid_unicode_utf8_acceptRanges), ("strconv.ErrRange", laid_strconv_ErrRange), ("strconv.ErrSyntax", laid_strconv_ErrSyntax), ("unicode/utf8.first", laid_unicode_utf8_first)] }
def RulesyntaxParsesSaid : Prop := rulesyntaxParsesRow.holds Tryz.pinned (OpenSpec.ofChange rulesyntaxParsesSpec)

/-- ITS FALSE NEIGHBOUR: 'it returns false'. Refute it at one input. -/
def rulesyntaxParsesWrong : ChangeSpec := { name := "rulesyntaxParses", fn := fun _ => fun
  | [d1, d2, d3] => { results := [.lit (.bool false)], args := [d1, d2, d3] }
  | _ => none }
def RulesyntaxParsesWrongFalsely : Prop := rulesyntaxParsesRow.holds Tryz.pinned (OpenSpec.ofChange rulesyntaxParsesWrong)

/-- 'timetablelaw14.RulesyntaxWords': WHATEVER THE INPUT: true; the input reads as it did. -/
def rulesyntaxWordsSpec : ChangeSpec := { name := "rulesyntaxWords", fn := fun _ => fun
  | [d] => { results := [.lit (.bool true)], args := [d] }
  | _ => none }
def rulesyntaxWordsRow : OpenClaim := { program := "ytdnnahdafhddlaagreatdoor", sum := "194fdfd0f49daaad9d93193e7947967ed6b2d73845c60520989ccfc096cf48ea", func := "timetable/timetablelaw14.RulesyntaxWords", spec := "rulesyntaxWords", inPlace := ["internal/bytealg.CountString", "internal/bytealg.IndexByteString", "internal/bytealg.IndexString", "internal/abi.NoEscape", "internal/bytealg.MakeNoZero"], unfollowed := true, recurses := true, named := ["unicode/utf8.first", "unicode/utf8.acceptRanges", "internal/bytealg.MaxLen", "strconv.ErrSyntax", "strconv.ErrRange", "internal/strconv.uint64pow10", "math/bits.deBruijn32tab", "math/bits.deBruijn64tab", "timetable/timetableref14.names", "timetable/timetableref14.leaves", "timetable/timetableref06.days", "timetable/timetableref05.words"], apart := false, laid := [("math/bits.deBruijn32tab", laid_math_bits_deBruijn32tab), ("math/bits.deBruijn64tab", laid_math_bits_deBruijn64tab), ("internal/strconv.uint64pow10", laid_internal_strconv_uint64pow10), ("timetable/timetableref05.words", laid_timetable_timetableref05_words), ("timetable/timetableref06.days", laid_timetable_timetableref06_days), ("timetable/timetableref14.names", laid_timetable_timetableref14_names), ("timetable/timetableref14.leaves", laid_timetable_timetableref14_leaves), ("unicode/utf8.acceptRanges", laid_unicode_utf8_acceptRanges), ("strconv.ErrRange", laid_strconv_ErrRange), ("strconv.ErrSyntax", laid_strconv_ErrSyntax), ("unicode/utf8.first", laid_unicode_utf8_first)] }
def RulesyntaxWordsSaid : Prop := rulesyntaxWordsRow.holds Tryz.pinned (OpenSpec.ofChange rulesyntaxWordsSpec)

/-- ITS FALSE NEIGHBOUR: 'it returns false'. Refute it at one input. -/
def rulesyntaxWordsWrong : ChangeSpec := { name := "rulesyntaxWords", fn := fun _ => fun
  | [d] => { results := [.lit (.bool false)], args := [d] }
  | _ => none }
def RulesyntaxWordsWrongFalsely : Prop := rulesyntaxWordsRow.holds Tryz.pinned (OpenSpec.ofChange rulesyntaxWordsWrong)

/-- 'timetablelaw14.RulesyntaxExact': WHATEVER THE INPUT: true; the input reads as it did. -/
def rulesyntaxExactSpec : ChangeSpec := { name := "rulesyntaxExact", fn := fun _ => fun
  | [d1, d2, d3] => { results := [.lit (.bool true)], args := [d1, d2, d3] }
  | _ => none }
def rulesyntaxExactRow : OpenClaim := { program := "ytdnnahdafhddlaagreatdoor", sum := "194fdfd0f49daaad9d93193e7947967ed6b2d73845c60520989ccfc096cf48ea", func := "timetable/timetablelaw14.RulesyntaxExact", spec := "rulesyntaxExact", inPlace := ["internal/bytealg.CountString", "internal/bytealg.IndexByteString", "internal/bytealg.IndexString", "internal/abi.NoEscape", "internal/bytealg.MakeNoZero"], unfollowed := true, recurses := true, named := ["unicode/utf8.first", "unicode/utf8.acceptRanges", "internal/bytealg.MaxLen", "strconv.ErrSyntax", "strconv.ErrRange", "internal/strconv.uint64pow10", "math/bits.deBruijn32tab", "math/bits.deBruijn64tab", "timetable/timetableref14.leaves", "timetable/timetableref14.names", "timetable/timetableref06.days", "timetable/timetableref05.words"], loops := true, apart := false, laid := [("math/bits.deBruijn32tab", laid_math_bits_deBruijn32tab), ("math/bits.deBruijn64tab", laid_math_bits_deBruijn64tab), ("internal/strconv.uint64pow10", laid_internal_strconv_uint64pow10), ("timetable/timetableref05.words", laid_timetable_timetableref05_words), ("timetable/timetableref06.days", laid_timetable_timetableref06_days), ("timetable/timetableref14.names", laid_timetable_timetableref14_names), ("timetable/timetableref14.leaves", laid_timetable_timetableref14_leaves), ("unicode/utf8.acceptRanges", laid_unicode_utf8_acceptRanges), ("strconv.ErrRange", laid_strconv_ErrRange), ("strconv.ErrSyntax", laid_strconv_ErrSyntax), ("unicode/utf8.first", laid_unicode_utf8_first)] }
def RulesyntaxExactSaid : Prop := rulesyntaxExactRow.holds Tryz.pinned (OpenSpec.ofChange rulesyntaxExactSpec)

/-- ITS FALSE NEIGHBOUR: 'it returns false'. Refute it at one input. -/
def rulesyntaxExactWrong : ChangeSpec := { name := "rulesyntaxExact", fn := fun _ => fun
  | [d1, d2, d3] => { results := [.lit (.bool false)], args := [d1, d2, d3] }
  | _ => none }
def RulesyntaxExactWrongFalsely : Prop := rulesyntaxExactRow.holds Tryz.pinned (OpenSpec.ofChange rulesyntaxExactWrong)

/- THE SECOND FORM. 'bulk': how many values and letters a reading holds, each counted each time it is reached (what is shared counts as often as it is met; a slice's spare places count too). A statement '..UptoSaid' is the law's where the arguments, and the package variables that the reading takes, are together of bulk at most 1048576: NARROWER than '..Said'. Prove '..Said' where nothing that the law and all that it calls make is longer than what came in: it says more and counts as full. Else prove '..UptoSaid'. A law counts once. -/
mutual
def uptoBulk {H : Type} : DataW H → Nat
  | .lit (.string bytes) => bytes.length + 1
  | .lit _ => 1
  | .nil => 1
  | .ptr d => uptoBulk d + 1
  | .slice elems spare => uptoBulkAll elems + uptoBulkAll spare + 1
  | .agg parts => uptoBulkAll parts + 1
  | .iface _ d => uptoBulk d + 1
  | .map entries => uptoBulkEntries entries + 1
  | .held _ => 1
def uptoBulkAll {H : Type} : List (DataW H) → Nat
  | [] => 0
  | d :: r => uptoBulk d + uptoBulkAll r
def uptoBulkEntries {H : Type} : List (Lit × DataW H) → Nat
  | [] => 0
  | x :: r => uptoBulkEntry x + uptoBulkEntries r
def uptoBulkEntry {H : Type} : Lit × DataW H → Nat
  | (.string bytes, d) => bytes.length + uptoBulk d + 1
  | (_, d) => uptoBulk d + 1
 end
def uptoSmall : (H : Type) → List (DataW H) → Bool := fun _ ds => decide (uptoBulkAll ds ≤ 1048576)
def OpenSpec.upto (s : _root_.Go.ChangeSpec) : _root_.Go.OpenSpec := { _root_.Go.OpenSpec.ofChange s with cond := some uptoSmall }

/-- 'timetablelaw14.RulesyntaxParses', WHERE WHAT IT READS IS OF BULK AT MOST 1048576: true; the input reads as it did. -/
def rulesyntaxParsesUptoRow : OpenClaim := { program := "ytdnnahdafhddlaagreatdoor", sum := "194fdfd0f49daaad9d93193e7947967ed6b2d73845c60520989ccfc096cf48ea", func := "timetable/timetablelaw14.RulesyntaxParses", spec := "rulesyntaxParses", inPlace := ["internal/bytealg.CountString", "internal/bytealg.IndexByteString", "internal/bytealg.IndexString", "internal/abi.NoEscape", "internal/bytealg.MakeNoZero"], unfollowed := true, recurses := true, named := ["unicode/utf8.first", "unicode/utf8.acceptRanges", "internal/bytealg.MaxLen", "strconv.ErrSyntax", "strconv.ErrRange", "internal/strconv.uint64pow10", "math/bits.deBruijn32tab", "math/bits.deBruijn64tab", "timetable/timetableref14.names", "timetable/timetableref14.leaves", "timetable/timetableref06.days", "timetable/timetableref05.words"], apart := false, laid := [("math/bits.deBruijn32tab", laid_math_bits_deBruijn32tab), ("math/bits.deBruijn64tab", laid_math_bits_deBruijn64tab), ("internal/strconv.uint64pow10", laid_internal_strconv_uint64pow10), ("timetable/timetableref05.words", laid_timetable_timetableref05_words), ("timetable/timetableref06.days", laid_timetable_timetableref06_days), ("timetable/timetableref14.names", laid_timetable_timetableref14_names), ("timetable/timetableref14.leaves", laid_timetable_timetableref14_leaves), ("unicode/utf8.acceptRanges", laid_unicode_utf8_acceptRanges), ("strconv.ErrRange", laid_strconv_ErrRange), ("strconv.ErrSyntax", laid_strconv_ErrSyntax), ("unicode/utf8.first", laid_unicode_utf8_first)], narrowed := true }
def RulesyntaxParsesUptoSaid : Prop := rulesyntaxParsesUptoRow.holds Tryz.pinned (OpenSpec.upto rulesyntaxParsesSpec)

/-- 'timetablelaw14.RulesyntaxWords', WHERE WHAT IT READS IS OF BULK AT MOST 1048576: true; the input reads as it did. -/
def rulesyntaxWordsUptoRow : OpenClaim := { program := "ytdnnahdafhddlaagreatdoor", sum := "194fdfd0f49daaad9d93193e7947967ed6b2d73845c60520989ccfc096cf48ea", func := "timetable/timetablelaw14.RulesyntaxWords", spec := "rulesyntaxWords", inPlace := ["internal/bytealg.CountString", "internal/bytealg.IndexByteString", "internal/bytealg.IndexString", "internal/abi.NoEscape", "internal/bytealg.MakeNoZero"], unfollowed := true, recurses := true, named := ["unicode/utf8.first", "unicode/utf8.acceptRanges", "internal/bytealg.MaxLen", "strconv.ErrSyntax", "strconv.ErrRange", "internal/strconv.uint64pow10", "math/bits.deBruijn32tab", "math/bits.deBruijn64tab", "timetable/timetableref14.names", "timetable/timetableref14.leaves", "timetable/timetableref06.days", "timetable/timetableref05.words"], apart := false, laid := [("math/bits.deBruijn32tab", laid_math_bits_deBruijn32tab), ("math/bits.deBruijn64tab", laid_math_bits_deBruijn64tab), ("internal/strconv.uint64pow10", laid_internal_strconv_uint64pow10), ("timetable/timetableref05.words", laid_timetable_timetableref05_words), ("timetable/timetableref06.days", laid_timetable_timetableref06_days), ("timetable/timetableref14.names", laid_timetable_timetableref14_names), ("timetable/timetableref14.leaves", laid_timetable_timetableref14_leaves), ("unicode/utf8.acceptRanges", laid_unicode_utf8_acceptRanges), ("strconv.ErrRange", laid_strconv_ErrRange), ("strconv.ErrSyntax", laid_strconv_ErrSyntax), ("unicode/utf8.first", laid_unicode_utf8_first)], narrowed := true }
def RulesyntaxWordsUptoSaid : Prop := rulesyntaxWordsUptoRow.holds Tryz.pinned (OpenSpec.upto rulesyntaxWordsSpec)

/-- 'timetablelaw14.RulesyntaxExact', WHERE WHAT IT READS IS OF BULK AT MOST 1048576: true; the input reads as it did. -/
def rulesyntaxExactUptoRow : OpenClaim := { program := "ytdnnahdafhddlaagreatdoor", sum := "194fdfd0f49daaad9d93193e7947967ed6b2d73845c60520989ccfc096cf48ea", func := "timetable/timetablelaw14.RulesyntaxExact", spec := "rulesyntaxExact", inPlace := ["internal/bytealg.CountString", "internal/bytealg.IndexByteString", "internal/bytealg.IndexString", "internal/abi.NoEscape", "internal/bytealg.MakeNoZero"], unfollowed := true, recurses := true, named := ["unicode/utf8.first", "unicode/utf8.acceptRanges", "internal/bytealg.MaxLen", "strconv.ErrSyntax", "strconv.ErrRange", "internal/strconv.uint64pow10", "math/bits.deBruijn32tab", "math/bits.deBruijn64tab", "timetable/timetableref14.leaves", "timetable/timetableref14.names", "timetable/timetableref06.days", "timetable/timetableref05.words"], loops := true, apart := false, laid := [("math/bits.deBruijn32tab", laid_math_bits_deBruijn32tab), ("math/bits.deBruijn64tab", laid_math_bits_deBruijn64tab), ("internal/strconv.uint64pow10", laid_internal_strconv_uint64pow10), ("timetable/timetableref05.words", laid_timetable_timetableref05_words), ("timetable/timetableref06.days", laid_timetable_timetableref06_days), ("timetable/timetableref14.names", laid_timetable_timetableref14_names), ("timetable/timetableref14.leaves", laid_timetable_timetableref14_leaves), ("unicode/utf8.acceptRanges", laid_unicode_utf8_acceptRanges), ("strconv.ErrRange", laid_strconv_ErrRange), ("strconv.ErrSyntax", laid_strconv_ErrSyntax), ("unicode/utf8.first", laid_unicode_utf8_first)], narrowed := true }
def RulesyntaxExactUptoSaid : Prop := rulesyntaxExactUptoRow.holds Tryz.pinned (OpenSpec.upto rulesyntaxExactSpec)

end Rows
end Go.Proofs.YtdnnahdafhddlaaGreatDoor
