/-
  NARROWER THAN 'FOR EVERY INPUT', by the rows' own cells (each row's printed sentence says how): TextPrintsChanges: laid · TextFeeds: laid · TextParses: laid · TextChanges: laid · TextCuts: laid · TextBlanks: laid · TextFault: laid · TextBack: laid · TextGreat: laid · TextPrints: laid.
  DERIVED. THE GIVEN ROWS OF THIS SEAT. 10 by the template 'for every input the law returns true; each argument reads behind the call as it read before'; 0 by the template 'total and deterministic' (their statements: YtgoobadkbndfgaaDoorTotals.lean).
  GIVEN WITH THE SEED: the statements are not yours to turn. If you find one false, say at which input.
  Laid BY PROGRAM, IN A SANDBOX (cutbox-rows.mjs): the forced cells as the released guide's own fill.sh prints them over the translation 155b0c41ed55b62f… (all of the seat's roots in one cut). By AI agents, Wed Nov 11 2026. No macro, syntax, notation, axiom, sorry.
-/
import Derived.Test.YtgoobadkbndfgaaDoorChecked
import GoSem.PinnedTables
import GoSem.Claim
import GoSem.ClaimJoined
import GoSem.ClaimMapViews
import Derived.JoinedTies
import Derived.KernelRfl
namespace Go.Proofs.YtgoobadkbndfgaaDoor
/- THE CELL 'sum', in the pinned program and in every row, IS THE sha256 OF THE DUMP (.gsa) THAT YtgoobadkbndfgaaDoorProg.lean LOADS. Nothing in Lean hashes anything: it is a label: what it is worth is what the hold of that sum in a sandbox is worth. -/
noncomputable def Tryd.pinned : Pinned := { name := "ytgoobadkbndfgaadoor", sum := "155b0c41ed55b62f6a9f95b1a719397ca965313ca25d37f4a6922c6a923bcdc5", checked := Tryd.checked }
namespace Rows
def none {H : Type} : Left H := { results := [], args := [] }

/- WHAT THE LISTED PACKAGE-LEVEL VARIABLES READ AS WHEN THE CALL BEGINS. Each datum BY PROGRAM (the guide's laid-datum.mjs) off the statement by which the dump's own 'gosem.cut.vars' lays the variable. In a bare row this is a premise. The card (YtgoobadkbndfgaaDoorCards.lean) ties it to the program's text. -/
def laid_math_bits_deBruijn32tab {H : Type} : DataW H := .agg [.lit (.int .u8 0), .lit (.int .u8 1), .lit (.int .u8 28), .lit (.int .u8 2), .lit (.int .u8 29), .lit (.int .u8 14), .lit (.int .u8 24), .lit (.int .u8 3), .lit (.int .u8 30), .lit (.int .u8 22), .lit (.int .u8 20), .lit (.int .u8 15), .lit (.int .u8 25), .lit (.int .u8 17), .lit (.int .u8 4), .lit (.int .u8 8), .lit (.int .u8 31), .lit (.int .u8 27), .lit (.int .u8 13), .lit (.int .u8 23), .lit (.int .u8 21), .lit (.int .u8 19), .lit (.int .u8 16), .lit (.int .u8 7), .lit (.int .u8 26), .lit (.int .u8 12), .lit (.int .u8 18), .lit (.int .u8 6), .lit (.int .u8 11), .lit (.int .u8 5), .lit (.int .u8 10), .lit (.int .u8 9)]
def laid_math_bits_deBruijn64tab {H : Type} : DataW H := .agg [.lit (.int .u8 0), .lit (.int .u8 1), .lit (.int .u8 56), .lit (.int .u8 2), .lit (.int .u8 57), .lit (.int .u8 49), .lit (.int .u8 28), .lit (.int .u8 3), .lit (.int .u8 61), .lit (.int .u8 58), .lit (.int .u8 42), .lit (.int .u8 50), .lit (.int .u8 38), .lit (.int .u8 29), .lit (.int .u8 17), .lit (.int .u8 4), .lit (.int .u8 62), .lit (.int .u8 47), .lit (.int .u8 59), .lit (.int .u8 36), .lit (.int .u8 45), .lit (.int .u8 43), .lit (.int .u8 51), .lit (.int .u8 22), .lit (.int .u8 53), .lit (.int .u8 39), .lit (.int .u8 33), .lit (.int .u8 30), .lit (.int .u8 24), .lit (.int .u8 18), .lit (.int .u8 12), .lit (.int .u8 5), .lit (.int .u8 63), .lit (.int .u8 55), .lit (.int .u8 48), .lit (.int .u8 27), .lit (.int .u8 60), .lit (.int .u8 41), .lit (.int .u8 37), .lit (.int .u8 16), .lit (.int .u8 46), .lit (.int .u8 35), .lit (.int .u8 44), .lit (.int .u8 21), .lit (.int .u8 52), .lit (.int .u8 32), .lit (.int .u8 23), .lit (.int .u8 11), .lit (.int .u8 54), .lit (.int .u8 26), .lit (.int .u8 40), .lit (.int .u8 15), .lit (.int .u8 34), .lit (.int .u8 20), .lit (.int .u8 31), .lit (.int .u8 10), .lit (.int .u8 25), .lit (.int .u8 14), .lit (.int .u8 19), .lit (.int .u8 9), .lit (.int .u8 13), .lit (.int .u8 8), .lit (.int .u8 7), .lit (.int .u8 6)]
def laid_internal_strconv_uint64pow10 {H : Type} : DataW H := .agg [.lit (.int .u64 1), .lit (.int .u64 10), .lit (.int .u64 100), .lit (.int .u64 1000), .lit (.int .u64 10000), .lit (.int .u64 100000), .lit (.int .u64 1000000), .lit (.int .u64 10000000), .lit (.int .u64 100000000), .lit (.int .u64 1000000000), .lit (.int .u64 10000000000), .lit (.int .u64 100000000000), .lit (.int .u64 1000000000000), .lit (.int .u64 10000000000000), .lit (.int .u64 100000000000000), .lit (.int .u64 1000000000000000), .lit (.int .u64 10000000000000000), .lit (.int .u64 100000000000000000), .lit (.int .u64 1000000000000000000), .lit (.int .u64 10000000000000000000)]
def laid_unicode_utf8_acceptRanges {H : Type} : DataW H := .agg [.agg [.lit (.int .u8 128), .lit (.int .u8 191)], .agg [.lit (.int .u8 160), .lit (.int .u8 191)], .agg [.lit (.int .u8 128), .lit (.int .u8 159)], .agg [.lit (.int .u8 144), .lit (.int .u8 191)], .agg [.lit (.int .u8 128), .lit (.int .u8 143)], .agg [.lit (.int .u8 0), .lit (.int .u8 0)], .agg [.lit (.int .u8 0), .lit (.int .u8 0)], .agg [.lit (.int .u8 0), .lit (.int .u8 0)], .agg [.lit (.int .u8 0), .lit (.int .u8 0)], .agg [.lit (.int .u8 0), .lit (.int .u8 0)], .agg [.lit (.int .u8 0), .lit (.int .u8 0)], .agg [.lit (.int .u8 0), .lit (.int .u8 0)], .agg [.lit (.int .u8 0), .lit (.int .u8 0)], .agg [.lit (.int .u8 0), .lit (.int .u8 0)], .agg [.lit (.int .u8 0), .lit (.int .u8 0)], .agg [.lit (.int .u8 0), .lit (.int .u8 0)]]
/-- One of Go's own tables, pinned by name: the form's constant. -/
def laid_unicode_utf8_first : DataW Unit := Go.Pinned.utf8First

/-- 'pithlaw4.TextPrintsChanges': WHATEVER THE INPUT: true; the input reads as it did. -/
def textPrintsChangesSpec : ChangeSpec := { name := "textPrintsChanges", fn := fun _ => fun
  | [d] => { results := [.lit (.bool true)], args := [d] }
  | _ => none }
def textPrintsChangesRow : OpenClaim := { program := "ytgoobadkbndfgaadoor", sum := "155b0c41ed55b62f6a9f95b1a719397ca965313ca25d37f4a6922c6a923bcdc5", func := "pith/pithlaw4.TextPrintsChanges", spec := "textPrintsChanges", inPlace := ["internal/bytealg.IndexByte", "internal/bytealg.Index", "internal/bytealg.Count"], named := ["internal/bytealg.MaxLen", "unicode/utf8.first", "unicode/utf8.acceptRanges", "internal/strconv.uint64pow10", "math/bits.deBruijn32tab", "math/bits.deBruijn64tab"], apart := false, laid := [("math/bits.deBruijn32tab", laid_math_bits_deBruijn32tab), ("math/bits.deBruijn64tab", laid_math_bits_deBruijn64tab), ("internal/strconv.uint64pow10", laid_internal_strconv_uint64pow10), ("unicode/utf8.acceptRanges", laid_unicode_utf8_acceptRanges), ("unicode/utf8.first", laid_unicode_utf8_first)] }
def TextPrintsChangesSaid : Prop := textPrintsChangesRow.holds Tryd.pinned (OpenSpec.ofChange textPrintsChangesSpec)

/-- ITS FALSE NEIGHBOUR: 'it returns false'. Refute it at one input. -/
def textPrintsChangesWrong : ChangeSpec := { name := "textPrintsChanges", fn := fun _ => fun
  | [d] => { results := [.lit (.bool false)], args := [d] }
  | _ => none }
def TextPrintsChangesWrongFalsely : Prop := textPrintsChangesRow.holds Tryd.pinned (OpenSpec.ofChange textPrintsChangesWrong)

/-- 'pithlaw4.TextFeeds': WHATEVER THE INPUT: true; the input reads as it did. -/
def textFeedsSpec : ChangeSpec := { name := "textFeeds", fn := fun _ => fun
  | [d1, d2, d3] => { results := [.lit (.bool true)], args := [d1, d2, d3] }
  | _ => none }
def textFeedsRow : OpenClaim := { program := "ytgoobadkbndfgaadoor", sum := "155b0c41ed55b62f6a9f95b1a719397ca965313ca25d37f4a6922c6a923bcdc5", func := "pith/pithlaw4.TextFeeds", spec := "textFeeds", inPlace := ["internal/bytealg.IndexByte", "internal/bytealg.Index", "internal/bytealg.Count"], named := ["internal/bytealg.MaxLen", "unicode/utf8.first", "unicode/utf8.acceptRanges"], apart := false, laid := [("unicode/utf8.acceptRanges", laid_unicode_utf8_acceptRanges), ("unicode/utf8.first", laid_unicode_utf8_first)] }
def TextFeedsSaid : Prop := textFeedsRow.holds Tryd.pinned (OpenSpec.ofChange textFeedsSpec)

/-- ITS FALSE NEIGHBOUR: 'it returns false'. Refute it at one input. -/
def textFeedsWrong : ChangeSpec := { name := "textFeeds", fn := fun _ => fun
  | [d1, d2, d3] => { results := [.lit (.bool false)], args := [d1, d2, d3] }
  | _ => none }
def TextFeedsWrongFalsely : Prop := textFeedsRow.holds Tryd.pinned (OpenSpec.ofChange textFeedsWrong)

/-- 'pithlaw4.TextParses': WHATEVER THE INPUT: true; the input reads as it did. -/
def textParsesSpec : ChangeSpec := { name := "textParses", fn := fun _ => fun
  | [d1, d2, d3] => { results := [.lit (.bool true)], args := [d1, d2, d3] }
  | _ => none }
def textParsesRow : OpenClaim := { program := "ytgoobadkbndfgaadoor", sum := "155b0c41ed55b62f6a9f95b1a719397ca965313ca25d37f4a6922c6a923bcdc5", func := "pith/pithlaw4.TextParses", spec := "textParses", inPlace := ["internal/bytealg.IndexByte", "internal/bytealg.Index", "internal/bytealg.Count"], named := ["internal/bytealg.MaxLen", "unicode/utf8.first", "unicode/utf8.acceptRanges"], apart := false, laid := [("unicode/utf8.acceptRanges", laid_unicode_utf8_acceptRanges), ("unicode/utf8.first", laid_unicode_utf8_first)] }
def TextParsesSaid : Prop := textParsesRow.holds Tryd.pinned (OpenSpec.ofChange textParsesSpec)

/-- ITS FALSE NEIGHBOUR: 'it returns false'. Refute it at one input. -/
def textParsesWrong : ChangeSpec := { name := "textParses", fn := fun _ => fun
  | [d1, d2, d3] => { results := [.lit (.bool false)], args := [d1, d2, d3] }
  | _ => none }
def TextParsesWrongFalsely : Prop := textParsesRow.holds Tryd.pinned (OpenSpec.ofChange textParsesWrong)

/-- 'pithlaw4.TextChanges': WHATEVER THE INPUT: true; the input reads as it did. -/
def textChangesSpec : ChangeSpec := { name := "textChanges", fn := fun _ => fun
  | [d1, d2, d3, d4] => { results := [.lit (.bool true)], args := [d1, d2, d3, d4] }
  | _ => none }
def textChangesRow : OpenClaim := { program := "ytgoobadkbndfgaadoor", sum := "155b0c41ed55b62f6a9f95b1a719397ca965313ca25d37f4a6922c6a923bcdc5", func := "pith/pithlaw4.TextChanges", spec := "textChanges", inPlace := ["internal/bytealg.IndexByte", "internal/bytealg.Index", "internal/bytealg.Count"], named := ["internal/bytealg.MaxLen", "unicode/utf8.first", "unicode/utf8.acceptRanges"], apart := false, laid := [("unicode/utf8.acceptRanges", laid_unicode_utf8_acceptRanges), ("unicode/utf8.first", laid_unicode_utf8_first)] }
def TextChangesSaid : Prop := textChangesRow.holds Tryd.pinned (OpenSpec.ofChange textChangesSpec)

/-- ITS FALSE NEIGHBOUR: 'it returns false'. Refute it at one input. -/
def textChangesWrong : ChangeSpec := { name := "textChanges", fn := fun _ => fun
  | [d1, d2, d3, d4] => { results := [.lit (.bool false)], args := [d1, d2, d3, d4] }
  | _ => none }
def TextChangesWrongFalsely : Prop := textChangesRow.holds Tryd.pinned (OpenSpec.ofChange textChangesWrong)

/-- 'pithlaw4.TextCuts': WHATEVER THE INPUT: true; the input reads as it did. -/
def textCutsSpec : ChangeSpec := { name := "textCuts", fn := fun _ => fun
  | [d1, d2, d3] => { results := [.lit (.bool true)], args := [d1, d2, d3] }
  | _ => none }
def textCutsRow : OpenClaim := { program := "ytgoobadkbndfgaadoor", sum := "155b0c41ed55b62f6a9f95b1a719397ca965313ca25d37f4a6922c6a923bcdc5", func := "pith/pithlaw4.TextCuts", spec := "textCuts", inPlace := ["internal/bytealg.IndexByte", "internal/bytealg.Index", "internal/bytealg.Count"], named := ["internal/bytealg.MaxLen", "unicode/utf8.first", "unicode/utf8.acceptRanges"], apart := false, laid := [("unicode/utf8.acceptRanges", laid_unicode_utf8_acceptRanges), ("unicode/utf8.first", laid_unicode_utf8_first)] }
def TextCutsSaid : Prop := textCutsRow.holds Tryd.pinned (OpenSpec.ofChange textCutsSpec)

/-- ITS FALSE NEIGHBOUR: 'it returns false'. Refute it at one input. -/
def textCutsWrong : ChangeSpec := { name := "textCuts", fn := fun _ => fun
  | [d1, d2, d3] => { results := [.lit (.bool false)], args := [d1, d2, d3] }
  | _ => none }
def TextCutsWrongFalsely : Prop := textCutsRow.holds Tryd.pinned (OpenSpec.ofChange textCutsWrong)

/-- 'pithlaw4.TextBlanks': WHATEVER THE INPUT: true; the input reads as it did. -/
def textBlanksSpec : ChangeSpec := { name := "textBlanks", fn := fun _ => fun
  | [d1, d2, d3] => { results := [.lit (.bool true)], args := [d1, d2, d3] }
  | _ => none }
def textBlanksRow : OpenClaim := { program := "ytgoobadkbndfgaadoor", sum := "155b0c41ed55b62f6a9f95b1a719397ca965313ca25d37f4a6922c6a923bcdc5", func := "pith/pithlaw4.TextBlanks", spec := "textBlanks", inPlace := ["internal/bytealg.IndexByte", "internal/bytealg.Index", "internal/bytealg.Count"], named := ["internal/bytealg.MaxLen", "unicode/utf8.first", "unicode/utf8.acceptRanges"], apart := false, laid := [("unicode/utf8.acceptRanges", laid_unicode_utf8_acceptRanges), ("unicode/utf8.first", laid_unicode_utf8_first)] }
def TextBlanksSaid : Prop := textBlanksRow.holds Tryd.pinned (OpenSpec.ofChange textBlanksSpec)

/-- ITS FALSE NEIGHBOUR: 'it returns false'. Refute it at one input. -/
def textBlanksWrong : ChangeSpec := { name := "textBlanks", fn := fun _ => fun
  | [d1, d2, d3] => { results := [.lit (.bool false)], args := [d1, d2, d3] }
  | _ => none }
def TextBlanksWrongFalsely : Prop := textBlanksRow.holds Tryd.pinned (OpenSpec.ofChange textBlanksWrong)

/-- 'pithlaw4.TextFault': WHATEVER THE INPUT: true; the input reads as it did. -/
def textFaultSpec : ChangeSpec := { name := "textFault", fn := fun _ => fun
  | [d1, d2] => { results := [.lit (.bool true)], args := [d1, d2] }
  | _ => none }
def textFaultRow : OpenClaim := { program := "ytgoobadkbndfgaadoor", sum := "155b0c41ed55b62f6a9f95b1a719397ca965313ca25d37f4a6922c6a923bcdc5", func := "pith/pithlaw4.TextFault", spec := "textFault", inPlace := ["internal/bytealg.IndexByte", "internal/bytealg.Index", "internal/bytealg.Count"], named := ["internal/bytealg.MaxLen", "unicode/utf8.first", "unicode/utf8.acceptRanges"], apart := false, laid := [("unicode/utf8.acceptRanges", laid_unicode_utf8_acceptRanges), ("unicode/utf8.first", laid_unicode_utf8_first)] }
def TextFaultSaid : Prop := textFaultRow.holds Tryd.pinned (OpenSpec.ofChange textFaultSpec)

/-- ITS FALSE NEIGHBOUR: 'it returns false'. Refute it at one input. -/
def textFaultWrong : ChangeSpec := { name := "textFault", fn := fun _ => fun
  | [d1, d2] => { results := [.lit (.bool false)], args := [d1, d2] }
  | _ => none }
def TextFaultWrongFalsely : Prop := textFaultRow.holds Tryd.pinned (OpenSpec.ofChange textFaultWrong)

/-- 'pithlaw4.TextBack': WHATEVER THE INPUT: true; the input reads as it did. -/
def textBackSpec : ChangeSpec := { name := "textBack", fn := fun _ => fun
  | [d1, d2, d3] => { results := [.lit (.bool true)], args := [d1, d2, d3] }
  | _ => none }
def textBackRow : OpenClaim := { program := "ytgoobadkbndfgaadoor", sum := "155b0c41ed55b62f6a9f95b1a719397ca965313ca25d37f4a6922c6a923bcdc5", func := "pith/pithlaw4.TextBack", spec := "textBack", inPlace := ["internal/bytealg.IndexByte", "internal/bytealg.Index", "internal/bytealg.Count"], named := ["internal/bytealg.MaxLen", "unicode/utf8.first", "unicode/utf8.acceptRanges", "internal/strconv.uint64pow10", "math/bits.deBruijn32tab", "math/bits.deBruijn64tab"], apart := false, laid := [("math/bits.deBruijn32tab", laid_math_bits_deBruijn32tab), ("math/bits.deBruijn64tab", laid_math_bits_deBruijn64tab), ("internal/strconv.uint64pow10", laid_internal_strconv_uint64pow10), ("unicode/utf8.acceptRanges", laid_unicode_utf8_acceptRanges), ("unicode/utf8.first", laid_unicode_utf8_first)] }
def TextBackSaid : Prop := textBackRow.holds Tryd.pinned (OpenSpec.ofChange textBackSpec)

/-- ITS FALSE NEIGHBOUR: 'it returns false'. Refute it at one input. -/
def textBackWrong : ChangeSpec := { name := "textBack", fn := fun _ => fun
  | [d1, d2, d3] => { results := [.lit (.bool false)], args := [d1, d2, d3] }
  | _ => none }
def TextBackWrongFalsely : Prop := textBackRow.holds Tryd.pinned (OpenSpec.ofChange textBackWrong)

/-- 'pithlaw4.TextGreat': WHATEVER THE INPUT: true; the input reads as it did. -/
def textGreatSpec : ChangeSpec := { name := "textGreat", fn := fun _ => fun
  | [d1, d2] => { results := [.lit (.bool true)], args := [d1, d2] }
  | _ => none }
def textGreatRow : OpenClaim := { program := "ytgoobadkbndfgaadoor", sum := "155b0c41ed55b62f6a9f95b1a719397ca965313ca25d37f4a6922c6a923bcdc5", func := "pith/pithlaw4.TextGreat", spec := "textGreat", inPlace := ["internal/bytealg.IndexByte", "internal/bytealg.Index", "internal/bytealg.Count"], named := ["internal/bytealg.MaxLen", "unicode/utf8.first", "unicode/utf8.acceptRanges", "internal/strconv.uint64pow10", "math/bits.deBruijn32tab", "math/bits.deBruijn64tab"], apart := false, laid := [("math/bits.deBruijn32tab", laid_math_bits_deBruijn32tab), ("math/bits.deBruijn64tab", laid_math_bits_deBruijn64tab), ("internal/strconv.uint64pow10", laid_internal_strconv_uint64pow10), ("unicode/utf8.acceptRanges", laid_unicode_utf8_acceptRanges), ("unicode/utf8.first", laid_unicode_utf8_first)] }
def TextGreatSaid : Prop := textGreatRow.holds Tryd.pinned (OpenSpec.ofChange textGreatSpec)

/-- ITS FALSE NEIGHBOUR: 'it returns false'. Refute it at one input. -/
def textGreatWrong : ChangeSpec := { name := "textGreat", fn := fun _ => fun
  | [d1, d2] => { results := [.lit (.bool false)], args := [d1, d2] }
  | _ => none }
def TextGreatWrongFalsely : Prop := textGreatRow.holds Tryd.pinned (OpenSpec.ofChange textGreatWrong)

/-- 'pithlaw4.TextPrints': WHATEVER THE INPUT: true; the input reads as it did. -/
def textPrintsSpec : ChangeSpec := { name := "textPrints", fn := fun _ => fun
  | [d1, d2] => { results := [.lit (.bool true)], args := [d1, d2] }
  | _ => none }
def textPrintsRow : OpenClaim := { program := "ytgoobadkbndfgaadoor", sum := "155b0c41ed55b62f6a9f95b1a719397ca965313ca25d37f4a6922c6a923bcdc5", func := "pith/pithlaw4.TextPrints", spec := "textPrints", inPlace := ["internal/bytealg.IndexByte", "internal/bytealg.Index", "internal/bytealg.Count"], named := ["internal/bytealg.MaxLen", "unicode/utf8.first", "unicode/utf8.acceptRanges", "internal/strconv.uint64pow10", "math/bits.deBruijn32tab", "math/bits.deBruijn64tab"], apart := false, laid := [("math/bits.deBruijn32tab", laid_math_bits_deBruijn32tab), ("math/bits.deBruijn64tab", laid_math_bits_deBruijn64tab), ("internal/strconv.uint64pow10", laid_internal_strconv_uint64pow10), ("unicode/utf8.acceptRanges", laid_unicode_utf8_acceptRanges), ("unicode/utf8.first", laid_unicode_utf8_first)] }
def TextPrintsSaid : Prop := textPrintsRow.holds Tryd.pinned (OpenSpec.ofChange textPrintsSpec)

/-- ITS FALSE NEIGHBOUR: 'it returns false'. Refute it at one input. -/
def textPrintsWrong : ChangeSpec := { name := "textPrints", fn := fun _ => fun
  | [d1, d2] => { results := [.lit (.bool false)], args := [d1, d2] }
  | _ => none }
def TextPrintsWrongFalsely : Prop := textPrintsRow.holds Tryd.pinned (OpenSpec.ofChange textPrintsWrong)

/- THE SECOND FORM. 'bulk': how many values and letters a reading holds, each counted each time it is reached (what is shared counts as often as it is met; a slice's spare places count too). A statement '..UptoSaid' is the law's where the arguments, and the package variables that the reading takes, are together of bulk at most 1048576: NARROWER than '..Said'. Prove '..Said' where nothing that the law and all that it calls make is longer than what came in: it says more and counts as full. Else prove '..UptoSaid'. A law counts once. -/
mutual
def uptoBulk {H : Type} : DataW H → Nat
  | .lit (.string bytes) => bytes.length + 1
  | .lit _ => 1
  | .nil => 1
  | .ptr d => uptoBulk d + 1
  | .slice elems spare => uptoBulkAll elems + uptoBulkAll spare + 1
  | .agg parts => uptoBulkAll parts + 1
  | .iface _ d => uptoBulk d + 1
  | .map entries => uptoBulkEntries entries + 1
  | .held _ => 1
def uptoBulkAll {H : Type} : List (DataW H) → Nat
  | [] => 0
  | d :: r => uptoBulk d + uptoBulkAll r
def uptoBulkEntries {H : Type} : List (Lit × DataW H) → Nat
  | [] => 0
  | x :: r => uptoBulkEntry x + uptoBulkEntries r
def uptoBulkEntry {H : Type} : Lit × DataW H → Nat
  | (.string bytes, d) => bytes.length + uptoBulk d + 1
  | (_, d) => uptoBulk d + 1
 end
def uptoSmall : (H : Type) → List (DataW H) → Bool := fun _ ds => decide (uptoBulkAll ds ≤ 1048576)
def OpenSpec.upto (s : _root_.Go.ChangeSpec) : _root_.Go.OpenSpec := { _root_.Go.OpenSpec.ofChange s with cond := some uptoSmall }

/-- 'pithlaw4.TextPrintsChanges', WHERE WHAT IT READS IS OF BULK AT MOST 1048576: true; the input reads as it did. -/
def textPrintsChangesUptoRow : OpenClaim := { program := "ytgoobadkbndfgaadoor", sum := "155b0c41ed55b62f6a9f95b1a719397ca965313ca25d37f4a6922c6a923bcdc5", func := "pith/pithlaw4.TextPrintsChanges", spec := "textPrintsChanges", inPlace := ["internal/bytealg.IndexByte", "internal/bytealg.Index", "internal/bytealg.Count"], named := ["internal/bytealg.MaxLen", "unicode/utf8.first", "unicode/utf8.acceptRanges", "internal/strconv.uint64pow10", "math/bits.deBruijn32tab", "math/bits.deBruijn64tab"], apart := false, laid := [("math/bits.deBruijn32tab", laid_math_bits_deBruijn32tab), ("math/bits.deBruijn64tab", laid_math_bits_deBruijn64tab), ("internal/strconv.uint64pow10", laid_internal_strconv_uint64pow10), ("unicode/utf8.acceptRanges", laid_unicode_utf8_acceptRanges), ("unicode/utf8.first", laid_unicode_utf8_first)], narrowed := true }
def TextPrintsChangesUptoSaid : Prop := textPrintsChangesUptoRow.holds Tryd.pinned (OpenSpec.upto textPrintsChangesSpec)

/-- 'pithlaw4.TextFeeds', WHERE WHAT IT READS IS OF BULK AT MOST 1048576: true; the input reads as it did. -/
def textFeedsUptoRow : OpenClaim := { program := "ytgoobadkbndfgaadoor", sum := "155b0c41ed55b62f6a9f95b1a719397ca965313ca25d37f4a6922c6a923bcdc5", func := "pith/pithlaw4.TextFeeds", spec := "textFeeds", inPlace := ["internal/bytealg.IndexByte", "internal/bytealg.Index", "internal/bytealg.Count"], named := ["internal/bytealg.MaxLen", "unicode/utf8.first", "unicode/utf8.acceptRanges"], apart := false, laid := [("unicode/utf8.acceptRanges", laid_unicode_utf8_acceptRanges), ("unicode/utf8.first", laid_unicode_utf8_first)], narrowed := true }
def TextFeedsUptoSaid : Prop := textFeedsUptoRow.holds Tryd.pinned (OpenSpec.upto textFeedsSpec)

/-- 'pithlaw4.TextParses', WHERE WHAT IT READS IS OF BULK AT MOST 1048576: true; the input reads as it did. -/
def textParsesUptoRow : OpenClaim := { program := "ytgoobadkbndfgaadoor", sum := "155b0c41ed55b62f6a9f95b1a719397ca965313ca25d37f4a6922c6a923bcdc5", func := "pith/pithlaw4.TextParses", spec := "textParses", inPlace := ["internal/bytealg.IndexByte", "internal/bytealg.Index", "internal/bytealg.Count"], named := ["internal/bytealg.MaxLen", "unicode/utf8.first", "unicode/utf8.acceptRanges"], apart := false, laid := [("unicode/utf8.acceptRanges", laid_unicode_utf8_acceptRanges), ("unicode/utf8.first", laid_unicode_utf8_first)], narrowed := true }
def TextParsesUptoSaid : Prop := textParsesUptoRow.holds Tryd.pinned (OpenSpec.upto textParsesSpec)

/-- 'pithlaw4.TextChanges', WHERE WHAT IT READS IS OF BULK AT MOST 1048576: true; the input reads as it did. -/
def textChangesUptoRow : OpenClaim := { program := "ytgoobadkbndfgaadoor", sum := "155b0c41ed55b62f6a9f95b1a719397ca965313ca25d37f4a6922c6a923bcdc5", func := "pith/pithlaw4.TextChanges", spec := "textChanges", inPlace := ["internal/bytealg.IndexByte", "internal/bytealg.Index", "internal/bytealg.Count"], named := ["internal/bytealg.MaxLen", "unicode/utf8.first", "unicode/utf8.acceptRanges"], apart := false, laid := [("unicode/utf8.acceptRanges", laid_unicode_utf8_acceptRanges), ("unicode/utf8.first", laid_unicode_utf8_first)], narrowed := true }
def TextChangesUptoSaid : Prop := textChangesUptoRow.holds Tryd.pinned (OpenSpec.upto textChangesSpec)

/-- 'pithlaw4.TextCuts', WHERE WHAT IT READS IS OF BULK AT MOST 1048576: true; the input reads as it did. -/
def textCutsUptoRow : OpenClaim := { program := "ytgoobadkbndfgaadoor", sum := "155b0c41ed55b62f6a9f95b1a719397ca965313ca25d37f4a6922c6a923bcdc5", func := "pith/pithlaw4.TextCuts", spec := "textCuts", inPlace := ["internal/bytealg.IndexByte", "internal/bytealg.Index", "internal/bytealg.Count"], named := ["internal/bytealg.MaxLen", "unicode/utf8.first", "unicode/utf8.acceptRanges"], apart := false, laid := [("unicode/utf8.acceptRanges", laid_unicode_utf8_acceptRanges), ("unicode/utf8.first", laid_unicode_utf8_first)], narrowed := true }
def TextCutsUptoSaid : Prop := textCutsUptoRow.holds Tryd.pinned (OpenSpec.upto textCutsSpec)

/-- 'pithlaw4.TextBlanks', WHERE WHAT IT READS IS OF BULK AT MOST 1048576: true; the input reads as it did. -/
def textBlanksUptoRow : OpenClaim := { program := "ytgoobadkbndfgaadoor", sum := "155b0c41ed55b62f6a9f95b1a719397ca965313ca25d37f4a6922c6a923bcdc5", func := "pith/pithlaw4.TextBlanks", spec := "textBlanks", inPlace := ["internal/bytealg.IndexByte", "internal/bytealg.Index", "internal/bytealg.Count"], named := ["internal/bytealg.MaxLen", "unicode/utf8.first", "unicode/utf8.acceptRanges"], apart := false, laid := [("unicode/utf8.acceptRanges", laid_unicode_utf8_acceptRanges), ("unicode/utf8.first", laid_unicode_utf8_first)], narrowed := true }
def TextBlanksUptoSaid : Prop := textBlanksUptoRow.holds Tryd.pinned (OpenSpec.upto textBlanksSpec)

/-- 'pithlaw4.TextFault', WHERE WHAT IT READS IS OF BULK AT MOST 1048576: true; the input reads as it did. -/
def textFaultUptoRow : OpenClaim := { program := "ytgoobadkbndfgaadoor", sum := "155b0c41ed55b62f6a9f95b1a719397ca965313ca25d37f4a6922c6a923bcdc5", func := "pith/pithlaw4.TextFault", spec := "textFault", inPlace := ["internal/bytealg.IndexByte", "internal/bytealg.Index", "internal/bytealg.Count"], named := ["internal/bytealg.MaxLen", "unicode/utf8.first", "unicode/utf8.acceptRanges"], apart := false, laid := [("unicode/utf8.acceptRanges", laid_unicode_utf8_acceptRanges), ("unicode/utf8.first", laid_unicode_utf8_first)], narrowed := true }
def TextFaultUptoSaid : Prop := textFaultUptoRow.holds Tryd.pinned (OpenSpec.upto textFaultSpec)

/-- 'pithlaw4.TextBack', WHERE WHAT IT READS IS OF BULK AT MOST 1048576: true; the input reads as it did. -/
def textBackUptoRow : OpenClaim := { program := "ytgoobadkbndfgaadoor", sum := "155b0c41ed55b62f6a9f95b1a719397ca965313ca25d37f4a6922c6a923bcdc5", func := "pith/pithlaw4.TextBack", spec := "textBack", inPlace := ["internal/bytealg.IndexByte", "internal/bytealg.Index", "internal/bytealg.Count"], named := ["internal/bytealg.MaxLen", "unicode/utf8.first", "unicode/utf8.acceptRanges", "internal/strconv.uint64pow10", "math/bits.deBruijn32tab", "math/bits.deBruijn64tab"], apart := false, laid := [("math/bits.deBruijn32tab", laid_math_bits_deBruijn32tab), ("math/bits.deBruijn64tab", laid_math_bits_deBruijn64tab), ("internal/strconv.uint64pow10", laid_internal_strconv_uint64pow10), ("unicode/utf8.acceptRanges", laid_unicode_utf8_acceptRanges), ("unicode/utf8.first", laid_unicode_utf8_first)], narrowed := true }
def TextBackUptoSaid : Prop := textBackUptoRow.holds Tryd.pinned (OpenSpec.upto textBackSpec)

/-- 'pithlaw4.TextGreat', WHERE WHAT IT READS IS OF BULK AT MOST 1048576: true; the input reads as it did. -/
def textGreatUptoRow : OpenClaim := { program := "ytgoobadkbndfgaadoor", sum := "155b0c41ed55b62f6a9f95b1a719397ca965313ca25d37f4a6922c6a923bcdc5", func := "pith/pithlaw4.TextGreat", spec := "textGreat", inPlace := ["internal/bytealg.IndexByte", "internal/bytealg.Index", "internal/bytealg.Count"], named := ["internal/bytealg.MaxLen", "unicode/utf8.first", "unicode/utf8.acceptRanges", "internal/strconv.uint64pow10", "math/bits.deBruijn32tab", "math/bits.deBruijn64tab"], apart := false, laid := [("math/bits.deBruijn32tab", laid_math_bits_deBruijn32tab), ("math/bits.deBruijn64tab", laid_math_bits_deBruijn64tab), ("internal/strconv.uint64pow10", laid_internal_strconv_uint64pow10), ("unicode/utf8.acceptRanges", laid_unicode_utf8_acceptRanges), ("unicode/utf8.first", laid_unicode_utf8_first)], narrowed := true }
def TextGreatUptoSaid : Prop := textGreatUptoRow.holds Tryd.pinned (OpenSpec.upto textGreatSpec)

/-- 'pithlaw4.TextPrints', WHERE WHAT IT READS IS OF BULK AT MOST 1048576: true; the input reads as it did. -/
def textPrintsUptoRow : OpenClaim := { program := "ytgoobadkbndfgaadoor", sum := "155b0c41ed55b62f6a9f95b1a719397ca965313ca25d37f4a6922c6a923bcdc5", func := "pith/pithlaw4.TextPrints", spec := "textPrints", inPlace := ["internal/bytealg.IndexByte", "internal/bytealg.Index", "internal/bytealg.Count"], named := ["internal/bytealg.MaxLen", "unicode/utf8.first", "unicode/utf8.acceptRanges", "internal/strconv.uint64pow10", "math/bits.deBruijn32tab", "math/bits.deBruijn64tab"], apart := false, laid := [("math/bits.deBruijn32tab", laid_math_bits_deBruijn32tab), ("math/bits.deBruijn64tab", laid_math_bits_deBruijn64tab), ("internal/strconv.uint64pow10", laid_internal_strconv_uint64pow10), ("unicode/utf8.acceptRanges", laid_unicode_utf8_acceptRanges), ("unicode/utf8.first", laid_unicode_utf8_first)], narrowed := true }
def TextPrintsUptoSaid : Prop := textPrintsUptoRow.holds Tryd.pinned (OpenSpec.upto textPrintsSpec)

end Rows
end Go.Proofs.YtgoobadkbndfgaaDoor
