/-
  NARROWER THAN 'FOR EVERY INPUT', by the rows' own cells (each row's printed sentence says how): UtfQuotes: laid · UtfOrders: laid · UtfBack: laid · UtfKept: laid · UtfRunes: laid · UtfParts: laid · UtfCuts: laid · UtfKnown: laid · ValueLimits: laid · ValueGood: loops, laid · ValueOrders: loops, laid · ValueChain: loops, laid · ValueKnown: laid · ValueDocs: loops, laid.
  DERIVED. THE GIVEN ROWS OF THIS SEAT. 14 by the template 'for every input the law returns true; each argument reads behind the call as it read before'; 0 by the template 'total and deterministic' (their statements: YtdjegpmjhfbamaaDoorTotals.lean).
  GIVEN WITH THE SEED: the statements are not yours to turn. If you find one false, say at which input.
  Laid BY PROGRAM, IN A SANDBOX (cutbox-rows.mjs): the forced cells as the released guide's own fill.sh prints them over the translation 0878c52fe95d43e9… (all of the seat's roots in one cut). By AI agents, Wed Nov 11 2026. No macro, syntax, notation, axiom, sorry.
-/
import Derived.Test.YtdjegpmjhfbamaaDoorChecked
import GoSem.PinnedTables
import GoSem.Claim
import GoSem.ClaimJoined
import GoSem.ClaimMapViews
import Derived.JoinedTies
import Derived.KernelRfl
namespace Go.Proofs.YtdjegpmjhfbamaaDoor
/- THE CELL 'sum', in the pinned program and in every row, IS THE sha256 OF THE DUMP (.gsa) THAT YtdjegpmjhfbamaaDoorProg.lean LOADS. Nothing in Lean hashes anything: it is a label: what it is worth is what the hold of that sum in a sandbox is worth. -/
noncomputable def Tryd.pinned : Pinned := { name := "ytdjegpmjhfbamaadoor", sum := "0878c52fe95d43e9bf240c9871974186b8ff01a147977e957a4dd643e69d2771", checked := Tryd.checked }
namespace Rows
def none {H : Type} : Left H := { results := [], args := [] }

/- WHAT THE LISTED PACKAGE-LEVEL VARIABLES READ AS WHEN THE CALL BEGINS. Each datum BY PROGRAM (the guide's laid-datum.mjs) off the statement by which the dump's own 'gosem.cut.vars' lays the variable. In a bare row this is a premise. The card (YtdjegpmjhfbamaaDoorCards.lean) ties it to the program's text. -/
def laid_unicode_utf8_acceptRanges {H : Type} : DataW H := .agg [.agg [.lit (.int .u8 128), .lit (.int .u8 191)], .agg [.lit (.int .u8 160), .lit (.int .u8 191)], .agg [.lit (.int .u8 128), .lit (.int .u8 159)], .agg [.lit (.int .u8 144), .lit (.int .u8 191)], .agg [.lit (.int .u8 128), .lit (.int .u8 143)], .agg [.lit (.int .u8 0), .lit (.int .u8 0)], .agg [.lit (.int .u8 0), .lit (.int .u8 0)], .agg [.lit (.int .u8 0), .lit (.int .u8 0)], .agg [.lit (.int .u8 0), .lit (.int .u8 0)], .agg [.lit (.int .u8 0), .lit (.int .u8 0)], .agg [.lit (.int .u8 0), .lit (.int .u8 0)], .agg [.lit (.int .u8 0), .lit (.int .u8 0)], .agg [.lit (.int .u8 0), .lit (.int .u8 0)], .agg [.lit (.int .u8 0), .lit (.int .u8 0)], .agg [.lit (.int .u8 0), .lit (.int .u8 0)], .agg [.lit (.int .u8 0), .lit (.int .u8 0)]]
/-- One of Go's own tables, pinned by name: the form's constant. -/
def laid_unicode_utf8_first : DataW Unit := Go.Pinned.utf8First

/-- 'tidemarklaw1.UtfQuotes': WHATEVER THE INPUT: true; the input reads as it did. -/
def utfQuotesSpec : ChangeSpec := { name := "utfQuotes", fn := fun _ => fun
  | [d1, d2] => { results := [.lit (.bool true)], args := [d1, d2] }
  | _ => none }
def utfQuotesRow : OpenClaim := { program := "ytdjegpmjhfbamaadoor", sum := "0878c52fe95d43e9bf240c9871974186b8ff01a147977e957a4dd643e69d2771", func := "tidemark/tidemarklaw1.UtfQuotes", spec := "utfQuotes", inPlace := ["internal/abi.NoEscape", "internal/bytealg.IndexByteString"], named := ["unicode/utf8.first", "unicode/utf8.acceptRanges"], apart := false, laid := [("unicode/utf8.acceptRanges", laid_unicode_utf8_acceptRanges), ("unicode/utf8.first", laid_unicode_utf8_first)] }
def UtfQuotesSaid : Prop := utfQuotesRow.holds Tryd.pinned (OpenSpec.ofChange utfQuotesSpec)

/-- ITS FALSE NEIGHBOUR: 'it returns false'. Refute it at one input. -/
def utfQuotesWrong : ChangeSpec := { name := "utfQuotes", fn := fun _ => fun
  | [d1, d2] => { results := [.lit (.bool false)], args := [d1, d2] }
  | _ => none }
def UtfQuotesWrongFalsely : Prop := utfQuotesRow.holds Tryd.pinned (OpenSpec.ofChange utfQuotesWrong)

/-- 'tidemarklaw1.UtfOrders': WHATEVER THE INPUT: true; the input reads as it did. -/
def utfOrdersSpec : ChangeSpec := { name := "utfOrders", fn := fun _ => fun
  | [d1, d2, d3] => { results := [.lit (.bool true)], args := [d1, d2, d3] }
  | _ => none }
def utfOrdersRow : OpenClaim := { program := "ytdjegpmjhfbamaadoor", sum := "0878c52fe95d43e9bf240c9871974186b8ff01a147977e957a4dd643e69d2771", func := "tidemark/tidemarklaw1.UtfOrders", spec := "utfOrders", inPlace := ["internal/abi.NoEscape", "internal/bytealg.IndexByteString", "internal/bytealg.abigen_runtime_cmpstring"], named := ["unicode/utf8.first", "unicode/utf8.acceptRanges"], apart := false, laid := [("unicode/utf8.acceptRanges", laid_unicode_utf8_acceptRanges), ("unicode/utf8.first", laid_unicode_utf8_first)] }
def UtfOrdersSaid : Prop := utfOrdersRow.holds Tryd.pinned (OpenSpec.ofChange utfOrdersSpec)

/-- ITS FALSE NEIGHBOUR: 'it returns false'. Refute it at one input. -/
def utfOrdersWrong : ChangeSpec := { name := "utfOrders", fn := fun _ => fun
  | [d1, d2, d3] => { results := [.lit (.bool false)], args := [d1, d2, d3] }
  | _ => none }
def UtfOrdersWrongFalsely : Prop := utfOrdersRow.holds Tryd.pinned (OpenSpec.ofChange utfOrdersWrong)

/-- 'tidemarklaw1.UtfBack': WHATEVER THE INPUT: true; the input reads as it did. -/
def utfBackSpec : ChangeSpec := { name := "utfBack", fn := fun _ => fun
  | [d1, d2] => { results := [.lit (.bool true)], args := [d1, d2] }
  | _ => none }
def utfBackRow : OpenClaim := { program := "ytdjegpmjhfbamaadoor", sum := "0878c52fe95d43e9bf240c9871974186b8ff01a147977e957a4dd643e69d2771", func := "tidemark/tidemarklaw1.UtfBack", spec := "utfBack", inPlace := ["internal/abi.NoEscape", "internal/bytealg.IndexByteString"], named := ["unicode/utf8.first", "unicode/utf8.acceptRanges"], apart := false, laid := [("unicode/utf8.acceptRanges", laid_unicode_utf8_acceptRanges), ("unicode/utf8.first", laid_unicode_utf8_first)] }
def UtfBackSaid : Prop := utfBackRow.holds Tryd.pinned (OpenSpec.ofChange utfBackSpec)

/-- ITS FALSE NEIGHBOUR: 'it returns false'. Refute it at one input. -/
def utfBackWrong : ChangeSpec := { name := "utfBack", fn := fun _ => fun
  | [d1, d2] => { results := [.lit (.bool false)], args := [d1, d2] }
  | _ => none }
def UtfBackWrongFalsely : Prop := utfBackRow.holds Tryd.pinned (OpenSpec.ofChange utfBackWrong)

/-- 'tidemarklaw1.UtfKept': WHATEVER THE INPUT: true; the input reads as it did. -/
def utfKeptSpec : ChangeSpec := { name := "utfKept", fn := fun _ => fun
  | [d1, d2] => { results := [.lit (.bool true)], args := [d1, d2] }
  | _ => none }
def utfKeptRow : OpenClaim := { program := "ytdjegpmjhfbamaadoor", sum := "0878c52fe95d43e9bf240c9871974186b8ff01a147977e957a4dd643e69d2771", func := "tidemark/tidemarklaw1.UtfKept", spec := "utfKept", inPlace := ["internal/abi.NoEscape", "internal/bytealg.IndexByteString"], named := ["unicode/utf8.first", "unicode/utf8.acceptRanges"], apart := false, laid := [("unicode/utf8.acceptRanges", laid_unicode_utf8_acceptRanges), ("unicode/utf8.first", laid_unicode_utf8_first)] }
def UtfKeptSaid : Prop := utfKeptRow.holds Tryd.pinned (OpenSpec.ofChange utfKeptSpec)

/-- ITS FALSE NEIGHBOUR: 'it returns false'. Refute it at one input. -/
def utfKeptWrong : ChangeSpec := { name := "utfKept", fn := fun _ => fun
  | [d1, d2] => { results := [.lit (.bool false)], args := [d1, d2] }
  | _ => none }
def UtfKeptWrongFalsely : Prop := utfKeptRow.holds Tryd.pinned (OpenSpec.ofChange utfKeptWrong)

/-- 'tidemarklaw1.UtfRunes': WHATEVER THE INPUT: true; the input reads as it did. -/
def utfRunesSpec : ChangeSpec := { name := "utfRunes", fn := fun _ => fun
  | [d1, d2] => { results := [.lit (.bool true)], args := [d1, d2] }
  | _ => none }
def utfRunesRow : OpenClaim := { program := "ytdjegpmjhfbamaadoor", sum := "0878c52fe95d43e9bf240c9871974186b8ff01a147977e957a4dd643e69d2771", func := "tidemark/tidemarklaw1.UtfRunes", spec := "utfRunes", inPlace := ["internal/abi.NoEscape", "internal/bytealg.IndexByteString"], named := ["unicode/utf8.first", "unicode/utf8.acceptRanges"], apart := false, laid := [("unicode/utf8.acceptRanges", laid_unicode_utf8_acceptRanges), ("unicode/utf8.first", laid_unicode_utf8_first)] }
def UtfRunesSaid : Prop := utfRunesRow.holds Tryd.pinned (OpenSpec.ofChange utfRunesSpec)

/-- ITS FALSE NEIGHBOUR: 'it returns false'. Refute it at one input. -/
def utfRunesWrong : ChangeSpec := { name := "utfRunes", fn := fun _ => fun
  | [d1, d2] => { results := [.lit (.bool false)], args := [d1, d2] }
  | _ => none }
def UtfRunesWrongFalsely : Prop := utfRunesRow.holds Tryd.pinned (OpenSpec.ofChange utfRunesWrong)

/-- 'tidemarklaw1.UtfParts': WHATEVER THE INPUT: true; the input reads as it did. -/
def utfPartsSpec : ChangeSpec := { name := "utfParts", fn := fun _ => fun
  | [d1, d2] => { results := [.lit (.bool true)], args := [d1, d2] }
  | _ => none }
def utfPartsRow : OpenClaim := { program := "ytdjegpmjhfbamaadoor", sum := "0878c52fe95d43e9bf240c9871974186b8ff01a147977e957a4dd643e69d2771", func := "tidemark/tidemarklaw1.UtfParts", spec := "utfParts", inPlace := ["internal/abi.NoEscape", "internal/bytealg.IndexByteString"], named := ["unicode/utf8.first", "unicode/utf8.acceptRanges"], apart := false, laid := [("unicode/utf8.acceptRanges", laid_unicode_utf8_acceptRanges), ("unicode/utf8.first", laid_unicode_utf8_first)] }
def UtfPartsSaid : Prop := utfPartsRow.holds Tryd.pinned (OpenSpec.ofChange utfPartsSpec)

/-- ITS FALSE NEIGHBOUR: 'it returns false'. Refute it at one input. -/
def utfPartsWrong : ChangeSpec := { name := "utfParts", fn := fun _ => fun
  | [d1, d2] => { results := [.lit (.bool false)], args := [d1, d2] }
  | _ => none }
def UtfPartsWrongFalsely : Prop := utfPartsRow.holds Tryd.pinned (OpenSpec.ofChange utfPartsWrong)

/-- 'tidemarklaw1.UtfCuts': WHATEVER THE INPUT: true; the input reads as it did. -/
def utfCutsSpec : ChangeSpec := { name := "utfCuts", fn := fun _ => fun
  | [d1, d2, d3, d4] => { results := [.lit (.bool true)], args := [d1, d2, d3, d4] }
  | _ => none }
def utfCutsRow : OpenClaim := { program := "ytdjegpmjhfbamaadoor", sum := "0878c52fe95d43e9bf240c9871974186b8ff01a147977e957a4dd643e69d2771", func := "tidemark/tidemarklaw1.UtfCuts", spec := "utfCuts", inPlace := ["internal/bytealg.abigen_runtime_cmpstring", "internal/abi.NoEscape", "internal/bytealg.IndexByteString"], named := ["unicode/utf8.first", "unicode/utf8.acceptRanges"], apart := false, laid := [("unicode/utf8.acceptRanges", laid_unicode_utf8_acceptRanges), ("unicode/utf8.first", laid_unicode_utf8_first)] }
def UtfCutsSaid : Prop := utfCutsRow.holds Tryd.pinned (OpenSpec.ofChange utfCutsSpec)

/-- ITS FALSE NEIGHBOUR: 'it returns false'. Refute it at one input. -/
def utfCutsWrong : ChangeSpec := { name := "utfCuts", fn := fun _ => fun
  | [d1, d2, d3, d4] => { results := [.lit (.bool false)], args := [d1, d2, d3, d4] }
  | _ => none }
def UtfCutsWrongFalsely : Prop := utfCutsRow.holds Tryd.pinned (OpenSpec.ofChange utfCutsWrong)

/-- 'tidemarklaw1.UtfKnown': WHATEVER THE INPUT: true; the input reads as it did. -/
def utfKnownSpec : ChangeSpec := { name := "utfKnown", fn := fun _ => fun
  | [] => { results := [.lit (.bool true)], args := [] }
  | _ => none }
def utfKnownRow : OpenClaim := { program := "ytdjegpmjhfbamaadoor", sum := "0878c52fe95d43e9bf240c9871974186b8ff01a147977e957a4dd643e69d2771", func := "tidemark/tidemarklaw1.UtfKnown", spec := "utfKnown", inPlace := ["internal/abi.NoEscape", "internal/bytealg.IndexByteString", "internal/bytealg.abigen_runtime_cmpstring"], named := ["unicode/utf8.first", "unicode/utf8.acceptRanges"], apart := false, laid := [("unicode/utf8.acceptRanges", laid_unicode_utf8_acceptRanges), ("unicode/utf8.first", laid_unicode_utf8_first)] }
def UtfKnownSaid : Prop := utfKnownRow.holds Tryd.pinned (OpenSpec.ofChange utfKnownSpec)

/-- ITS FALSE NEIGHBOUR: 'it returns false'. Refute it at one input. -/
def utfKnownWrong : ChangeSpec := { name := "utfKnown", fn := fun _ => fun
  | [] => { results := [.lit (.bool false)], args := [] }
  | _ => none }
def UtfKnownWrongFalsely : Prop := utfKnownRow.holds Tryd.pinned (OpenSpec.ofChange utfKnownWrong)

/-- 'tidemarklaw2.ValueLimits': WHATEVER THE INPUT: true; the input reads as it did. -/
def valueLimitsSpec : ChangeSpec := { name := "valueLimits", fn := fun _ => fun
  | [d1, d2] => { results := [.lit (.bool true)], args := [d1, d2] }
  | _ => none }
def valueLimitsRow : OpenClaim := { program := "ytdjegpmjhfbamaadoor", sum := "0878c52fe95d43e9bf240c9871974186b8ff01a147977e957a4dd643e69d2771", func := "tidemark/tidemarklaw2.ValueLimits", spec := "valueLimits", inPlace := ["internal/bytealg.abigen_runtime_cmpstring"], unfollowed := true, recurses := true, named := ["unicode/utf8.first", "unicode/utf8.acceptRanges"], apart := false, laid := [("unicode/utf8.acceptRanges", laid_unicode_utf8_acceptRanges), ("unicode/utf8.first", laid_unicode_utf8_first)] }
def ValueLimitsSaid : Prop := valueLimitsRow.holds Tryd.pinned (OpenSpec.ofChange valueLimitsSpec)

/-- ITS FALSE NEIGHBOUR: 'it returns false'. Refute it at one input. -/
def valueLimitsWrong : ChangeSpec := { name := "valueLimits", fn := fun _ => fun
  | [d1, d2] => { results := [.lit (.bool false)], args := [d1, d2] }
  | _ => none }
def ValueLimitsWrongFalsely : Prop := valueLimitsRow.holds Tryd.pinned (OpenSpec.ofChange valueLimitsWrong)

/-- 'tidemarklaw2.ValueGood': WHATEVER THE INPUT: true; the input reads as it did. -/
def valueGoodSpec : ChangeSpec := { name := "valueGood", fn := fun _ => fun
  | [d] => { results := [.lit (.bool true)], args := [d] }
  | _ => none }
def valueGoodRow : OpenClaim := { program := "ytdjegpmjhfbamaadoor", sum := "0878c52fe95d43e9bf240c9871974186b8ff01a147977e957a4dd643e69d2771", func := "tidemark/tidemarklaw2.ValueGood", spec := "valueGood", inPlace := ["internal/bytealg.abigen_runtime_cmpstring"], unfollowed := true, recurses := true, named := ["unicode/utf8.first", "unicode/utf8.acceptRanges"], loops := true, apart := false, laid := [("unicode/utf8.acceptRanges", laid_unicode_utf8_acceptRanges), ("unicode/utf8.first", laid_unicode_utf8_first)] }
def ValueGoodSaid : Prop := valueGoodRow.holds Tryd.pinned (OpenSpec.ofChange valueGoodSpec)

/-- ITS FALSE NEIGHBOUR: 'it returns false'. Refute it at one input. -/
def valueGoodWrong : ChangeSpec := { name := "valueGood", fn := fun _ => fun
  | [d] => { results := [.lit (.bool false)], args := [d] }
  | _ => none }
def ValueGoodWrongFalsely : Prop := valueGoodRow.holds Tryd.pinned (OpenSpec.ofChange valueGoodWrong)

/-- 'tidemarklaw2.ValueOrders': WHATEVER THE INPUT: true; the input reads as it did. -/
def valueOrdersSpec : ChangeSpec := { name := "valueOrders", fn := fun _ => fun
  | [d1, d2] => { results := [.lit (.bool true)], args := [d1, d2] }
  | _ => none }
def valueOrdersRow : OpenClaim := { program := "ytdjegpmjhfbamaadoor", sum := "0878c52fe95d43e9bf240c9871974186b8ff01a147977e957a4dd643e69d2771", func := "tidemark/tidemarklaw2.ValueOrders", spec := "valueOrders", inPlace := ["internal/bytealg.abigen_runtime_cmpstring"], unfollowed := true, recurses := true, named := ["unicode/utf8.first", "unicode/utf8.acceptRanges"], loops := true, apart := false, laid := [("unicode/utf8.acceptRanges", laid_unicode_utf8_acceptRanges), ("unicode/utf8.first", laid_unicode_utf8_first)] }
def ValueOrdersSaid : Prop := valueOrdersRow.holds Tryd.pinned (OpenSpec.ofChange valueOrdersSpec)

/-- ITS FALSE NEIGHBOUR: 'it returns false'. Refute it at one input. -/
def valueOrdersWrong : ChangeSpec := { name := "valueOrders", fn := fun _ => fun
  | [d1, d2] => { results := [.lit (.bool false)], args := [d1, d2] }
  | _ => none }
def ValueOrdersWrongFalsely : Prop := valueOrdersRow.holds Tryd.pinned (OpenSpec.ofChange valueOrdersWrong)

/-- 'tidemarklaw2.ValueChain': WHATEVER THE INPUT: true; the input reads as it did. -/
def valueChainSpec : ChangeSpec := { name := "valueChain", fn := fun _ => fun
  | [d1, d2, d3] => { results := [.lit (.bool true)], args := [d1, d2, d3] }
  | _ => none }
def valueChainRow : OpenClaim := { program := "ytdjegpmjhfbamaadoor", sum := "0878c52fe95d43e9bf240c9871974186b8ff01a147977e957a4dd643e69d2771", func := "tidemark/tidemarklaw2.ValueChain", spec := "valueChain", inPlace := ["internal/bytealg.abigen_runtime_cmpstring"], unfollowed := true, recurses := true, named := ["unicode/utf8.first", "unicode/utf8.acceptRanges"], loops := true, apart := false, laid := [("unicode/utf8.acceptRanges", laid_unicode_utf8_acceptRanges), ("unicode/utf8.first", laid_unicode_utf8_first)] }
def ValueChainSaid : Prop := valueChainRow.holds Tryd.pinned (OpenSpec.ofChange valueChainSpec)

/-- ITS FALSE NEIGHBOUR: 'it returns false'. Refute it at one input. -/
def valueChainWrong : ChangeSpec := { name := "valueChain", fn := fun _ => fun
  | [d1, d2, d3] => { results := [.lit (.bool false)], args := [d1, d2, d3] }
  | _ => none }
def ValueChainWrongFalsely : Prop := valueChainRow.holds Tryd.pinned (OpenSpec.ofChange valueChainWrong)

/-- 'tidemarklaw2.ValueKnown': WHATEVER THE INPUT: true; the input reads as it did. -/
def valueKnownSpec : ChangeSpec := { name := "valueKnown", fn := fun _ => fun
  | [] => { results := [.lit (.bool true)], args := [] }
  | _ => none }
def valueKnownRow : OpenClaim := { program := "ytdjegpmjhfbamaadoor", sum := "0878c52fe95d43e9bf240c9871974186b8ff01a147977e957a4dd643e69d2771", func := "tidemark/tidemarklaw2.ValueKnown", spec := "valueKnown", inPlace := ["internal/bytealg.abigen_runtime_cmpstring"], unfollowed := true, recurses := true, named := ["unicode/utf8.first", "unicode/utf8.acceptRanges"], apart := false, laid := [("unicode/utf8.acceptRanges", laid_unicode_utf8_acceptRanges), ("unicode/utf8.first", laid_unicode_utf8_first)] }
def ValueKnownSaid : Prop := valueKnownRow.holds Tryd.pinned (OpenSpec.ofChange valueKnownSpec)

/-- ITS FALSE NEIGHBOUR: 'it returns false'. Refute it at one input. -/
def valueKnownWrong : ChangeSpec := { name := "valueKnown", fn := fun _ => fun
  | [] => { results := [.lit (.bool false)], args := [] }
  | _ => none }
def ValueKnownWrongFalsely : Prop := valueKnownRow.holds Tryd.pinned (OpenSpec.ofChange valueKnownWrong)

/-- 'tidemarklaw2.ValueDocs': WHATEVER THE INPUT: true; the input reads as it did. -/
def valueDocsSpec : ChangeSpec := { name := "valueDocs", fn := fun _ => fun
  | [d1, d2] => { results := [.lit (.bool true)], args := [d1, d2] }
  | _ => none }
def valueDocsRow : OpenClaim := { program := "ytdjegpmjhfbamaadoor", sum := "0878c52fe95d43e9bf240c9871974186b8ff01a147977e957a4dd643e69d2771", func := "tidemark/tidemarklaw2.ValueDocs", spec := "valueDocs", inPlace := ["internal/bytealg.abigen_runtime_cmpstring"], unfollowed := true, recurses := true, named := ["unicode/utf8.first", "unicode/utf8.acceptRanges"], loops := true, apart := false, laid := [("unicode/utf8.acceptRanges", laid_unicode_utf8_acceptRanges), ("unicode/utf8.first", laid_unicode_utf8_first)] }
def ValueDocsSaid : Prop := valueDocsRow.holds Tryd.pinned (OpenSpec.ofChange valueDocsSpec)

/-- ITS FALSE NEIGHBOUR: 'it returns false'. Refute it at one input. -/
def valueDocsWrong : ChangeSpec := { name := "valueDocs", fn := fun _ => fun
  | [d1, d2] => { results := [.lit (.bool false)], args := [d1, d2] }
  | _ => none }
def ValueDocsWrongFalsely : Prop := valueDocsRow.holds Tryd.pinned (OpenSpec.ofChange valueDocsWrong)

/- THE SECOND FORM. 'bulk': how many values and letters a reading holds, each counted each time it is reached (what is shared counts as often as it is met; a slice's spare places count too). A statement '..UptoSaid' is the law's where the arguments, and the package variables that the reading takes, are together of bulk at most 1048576: NARROWER than '..Said'. Prove '..Said' where nothing that the law and all that it calls make is longer than what came in: it says more and counts as full. Else prove '..UptoSaid'. A law counts once. -/
mutual
def uptoBulk {H : Type} : DataW H → Nat
  | .lit (.string bytes) => bytes.length + 1
  | .lit _ => 1
  | .nil => 1
  | .ptr d => uptoBulk d + 1
  | .slice elems spare => uptoBulkAll elems + uptoBulkAll spare + 1
  | .agg parts => uptoBulkAll parts + 1
  | .iface _ d => uptoBulk d + 1
  | .map entries => uptoBulkEntries entries + 1
  | .held _ => 1
def uptoBulkAll {H : Type} : List (DataW H) → Nat
  | [] => 0
  | d :: r => uptoBulk d + uptoBulkAll r
def uptoBulkEntries {H : Type} : List (Lit × DataW H) → Nat
  | [] => 0
  | x :: r => uptoBulkEntry x + uptoBulkEntries r
def uptoBulkEntry {H : Type} : Lit × DataW H → Nat
  | (.string bytes, d) => bytes.length + uptoBulk d + 1
  | (_, d) => uptoBulk d + 1
 end
def uptoSmall : (H : Type) → List (DataW H) → Bool := fun _ ds => decide (uptoBulkAll ds ≤ 1048576)
def OpenSpec.upto (s : _root_.Go.ChangeSpec) : _root_.Go.OpenSpec := { _root_.Go.OpenSpec.ofChange s with cond := some uptoSmall }

/-- 'tidemarklaw1.UtfQuotes', WHERE WHAT IT READS IS OF BULK AT MOST 1048576: true; the input reads as it did. -/
def utfQuotesUptoRow : OpenClaim := { program := "ytdjegpmjhfbamaadoor", sum := "0878c52fe95d43e9bf240c9871974186b8ff01a147977e957a4dd643e69d2771", func := "tidemark/tidemarklaw1.UtfQuotes", spec := "utfQuotes", inPlace := ["internal/abi.NoEscape", "internal/bytealg.IndexByteString"], named := ["unicode/utf8.first", "unicode/utf8.acceptRanges"], apart := false, laid := [("unicode/utf8.acceptRanges", laid_unicode_utf8_acceptRanges), ("unicode/utf8.first", laid_unicode_utf8_first)], narrowed := true }
def UtfQuotesUptoSaid : Prop := utfQuotesUptoRow.holds Tryd.pinned (OpenSpec.upto utfQuotesSpec)

/-- 'tidemarklaw1.UtfOrders', WHERE WHAT IT READS IS OF BULK AT MOST 1048576: true; the input reads as it did. -/
def utfOrdersUptoRow : OpenClaim := { program := "ytdjegpmjhfbamaadoor", sum := "0878c52fe95d43e9bf240c9871974186b8ff01a147977e957a4dd643e69d2771", func := "tidemark/tidemarklaw1.UtfOrders", spec := "utfOrders", inPlace := ["internal/abi.NoEscape", "internal/bytealg.IndexByteString", "internal/bytealg.abigen_runtime_cmpstring"], named := ["unicode/utf8.first", "unicode/utf8.acceptRanges"], apart := false, laid := [("unicode/utf8.acceptRanges", laid_unicode_utf8_acceptRanges), ("unicode/utf8.first", laid_unicode_utf8_first)], narrowed := true }
def UtfOrdersUptoSaid : Prop := utfOrdersUptoRow.holds Tryd.pinned (OpenSpec.upto utfOrdersSpec)

/-- 'tidemarklaw1.UtfBack', WHERE WHAT IT READS IS OF BULK AT MOST 1048576: true; the input reads as it did. -/
def utfBackUptoRow : OpenClaim := { program := "ytdjegpmjhfbamaadoor", sum := "0878c52fe95d43e9bf240c9871974186b8ff01a147977e957a4dd643e69d2771", func := "tidemark/tidemarklaw1.UtfBack", spec := "utfBack", inPlace := ["internal/abi.NoEscape", "internal/bytealg.IndexByteString"], named := ["unicode/utf8.first", "unicode/utf8.acceptRanges"], apart := false, laid := [("unicode/utf8.acceptRanges", laid_unicode_utf8_acceptRanges), ("unicode/utf8.first", laid_unicode_utf8_first)], narrowed := true }
def UtfBackUptoSaid : Prop := utfBackUptoRow.holds Tryd.pinned (OpenSpec.upto utfBackSpec)

/-- 'tidemarklaw1.UtfKept', WHERE WHAT IT READS IS OF BULK AT MOST 1048576: true; the input reads as it did. -/
def utfKeptUptoRow : OpenClaim := { program := "ytdjegpmjhfbamaadoor", sum := "0878c52fe95d43e9bf240c9871974186b8ff01a147977e957a4dd643e69d2771", func := "tidemark/tidemarklaw1.UtfKept", spec := "utfKept", inPlace := ["internal/abi.NoEscape", "internal/bytealg.IndexByteString"], named := ["unicode/utf8.first", "unicode/utf8.acceptRanges"], apart := false, laid := [("unicode/utf8.acceptRanges", laid_unicode_utf8_acceptRanges), ("unicode/utf8.first", laid_unicode_utf8_first)], narrowed := true }
def UtfKeptUptoSaid : Prop := utfKeptUptoRow.holds Tryd.pinned (OpenSpec.upto utfKeptSpec)

/-- 'tidemarklaw1.UtfRunes', WHERE WHAT IT READS IS OF BULK AT MOST 1048576: true; the input reads as it did. -/
def utfRunesUptoRow : OpenClaim := { program := "ytdjegpmjhfbamaadoor", sum := "0878c52fe95d43e9bf240c9871974186b8ff01a147977e957a4dd643e69d2771", func := "tidemark/tidemarklaw1.UtfRunes", spec := "utfRunes", inPlace := ["internal/abi.NoEscape", "internal/bytealg.IndexByteString"], named := ["unicode/utf8.first", "unicode/utf8.acceptRanges"], apart := false, laid := [("unicode/utf8.acceptRanges", laid_unicode_utf8_acceptRanges), ("unicode/utf8.first", laid_unicode_utf8_first)], narrowed := true }
def UtfRunesUptoSaid : Prop := utfRunesUptoRow.holds Tryd.pinned (OpenSpec.upto utfRunesSpec)

/-- 'tidemarklaw1.UtfParts', WHERE WHAT IT READS IS OF BULK AT MOST 1048576: true; the input reads as it did. -/
def utfPartsUptoRow : OpenClaim := { program := "ytdjegpmjhfbamaadoor", sum := "0878c52fe95d43e9bf240c9871974186b8ff01a147977e957a4dd643e69d2771", func := "tidemark/tidemarklaw1.UtfParts", spec := "utfParts", inPlace := ["internal/abi.NoEscape", "internal/bytealg.IndexByteString"], named := ["unicode/utf8.first", "unicode/utf8.acceptRanges"], apart := false, laid := [("unicode/utf8.acceptRanges", laid_unicode_utf8_acceptRanges), ("unicode/utf8.first", laid_unicode_utf8_first)], narrowed := true }
def UtfPartsUptoSaid : Prop := utfPartsUptoRow.holds Tryd.pinned (OpenSpec.upto utfPartsSpec)

/-- 'tidemarklaw1.UtfCuts', WHERE WHAT IT READS IS OF BULK AT MOST 1048576: true; the input reads as it did. -/
def utfCutsUptoRow : OpenClaim := { program := "ytdjegpmjhfbamaadoor", sum := "0878c52fe95d43e9bf240c9871974186b8ff01a147977e957a4dd643e69d2771", func := "tidemark/tidemarklaw1.UtfCuts", spec := "utfCuts", inPlace := ["internal/bytealg.abigen_runtime_cmpstring", "internal/abi.NoEscape", "internal/bytealg.IndexByteString"], named := ["unicode/utf8.first", "unicode/utf8.acceptRanges"], apart := false, laid := [("unicode/utf8.acceptRanges", laid_unicode_utf8_acceptRanges), ("unicode/utf8.first", laid_unicode_utf8_first)], narrowed := true }
def UtfCutsUptoSaid : Prop := utfCutsUptoRow.holds Tryd.pinned (OpenSpec.upto utfCutsSpec)

/-- 'tidemarklaw1.UtfKnown', WHERE WHAT IT READS IS OF BULK AT MOST 1048576: true; the input reads as it did. -/
def utfKnownUptoRow : OpenClaim := { program := "ytdjegpmjhfbamaadoor", sum := "0878c52fe95d43e9bf240c9871974186b8ff01a147977e957a4dd643e69d2771", func := "tidemark/tidemarklaw1.UtfKnown", spec := "utfKnown", inPlace := ["internal/abi.NoEscape", "internal/bytealg.IndexByteString", "internal/bytealg.abigen_runtime_cmpstring"], named := ["unicode/utf8.first", "unicode/utf8.acceptRanges"], apart := false, laid := [("unicode/utf8.acceptRanges", laid_unicode_utf8_acceptRanges), ("unicode/utf8.first", laid_unicode_utf8_first)], narrowed := true }
def UtfKnownUptoSaid : Prop := utfKnownUptoRow.holds Tryd.pinned (OpenSpec.upto utfKnownSpec)

/-- 'tidemarklaw2.ValueLimits', WHERE WHAT IT READS IS OF BULK AT MOST 1048576: true; the input reads as it did. -/
def valueLimitsUptoRow : OpenClaim := { program := "ytdjegpmjhfbamaadoor", sum := "0878c52fe95d43e9bf240c9871974186b8ff01a147977e957a4dd643e69d2771", func := "tidemark/tidemarklaw2.ValueLimits", spec := "valueLimits", inPlace := ["internal/bytealg.abigen_runtime_cmpstring"], unfollowed := true, recurses := true, named := ["unicode/utf8.first", "unicode/utf8.acceptRanges"], apart := false, laid := [("unicode/utf8.acceptRanges", laid_unicode_utf8_acceptRanges), ("unicode/utf8.first", laid_unicode_utf8_first)], narrowed := true }
def ValueLimitsUptoSaid : Prop := valueLimitsUptoRow.holds Tryd.pinned (OpenSpec.upto valueLimitsSpec)

/-- 'tidemarklaw2.ValueGood', WHERE WHAT IT READS IS OF BULK AT MOST 1048576: true; the input reads as it did. -/
def valueGoodUptoRow : OpenClaim := { program := "ytdjegpmjhfbamaadoor", sum := "0878c52fe95d43e9bf240c9871974186b8ff01a147977e957a4dd643e69d2771", func := "tidemark/tidemarklaw2.ValueGood", spec := "valueGood", inPlace := ["internal/bytealg.abigen_runtime_cmpstring"], unfollowed := true, recurses := true, named := ["unicode/utf8.first", "unicode/utf8.acceptRanges"], loops := true, apart := false, laid := [("unicode/utf8.acceptRanges", laid_unicode_utf8_acceptRanges), ("unicode/utf8.first", laid_unicode_utf8_first)], narrowed := true }
def ValueGoodUptoSaid : Prop := valueGoodUptoRow.holds Tryd.pinned (OpenSpec.upto valueGoodSpec)

/-- 'tidemarklaw2.ValueOrders', WHERE WHAT IT READS IS OF BULK AT MOST 1048576: true; the input reads as it did. -/
def valueOrdersUptoRow : OpenClaim := { program := "ytdjegpmjhfbamaadoor", sum := "0878c52fe95d43e9bf240c9871974186b8ff01a147977e957a4dd643e69d2771", func := "tidemark/tidemarklaw2.ValueOrders", spec := "valueOrders", inPlace := ["internal/bytealg.abigen_runtime_cmpstring"], unfollowed := true, recurses := true, named := ["unicode/utf8.first", "unicode/utf8.acceptRanges"], loops := true, apart := false, laid := [("unicode/utf8.acceptRanges", laid_unicode_utf8_acceptRanges), ("unicode/utf8.first", laid_unicode_utf8_first)], narrowed := true }
def ValueOrdersUptoSaid : Prop := valueOrdersUptoRow.holds Tryd.pinned (OpenSpec.upto valueOrdersSpec)

/-- 'tidemarklaw2.ValueChain', WHERE WHAT IT READS IS OF BULK AT MOST 1048576: true; the input reads as it did. -/
def valueChainUptoRow : OpenClaim := { program := "ytdjegpmjhfbamaadoor", sum := "0878c52fe95d43e9bf240c9871974186b8ff01a147977e957a4dd643e69d2771", func := "tidemark/tidemarklaw2.ValueChain", spec := "valueChain", inPlace := ["internal/bytealg.abigen_runtime_cmpstring"], unfollowed := true, recurses := true, named := ["unicode/utf8.first", "unicode/utf8.acceptRanges"], loops := true, apart := false, laid := [("unicode/utf8.acceptRanges", laid_unicode_utf8_acceptRanges), ("unicode/utf8.first", laid_unicode_utf8_first)], narrowed := true }
def ValueChainUptoSaid : Prop := valueChainUptoRow.holds Tryd.pinned (OpenSpec.upto valueChainSpec)

/-- 'tidemarklaw2.ValueKnown', WHERE WHAT IT READS IS OF BULK AT MOST 1048576: true; the input reads as it did. -/
def valueKnownUptoRow : OpenClaim := { program := "ytdjegpmjhfbamaadoor", sum := "0878c52fe95d43e9bf240c9871974186b8ff01a147977e957a4dd643e69d2771", func := "tidemark/tidemarklaw2.ValueKnown", spec := "valueKnown", inPlace := ["internal/bytealg.abigen_runtime_cmpstring"], unfollowed := true, recurses := true, named := ["unicode/utf8.first", "unicode/utf8.acceptRanges"], apart := false, laid := [("unicode/utf8.acceptRanges", laid_unicode_utf8_acceptRanges), ("unicode/utf8.first", laid_unicode_utf8_first)], narrowed := true }
def ValueKnownUptoSaid : Prop := valueKnownUptoRow.holds Tryd.pinned (OpenSpec.upto valueKnownSpec)

/-- 'tidemarklaw2.ValueDocs', WHERE WHAT IT READS IS OF BULK AT MOST 1048576: true; the input reads as it did. -/
def valueDocsUptoRow : OpenClaim := { program := "ytdjegpmjhfbamaadoor", sum := "0878c52fe95d43e9bf240c9871974186b8ff01a147977e957a4dd643e69d2771", func := "tidemark/tidemarklaw2.ValueDocs", spec := "valueDocs", inPlace := ["internal/bytealg.abigen_runtime_cmpstring"], unfollowed := true, recurses := true, named := ["unicode/utf8.first", "unicode/utf8.acceptRanges"], loops := true, apart := false, laid := [("unicode/utf8.acceptRanges", laid_unicode_utf8_acceptRanges), ("unicode/utf8.first", laid_unicode_utf8_first)], narrowed := true }
def ValueDocsUptoSaid : Prop := valueDocsUptoRow.holds Tryd.pinned (OpenSpec.upto valueDocsSpec)

end Rows
end Go.Proofs.YtdjegpmjhfbamaaDoor
