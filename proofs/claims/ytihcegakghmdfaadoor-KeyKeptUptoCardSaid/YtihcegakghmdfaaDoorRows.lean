/-
  NARROWER THAN 'FOR EVERY INPUT', by the rows' own cells (each row's printed sentence says how): KeySingle: loops, laid · CodecValues: loops, laid · CodecKept: loops, laid · CodecBack: loops, laid · KeyKnown: laid · KeyMany: loops, laid · KeyBeyond: laid · KeyKept: loops, laid · CodecNests: loops, laid · CodecNumbers: laid · CodecRows: loops, laid · CodecKnown: laid · KeyOrders: loops, laid · KeyLists: loops, laid.
  DERIVED. THE GIVEN ROWS OF THIS SEAT. 14 by the template 'for every input the law returns true; each argument reads behind the call as it read before'; 0 by the template 'total and deterministic' (their statements: YtihcegakghmdfaaDoorTotals.lean).
  GIVEN WITH THE SEED: the statements are not yours to turn. If you find one false, say at which input.
  Laid BY PROGRAM, IN A SANDBOX (cutbox-rows.mjs): the forced cells as the released guide's own fill.sh prints them over the translation daac3a1b3bdcc9f3… (all of the seat's roots in one cut). By AI agents, Wed Nov 11 2026. No macro, syntax, notation, axiom, sorry.
-/
import Derived.Test.YtihcegakghmdfaaDoorChecked
import GoSem.PinnedTables
import GoSem.Claim
import GoSem.ClaimJoined
import GoSem.ClaimMapViews
import Derived.JoinedTies
import Derived.KernelRfl
namespace Go.Proofs.YtihcegakghmdfaaDoor
/- THE CELL 'sum', in the pinned program and in every row, IS THE sha256 OF THE DUMP (.gsa) THAT YtihcegakghmdfaaDoorProg.lean LOADS. Nothing in Lean hashes anything: it is a label: what it is worth is what the hold of that sum in a sandbox is worth. -/
noncomputable def Tryd.pinned : Pinned := { name := "ytihcegakghmdfaadoor", sum := "daac3a1b3bdcc9f31deb39c112ab3a071f619c93d0ef063dd10e624c9d403156", checked := Tryd.checked }
namespace Rows
def none {H : Type} : Left H := { results := [], args := [] }

/- WHAT THE LISTED PACKAGE-LEVEL VARIABLES READ AS WHEN THE CALL BEGINS. Each datum BY PROGRAM (the guide's laid-datum.mjs) off the statement by which the dump's own 'gosem.cut.vars' lays the variable. In a bare row this is a premise. The card (YtihcegakghmdfaaDoorCards.lean) ties it to the program's text. -/
def laid_unicode_utf8_acceptRanges {H : Type} : DataW H := .agg [.agg [.lit (.int .u8 128), .lit (.int .u8 191)], .agg [.lit (.int .u8 160), .lit (.int .u8 191)], .agg [.lit (.int .u8 128), .lit (.int .u8 159)], .agg [.lit (.int .u8 144), .lit (.int .u8 191)], .agg [.lit (.int .u8 128), .lit (.int .u8 143)], .agg [.lit (.int .u8 0), .lit (.int .u8 0)], .agg [.lit (.int .u8 0), .lit (.int .u8 0)], .agg [.lit (.int .u8 0), .lit (.int .u8 0)], .agg [.lit (.int .u8 0), .lit (.int .u8 0)], .agg [.lit (.int .u8 0), .lit (.int .u8 0)], .agg [.lit (.int .u8 0), .lit (.int .u8 0)], .agg [.lit (.int .u8 0), .lit (.int .u8 0)], .agg [.lit (.int .u8 0), .lit (.int .u8 0)], .agg [.lit (.int .u8 0), .lit (.int .u8 0)], .agg [.lit (.int .u8 0), .lit (.int .u8 0)], .agg [.lit (.int .u8 0), .lit (.int .u8 0)]]
/-- One of Go's own tables, pinned by name: the form's constant. -/
def laid_unicode_utf8_first : DataW Unit := Go.Pinned.utf8First

/-- 'tidemarklaw5.KeySingle': WHATEVER THE INPUT: true; the input reads as it did. -/
def keySingleSpec : ChangeSpec := { name := "keySingle", fn := fun _ => fun
  | [d1, d2] => { results := [.lit (.bool true)], args := [d1, d2] }
  | _ => none }
def keySingleRow : OpenClaim := { program := "ytihcegakghmdfaadoor", sum := "daac3a1b3bdcc9f31deb39c112ab3a071f619c93d0ef063dd10e624c9d403156", func := "tidemark/tidemarklaw5.KeySingle", spec := "keySingle", unfollowed := true, recurses := true, named := ["unicode/utf8.first", "unicode/utf8.acceptRanges"], loops := true, apart := false, laid := [("unicode/utf8.acceptRanges", laid_unicode_utf8_acceptRanges), ("unicode/utf8.first", laid_unicode_utf8_first)] }
def KeySingleSaid : Prop := keySingleRow.holds Tryd.pinned (OpenSpec.ofChange keySingleSpec)

/-- ITS FALSE NEIGHBOUR: 'it returns false'. Refute it at one input. -/
def keySingleWrong : ChangeSpec := { name := "keySingle", fn := fun _ => fun
  | [d1, d2] => { results := [.lit (.bool false)], args := [d1, d2] }
  | _ => none }
def KeySingleWrongFalsely : Prop := keySingleRow.holds Tryd.pinned (OpenSpec.ofChange keySingleWrong)

/-- 'tidemarklaw3.CodecValues': WHATEVER THE INPUT: true; the input reads as it did. -/
def codecValuesSpec : ChangeSpec := { name := "codecValues", fn := fun _ => fun
  | [d1, d2, d3] => { results := [.lit (.bool true)], args := [d1, d2, d3] }
  | _ => none }
def codecValuesRow : OpenClaim := { program := "ytihcegakghmdfaadoor", sum := "daac3a1b3bdcc9f31deb39c112ab3a071f619c93d0ef063dd10e624c9d403156", func := "tidemark/tidemarklaw3.CodecValues", spec := "codecValues", unfollowed := true, recurses := true, named := ["unicode/utf8.first", "unicode/utf8.acceptRanges"], loops := true, apart := false, laid := [("unicode/utf8.acceptRanges", laid_unicode_utf8_acceptRanges), ("unicode/utf8.first", laid_unicode_utf8_first)] }
def CodecValuesSaid : Prop := codecValuesRow.holds Tryd.pinned (OpenSpec.ofChange codecValuesSpec)

/-- ITS FALSE NEIGHBOUR: 'it returns false'. Refute it at one input. -/
def codecValuesWrong : ChangeSpec := { name := "codecValues", fn := fun _ => fun
  | [d1, d2, d3] => { results := [.lit (.bool false)], args := [d1, d2, d3] }
  | _ => none }
def CodecValuesWrongFalsely : Prop := codecValuesRow.holds Tryd.pinned (OpenSpec.ofChange codecValuesWrong)

/-- 'tidemarklaw3.CodecKept': WHATEVER THE INPUT: true; the input reads as it did. -/
def codecKeptSpec : ChangeSpec := { name := "codecKept", fn := fun _ => fun
  | [d1, d2] => { results := [.lit (.bool true)], args := [d1, d2] }
  | _ => none }
def codecKeptRow : OpenClaim := { program := "ytihcegakghmdfaadoor", sum := "daac3a1b3bdcc9f31deb39c112ab3a071f619c93d0ef063dd10e624c9d403156", func := "tidemark/tidemarklaw3.CodecKept", spec := "codecKept", unfollowed := true, recurses := true, named := ["unicode/utf8.first", "unicode/utf8.acceptRanges"], loops := true, apart := false, laid := [("unicode/utf8.acceptRanges", laid_unicode_utf8_acceptRanges), ("unicode/utf8.first", laid_unicode_utf8_first)] }
def CodecKeptSaid : Prop := codecKeptRow.holds Tryd.pinned (OpenSpec.ofChange codecKeptSpec)

/-- ITS FALSE NEIGHBOUR: 'it returns false'. Refute it at one input. -/
def codecKeptWrong : ChangeSpec := { name := "codecKept", fn := fun _ => fun
  | [d1, d2] => { results := [.lit (.bool false)], args := [d1, d2] }
  | _ => none }
def CodecKeptWrongFalsely : Prop := codecKeptRow.holds Tryd.pinned (OpenSpec.ofChange codecKeptWrong)

/-- 'tidemarklaw3.CodecBack': WHATEVER THE INPUT: true; the input reads as it did. -/
def codecBackSpec : ChangeSpec := { name := "codecBack", fn := fun _ => fun
  | [d1, d2] => { results := [.lit (.bool true)], args := [d1, d2] }
  | _ => none }
def codecBackRow : OpenClaim := { program := "ytihcegakghmdfaadoor", sum := "daac3a1b3bdcc9f31deb39c112ab3a071f619c93d0ef063dd10e624c9d403156", func := "tidemark/tidemarklaw3.CodecBack", spec := "codecBack", unfollowed := true, recurses := true, named := ["unicode/utf8.first", "unicode/utf8.acceptRanges"], loops := true, apart := false, laid := [("unicode/utf8.acceptRanges", laid_unicode_utf8_acceptRanges), ("unicode/utf8.first", laid_unicode_utf8_first)] }
def CodecBackSaid : Prop := codecBackRow.holds Tryd.pinned (OpenSpec.ofChange codecBackSpec)

/-- ITS FALSE NEIGHBOUR: 'it returns false'. Refute it at one input. -/
def codecBackWrong : ChangeSpec := { name := "codecBack", fn := fun _ => fun
  | [d1, d2] => { results := [.lit (.bool false)], args := [d1, d2] }
  | _ => none }
def CodecBackWrongFalsely : Prop := codecBackRow.holds Tryd.pinned (OpenSpec.ofChange codecBackWrong)

/-- 'tidemarklaw5.KeyKnown': WHATEVER THE INPUT: true; the input reads as it did. -/
def keyKnownSpec : ChangeSpec := { name := "keyKnown", fn := fun _ => fun
  | [] => { results := [.lit (.bool true)], args := [] }
  | _ => none }
def keyKnownRow : OpenClaim := { program := "ytihcegakghmdfaadoor", sum := "daac3a1b3bdcc9f31deb39c112ab3a071f619c93d0ef063dd10e624c9d403156", func := "tidemark/tidemarklaw5.KeyKnown", spec := "keyKnown", unfollowed := true, recurses := true, named := ["unicode/utf8.first", "unicode/utf8.acceptRanges"], apart := false, laid := [("unicode/utf8.acceptRanges", laid_unicode_utf8_acceptRanges), ("unicode/utf8.first", laid_unicode_utf8_first)] }
def KeyKnownSaid : Prop := keyKnownRow.holds Tryd.pinned (OpenSpec.ofChange keyKnownSpec)

/-- ITS FALSE NEIGHBOUR: 'it returns false'. Refute it at one input. -/
def keyKnownWrong : ChangeSpec := { name := "keyKnown", fn := fun _ => fun
  | [] => { results := [.lit (.bool false)], args := [] }
  | _ => none }
def KeyKnownWrongFalsely : Prop := keyKnownRow.holds Tryd.pinned (OpenSpec.ofChange keyKnownWrong)

/-- 'tidemarklaw5.KeyMany': WHATEVER THE INPUT: true; the input reads as it did. -/
def keyManySpec : ChangeSpec := { name := "keyMany", fn := fun _ => fun
  | [d1, d2, d3] => { results := [.lit (.bool true)], args := [d1, d2, d3] }
  | _ => none }
def keyManyRow : OpenClaim := { program := "ytihcegakghmdfaadoor", sum := "daac3a1b3bdcc9f31deb39c112ab3a071f619c93d0ef063dd10e624c9d403156", func := "tidemark/tidemarklaw5.KeyMany", spec := "keyMany", unfollowed := true, recurses := true, named := ["unicode/utf8.first", "unicode/utf8.acceptRanges"], loops := true, apart := false, laid := [("unicode/utf8.acceptRanges", laid_unicode_utf8_acceptRanges), ("unicode/utf8.first", laid_unicode_utf8_first)] }
def KeyManySaid : Prop := keyManyRow.holds Tryd.pinned (OpenSpec.ofChange keyManySpec)

/-- ITS FALSE NEIGHBOUR: 'it returns false'. Refute it at one input. -/
def keyManyWrong : ChangeSpec := { name := "keyMany", fn := fun _ => fun
  | [d1, d2, d3] => { results := [.lit (.bool false)], args := [d1, d2, d3] }
  | _ => none }
def KeyManyWrongFalsely : Prop := keyManyRow.holds Tryd.pinned (OpenSpec.ofChange keyManyWrong)

/-- 'tidemarklaw5.KeyBeyond': WHATEVER THE INPUT: true; the input reads as it did. -/
def keyBeyondSpec : ChangeSpec := { name := "keyBeyond", fn := fun _ => fun
  | [d1, d2] => { results := [.lit (.bool true)], args := [d1, d2] }
  | _ => none }
def keyBeyondRow : OpenClaim := { program := "ytihcegakghmdfaadoor", sum := "daac3a1b3bdcc9f31deb39c112ab3a071f619c93d0ef063dd10e624c9d403156", func := "tidemark/tidemarklaw5.KeyBeyond", spec := "keyBeyond", unfollowed := true, recurses := true, named := ["unicode/utf8.first", "unicode/utf8.acceptRanges"], apart := false, laid := [("unicode/utf8.acceptRanges", laid_unicode_utf8_acceptRanges), ("unicode/utf8.first", laid_unicode_utf8_first)] }
def KeyBeyondSaid : Prop := keyBeyondRow.holds Tryd.pinned (OpenSpec.ofChange keyBeyondSpec)

/-- ITS FALSE NEIGHBOUR: 'it returns false'. Refute it at one input. -/
def keyBeyondWrong : ChangeSpec := { name := "keyBeyond", fn := fun _ => fun
  | [d1, d2] => { results := [.lit (.bool false)], args := [d1, d2] }
  | _ => none }
def KeyBeyondWrongFalsely : Prop := keyBeyondRow.holds Tryd.pinned (OpenSpec.ofChange keyBeyondWrong)

/-- 'tidemarklaw5.KeyKept': WHATEVER THE INPUT: true; the input reads as it did. -/
def keyKeptSpec : ChangeSpec := { name := "keyKept", fn := fun _ => fun
  | [d1, d2] => { results := [.lit (.bool true)], args := [d1, d2] }
  | _ => none }
def keyKeptRow : OpenClaim := { program := "ytihcegakghmdfaadoor", sum := "daac3a1b3bdcc9f31deb39c112ab3a071f619c93d0ef063dd10e624c9d403156", func := "tidemark/tidemarklaw5.KeyKept", spec := "keyKept", unfollowed := true, recurses := true, named := ["unicode/utf8.first", "unicode/utf8.acceptRanges"], loops := true, apart := false, laid := [("unicode/utf8.acceptRanges", laid_unicode_utf8_acceptRanges), ("unicode/utf8.first", laid_unicode_utf8_first)] }
def KeyKeptSaid : Prop := keyKeptRow.holds Tryd.pinned (OpenSpec.ofChange keyKeptSpec)

/-- ITS FALSE NEIGHBOUR: 'it returns false'. Refute it at one input. -/
def keyKeptWrong : ChangeSpec := { name := "keyKept", fn := fun _ => fun
  | [d1, d2] => { results := [.lit (.bool false)], args := [d1, d2] }
  | _ => none }
def KeyKeptWrongFalsely : Prop := keyKeptRow.holds Tryd.pinned (OpenSpec.ofChange keyKeptWrong)

/-- 'tidemarklaw3.CodecNests': WHATEVER THE INPUT: true; the input reads as it did. -/
def codecNestsSpec : ChangeSpec := { name := "codecNests", fn := fun _ => fun
  | [d1, d2] => { results := [.lit (.bool true)], args := [d1, d2] }
  | _ => none }
def codecNestsRow : OpenClaim := { program := "ytihcegakghmdfaadoor", sum := "daac3a1b3bdcc9f31deb39c112ab3a071f619c93d0ef063dd10e624c9d403156", func := "tidemark/tidemarklaw3.CodecNests", spec := "codecNests", unfollowed := true, recurses := true, named := ["unicode/utf8.first", "unicode/utf8.acceptRanges"], loops := true, apart := false, laid := [("unicode/utf8.acceptRanges", laid_unicode_utf8_acceptRanges), ("unicode/utf8.first", laid_unicode_utf8_first)] }
def CodecNestsSaid : Prop := codecNestsRow.holds Tryd.pinned (OpenSpec.ofChange codecNestsSpec)

/-- ITS FALSE NEIGHBOUR: 'it returns false'. Refute it at one input. -/
def codecNestsWrong : ChangeSpec := { name := "codecNests", fn := fun _ => fun
  | [d1, d2] => { results := [.lit (.bool false)], args := [d1, d2] }
  | _ => none }
def CodecNestsWrongFalsely : Prop := codecNestsRow.holds Tryd.pinned (OpenSpec.ofChange codecNestsWrong)

/-- 'tidemarklaw3.CodecNumbers': WHATEVER THE INPUT: true; the input reads as it did. -/
def codecNumbersSpec : ChangeSpec := { name := "codecNumbers", fn := fun _ => fun
  | [d1, d2, d3] => { results := [.lit (.bool true)], args := [d1, d2, d3] }
  | _ => none }
def codecNumbersRow : OpenClaim := { program := "ytihcegakghmdfaadoor", sum := "daac3a1b3bdcc9f31deb39c112ab3a071f619c93d0ef063dd10e624c9d403156", func := "tidemark/tidemarklaw3.CodecNumbers", spec := "codecNumbers", unfollowed := true, recurses := true, named := ["unicode/utf8.first", "unicode/utf8.acceptRanges"], apart := false, laid := [("unicode/utf8.acceptRanges", laid_unicode_utf8_acceptRanges), ("unicode/utf8.first", laid_unicode_utf8_first)] }
def CodecNumbersSaid : Prop := codecNumbersRow.holds Tryd.pinned (OpenSpec.ofChange codecNumbersSpec)

/-- ITS FALSE NEIGHBOUR: 'it returns false'. Refute it at one input. -/
def codecNumbersWrong : ChangeSpec := { name := "codecNumbers", fn := fun _ => fun
  | [d1, d2, d3] => { results := [.lit (.bool false)], args := [d1, d2, d3] }
  | _ => none }
def CodecNumbersWrongFalsely : Prop := codecNumbersRow.holds Tryd.pinned (OpenSpec.ofChange codecNumbersWrong)

/-- 'tidemarklaw3.CodecRows': WHATEVER THE INPUT: true; the input reads as it did. -/
def codecRowsSpec : ChangeSpec := { name := "codecRows", fn := fun _ => fun
  | [d1, d2, d3] => { results := [.lit (.bool true)], args := [d1, d2, d3] }
  | _ => none }
def codecRowsRow : OpenClaim := { program := "ytihcegakghmdfaadoor", sum := "daac3a1b3bdcc9f31deb39c112ab3a071f619c93d0ef063dd10e624c9d403156", func := "tidemark/tidemarklaw3.CodecRows", spec := "codecRows", unfollowed := true, recurses := true, named := ["unicode/utf8.first", "unicode/utf8.acceptRanges"], loops := true, apart := false, laid := [("unicode/utf8.acceptRanges", laid_unicode_utf8_acceptRanges), ("unicode/utf8.first", laid_unicode_utf8_first)] }
def CodecRowsSaid : Prop := codecRowsRow.holds Tryd.pinned (OpenSpec.ofChange codecRowsSpec)

/-- ITS FALSE NEIGHBOUR: 'it returns false'. Refute it at one input. -/
def codecRowsWrong : ChangeSpec := { name := "codecRows", fn := fun _ => fun
  | [d1, d2, d3] => { results := [.lit (.bool false)], args := [d1, d2, d3] }
  | _ => none }
def CodecRowsWrongFalsely : Prop := codecRowsRow.holds Tryd.pinned (OpenSpec.ofChange codecRowsWrong)

/-- 'tidemarklaw3.CodecKnown': WHATEVER THE INPUT: true; the input reads as it did. -/
def codecKnownSpec : ChangeSpec := { name := "codecKnown", fn := fun _ => fun
  | [] => { results := [.lit (.bool true)], args := [] }
  | _ => none }
def codecKnownRow : OpenClaim := { program := "ytihcegakghmdfaadoor", sum := "daac3a1b3bdcc9f31deb39c112ab3a071f619c93d0ef063dd10e624c9d403156", func := "tidemark/tidemarklaw3.CodecKnown", spec := "codecKnown", unfollowed := true, recurses := true, named := ["unicode/utf8.first", "unicode/utf8.acceptRanges"], apart := false, laid := [("unicode/utf8.acceptRanges", laid_unicode_utf8_acceptRanges), ("unicode/utf8.first", laid_unicode_utf8_first)] }
def CodecKnownSaid : Prop := codecKnownRow.holds Tryd.pinned (OpenSpec.ofChange codecKnownSpec)

/-- ITS FALSE NEIGHBOUR: 'it returns false'. Refute it at one input. -/
def codecKnownWrong : ChangeSpec := { name := "codecKnown", fn := fun _ => fun
  | [] => { results := [.lit (.bool false)], args := [] }
  | _ => none }
def CodecKnownWrongFalsely : Prop := codecKnownRow.holds Tryd.pinned (OpenSpec.ofChange codecKnownWrong)

/-- 'tidemarklaw5.KeyOrders': WHATEVER THE INPUT: true; the input reads as it did. -/
def keyOrdersSpec : ChangeSpec := { name := "keyOrders", fn := fun _ => fun
  | [d1, d2] => { results := [.lit (.bool true)], args := [d1, d2] }
  | _ => none }
def keyOrdersRow : OpenClaim := { program := "ytihcegakghmdfaadoor", sum := "daac3a1b3bdcc9f31deb39c112ab3a071f619c93d0ef063dd10e624c9d403156", func := "tidemark/tidemarklaw5.KeyOrders", spec := "keyOrders", inPlace := ["internal/bytealg.abigen_runtime_cmpstring"], unfollowed := true, recurses := true, named := ["unicode/utf8.first", "unicode/utf8.acceptRanges"], loops := true, apart := false, laid := [("unicode/utf8.acceptRanges", laid_unicode_utf8_acceptRanges), ("unicode/utf8.first", laid_unicode_utf8_first)] }
def KeyOrdersSaid : Prop := keyOrdersRow.holds Tryd.pinned (OpenSpec.ofChange keyOrdersSpec)

/-- ITS FALSE NEIGHBOUR: 'it returns false'. Refute it at one input. -/
def keyOrdersWrong : ChangeSpec := { name := "keyOrders", fn := fun _ => fun
  | [d1, d2] => { results := [.lit (.bool false)], args := [d1, d2] }
  | _ => none }
def KeyOrdersWrongFalsely : Prop := keyOrdersRow.holds Tryd.pinned (OpenSpec.ofChange keyOrdersWrong)

/-- 'tidemarklaw5.KeyLists': WHATEVER THE INPUT: true; the input reads as it did. -/
def keyListsSpec : ChangeSpec := { name := "keyLists", fn := fun _ => fun
  | [d1, d2] => { results := [.lit (.bool true)], args := [d1, d2] }
  | _ => none }
def keyListsRow : OpenClaim := { program := "ytihcegakghmdfaadoor", sum := "daac3a1b3bdcc9f31deb39c112ab3a071f619c93d0ef063dd10e624c9d403156", func := "tidemark/tidemarklaw5.KeyLists", spec := "keyLists", inPlace := ["internal/bytealg.abigen_runtime_cmpstring"], unfollowed := true, recurses := true, named := ["unicode/utf8.first", "unicode/utf8.acceptRanges"], loops := true, apart := false, laid := [("unicode/utf8.acceptRanges", laid_unicode_utf8_acceptRanges), ("unicode/utf8.first", laid_unicode_utf8_first)] }
def KeyListsSaid : Prop := keyListsRow.holds Tryd.pinned (OpenSpec.ofChange keyListsSpec)

/-- ITS FALSE NEIGHBOUR: 'it returns false'. Refute it at one input. -/
def keyListsWrong : ChangeSpec := { name := "keyLists", fn := fun _ => fun
  | [d1, d2] => { results := [.lit (.bool false)], args := [d1, d2] }
  | _ => none }
def KeyListsWrongFalsely : Prop := keyListsRow.holds Tryd.pinned (OpenSpec.ofChange keyListsWrong)

/- THE SECOND FORM. 'bulk': how many values and letters a reading holds, each counted each time it is reached (what is shared counts as often as it is met; a slice's spare places count too). A statement '..UptoSaid' is the law's where the arguments, and the package variables that the reading takes, are together of bulk at most 1048576: NARROWER than '..Said'. Prove '..Said' where nothing that the law and all that it calls make is longer than what came in: it says more and counts as full. Else prove '..UptoSaid'. A law counts once. -/
mutual
def uptoBulk {H : Type} : DataW H → Nat
  | .lit (.string bytes) => bytes.length + 1
  | .lit _ => 1
  | .nil => 1
  | .ptr d => uptoBulk d + 1
  | .slice elems spare => uptoBulkAll elems + uptoBulkAll spare + 1
  | .agg parts => uptoBulkAll parts + 1
  | .iface _ d => uptoBulk d + 1
  | .map entries => uptoBulkEntries entries + 1
  | .held _ => 1
def uptoBulkAll {H : Type} : List (DataW H) → Nat
  | [] => 0
  | d :: r => uptoBulk d + uptoBulkAll r
def uptoBulkEntries {H : Type} : List (Lit × DataW H) → Nat
  | [] => 0
  | x :: r => uptoBulkEntry x + uptoBulkEntries r
def uptoBulkEntry {H : Type} : Lit × DataW H → Nat
  | (.string bytes, d) => bytes.length + uptoBulk d + 1
  | (_, d) => uptoBulk d + 1
 end
def uptoSmall : (H : Type) → List (DataW H) → Bool := fun _ ds => decide (uptoBulkAll ds ≤ 1048576)
def OpenSpec.upto (s : _root_.Go.ChangeSpec) : _root_.Go.OpenSpec := { _root_.Go.OpenSpec.ofChange s with cond := some uptoSmall }

/-- 'tidemarklaw5.KeySingle', WHERE WHAT IT READS IS OF BULK AT MOST 1048576: true; the input reads as it did. -/
def keySingleUptoRow : OpenClaim := { program := "ytihcegakghmdfaadoor", sum := "daac3a1b3bdcc9f31deb39c112ab3a071f619c93d0ef063dd10e624c9d403156", func := "tidemark/tidemarklaw5.KeySingle", spec := "keySingle", unfollowed := true, recurses := true, named := ["unicode/utf8.first", "unicode/utf8.acceptRanges"], loops := true, apart := false, laid := [("unicode/utf8.acceptRanges", laid_unicode_utf8_acceptRanges), ("unicode/utf8.first", laid_unicode_utf8_first)], narrowed := true }
def KeySingleUptoSaid : Prop := keySingleUptoRow.holds Tryd.pinned (OpenSpec.upto keySingleSpec)

/-- 'tidemarklaw3.CodecValues', WHERE WHAT IT READS IS OF BULK AT MOST 1048576: true; the input reads as it did. -/
def codecValuesUptoRow : OpenClaim := { program := "ytihcegakghmdfaadoor", sum := "daac3a1b3bdcc9f31deb39c112ab3a071f619c93d0ef063dd10e624c9d403156", func := "tidemark/tidemarklaw3.CodecValues", spec := "codecValues", unfollowed := true, recurses := true, named := ["unicode/utf8.first", "unicode/utf8.acceptRanges"], loops := true, apart := false, laid := [("unicode/utf8.acceptRanges", laid_unicode_utf8_acceptRanges), ("unicode/utf8.first", laid_unicode_utf8_first)], narrowed := true }
def CodecValuesUptoSaid : Prop := codecValuesUptoRow.holds Tryd.pinned (OpenSpec.upto codecValuesSpec)

/-- 'tidemarklaw3.CodecKept', WHERE WHAT IT READS IS OF BULK AT MOST 1048576: true; the input reads as it did. -/
def codecKeptUptoRow : OpenClaim := { program := "ytihcegakghmdfaadoor", sum := "daac3a1b3bdcc9f31deb39c112ab3a071f619c93d0ef063dd10e624c9d403156", func := "tidemark/tidemarklaw3.CodecKept", spec := "codecKept", unfollowed := true, recurses := true, named := ["unicode/utf8.first", "unicode/utf8.acceptRanges"], loops := true, apart := false, laid := [("unicode/utf8.acceptRanges", laid_unicode_utf8_acceptRanges), ("unicode/utf8.first", laid_unicode_utf8_first)], narrowed := true }
def CodecKeptUptoSaid : Prop := codecKeptUptoRow.holds Tryd.pinned (OpenSpec.upto codecKeptSpec)

/-- 'tidemarklaw3.CodecBack', WHERE WHAT IT READS IS OF BULK AT MOST 1048576: true; the input reads as it did. -/
def codecBackUptoRow : OpenClaim := { program := "ytihcegakghmdfaadoor", sum := "daac3a1b3bdcc9f31deb39c112ab3a071f619c93d0ef063dd10e624c9d403156", func := "tidemark/tidemarklaw3.CodecBack", spec := "codecBack", unfollowed := true, recurses := true, named := ["unicode/utf8.first", "unicode/utf8.acceptRanges"], loops := true, apart := false, laid := [("unicode/utf8.acceptRanges", laid_unicode_utf8_acceptRanges), ("unicode/utf8.first", laid_unicode_utf8_first)], narrowed := true }
def CodecBackUptoSaid : Prop := codecBackUptoRow.holds Tryd.pinned (OpenSpec.upto codecBackSpec)

/-- 'tidemarklaw5.KeyKnown', WHERE WHAT IT READS IS OF BULK AT MOST 1048576: true; the input reads as it did. -/
def keyKnownUptoRow : OpenClaim := { program := "ytihcegakghmdfaadoor", sum := "daac3a1b3bdcc9f31deb39c112ab3a071f619c93d0ef063dd10e624c9d403156", func := "tidemark/tidemarklaw5.KeyKnown", spec := "keyKnown", unfollowed := true, recurses := true, named := ["unicode/utf8.first", "unicode/utf8.acceptRanges"], apart := false, laid := [("unicode/utf8.acceptRanges", laid_unicode_utf8_acceptRanges), ("unicode/utf8.first", laid_unicode_utf8_first)], narrowed := true }
def KeyKnownUptoSaid : Prop := keyKnownUptoRow.holds Tryd.pinned (OpenSpec.upto keyKnownSpec)

/-- 'tidemarklaw5.KeyMany', WHERE WHAT IT READS IS OF BULK AT MOST 1048576: true; the input reads as it did. -/
def keyManyUptoRow : OpenClaim := { program := "ytihcegakghmdfaadoor", sum := "daac3a1b3bdcc9f31deb39c112ab3a071f619c93d0ef063dd10e624c9d403156", func := "tidemark/tidemarklaw5.KeyMany", spec := "keyMany", unfollowed := true, recurses := true, named := ["unicode/utf8.first", "unicode/utf8.acceptRanges"], loops := true, apart := false, laid := [("unicode/utf8.acceptRanges", laid_unicode_utf8_acceptRanges), ("unicode/utf8.first", laid_unicode_utf8_first)], narrowed := true }
def KeyManyUptoSaid : Prop := keyManyUptoRow.holds Tryd.pinned (OpenSpec.upto keyManySpec)

/-- 'tidemarklaw5.KeyBeyond', WHERE WHAT IT READS IS OF BULK AT MOST 1048576: true; the input reads as it did. -/
def keyBeyondUptoRow : OpenClaim := { program := "ytihcegakghmdfaadoor", sum := "daac3a1b3bdcc9f31deb39c112ab3a071f619c93d0ef063dd10e624c9d403156", func := "tidemark/tidemarklaw5.KeyBeyond", spec := "keyBeyond", unfollowed := true, recurses := true, named := ["unicode/utf8.first", "unicode/utf8.acceptRanges"], apart := false, laid := [("unicode/utf8.acceptRanges", laid_unicode_utf8_acceptRanges), ("unicode/utf8.first", laid_unicode_utf8_first)], narrowed := true }
def KeyBeyondUptoSaid : Prop := keyBeyondUptoRow.holds Tryd.pinned (OpenSpec.upto keyBeyondSpec)

/-- 'tidemarklaw5.KeyKept', WHERE WHAT IT READS IS OF BULK AT MOST 1048576: true; the input reads as it did. -/
def keyKeptUptoRow : OpenClaim := { program := "ytihcegakghmdfaadoor", sum := "daac3a1b3bdcc9f31deb39c112ab3a071f619c93d0ef063dd10e624c9d403156", func := "tidemark/tidemarklaw5.KeyKept", spec := "keyKept", unfollowed := true, recurses := true, named := ["unicode/utf8.first", "unicode/utf8.acceptRanges"], loops := true, apart := false, laid := [("unicode/utf8.acceptRanges", laid_unicode_utf8_acceptRanges), ("unicode/utf8.first", laid_unicode_utf8_first)], narrowed := true }
def KeyKeptUptoSaid : Prop := keyKeptUptoRow.holds Tryd.pinned (OpenSpec.upto keyKeptSpec)

/-- 'tidemarklaw3.CodecNests', WHERE WHAT IT READS IS OF BULK AT MOST 1048576: true; the input reads as it did. -/
def codecNestsUptoRow : OpenClaim := { program := "ytihcegakghmdfaadoor", sum := "daac3a1b3bdcc9f31deb39c112ab3a071f619c93d0ef063dd10e624c9d403156", func := "tidemark/tidemarklaw3.CodecNests", spec := "codecNests", unfollowed := true, recurses := true, named := ["unicode/utf8.first", "unicode/utf8.acceptRanges"], loops := true, apart := false, laid := [("unicode/utf8.acceptRanges", laid_unicode_utf8_acceptRanges), ("unicode/utf8.first", laid_unicode_utf8_first)], narrowed := true }
def CodecNestsUptoSaid : Prop := codecNestsUptoRow.holds Tryd.pinned (OpenSpec.upto codecNestsSpec)

/-- 'tidemarklaw3.CodecNumbers', WHERE WHAT IT READS IS OF BULK AT MOST 1048576: true; the input reads as it did. -/
def codecNumbersUptoRow : OpenClaim := { program := "ytihcegakghmdfaadoor", sum := "daac3a1b3bdcc9f31deb39c112ab3a071f619c93d0ef063dd10e624c9d403156", func := "tidemark/tidemarklaw3.CodecNumbers", spec := "codecNumbers", unfollowed := true, recurses := true, named := ["unicode/utf8.first", "unicode/utf8.acceptRanges"], apart := false, laid := [("unicode/utf8.acceptRanges", laid_unicode_utf8_acceptRanges), ("unicode/utf8.first", laid_unicode_utf8_first)], narrowed := true }
def CodecNumbersUptoSaid : Prop := codecNumbersUptoRow.holds Tryd.pinned (OpenSpec.upto codecNumbersSpec)

/-- 'tidemarklaw3.CodecRows', WHERE WHAT IT READS IS OF BULK AT MOST 1048576: true; the input reads as it did. -/
def codecRowsUptoRow : OpenClaim := { program := "ytihcegakghmdfaadoor", sum := "daac3a1b3bdcc9f31deb39c112ab3a071f619c93d0ef063dd10e624c9d403156", func := "tidemark/tidemarklaw3.CodecRows", spec := "codecRows", unfollowed := true, recurses := true, named := ["unicode/utf8.first", "unicode/utf8.acceptRanges"], loops := true, apart := false, laid := [("unicode/utf8.acceptRanges", laid_unicode_utf8_acceptRanges), ("unicode/utf8.first", laid_unicode_utf8_first)], narrowed := true }
def CodecRowsUptoSaid : Prop := codecRowsUptoRow.holds Tryd.pinned (OpenSpec.upto codecRowsSpec)

/-- 'tidemarklaw3.CodecKnown', WHERE WHAT IT READS IS OF BULK AT MOST 1048576: true; the input reads as it did. -/
def codecKnownUptoRow : OpenClaim := { program := "ytihcegakghmdfaadoor", sum := "daac3a1b3bdcc9f31deb39c112ab3a071f619c93d0ef063dd10e624c9d403156", func := "tidemark/tidemarklaw3.CodecKnown", spec := "codecKnown", unfollowed := true, recurses := true, named := ["unicode/utf8.first", "unicode/utf8.acceptRanges"], apart := false, laid := [("unicode/utf8.acceptRanges", laid_unicode_utf8_acceptRanges), ("unicode/utf8.first", laid_unicode_utf8_first)], narrowed := true }
def CodecKnownUptoSaid : Prop := codecKnownUptoRow.holds Tryd.pinned (OpenSpec.upto codecKnownSpec)

/-- 'tidemarklaw5.KeyOrders', WHERE WHAT IT READS IS OF BULK AT MOST 1048576: true; the input reads as it did. -/
def keyOrdersUptoRow : OpenClaim := { program := "ytihcegakghmdfaadoor", sum := "daac3a1b3bdcc9f31deb39c112ab3a071f619c93d0ef063dd10e624c9d403156", func := "tidemark/tidemarklaw5.KeyOrders", spec := "keyOrders", inPlace := ["internal/bytealg.abigen_runtime_cmpstring"], unfollowed := true, recurses := true, named := ["unicode/utf8.first", "unicode/utf8.acceptRanges"], loops := true, apart := false, laid := [("unicode/utf8.acceptRanges", laid_unicode_utf8_acceptRanges), ("unicode/utf8.first", laid_unicode_utf8_first)], narrowed := true }
def KeyOrdersUptoSaid : Prop := keyOrdersUptoRow.holds Tryd.pinned (OpenSpec.upto keyOrdersSpec)

/-- 'tidemarklaw5.KeyLists', WHERE WHAT IT READS IS OF BULK AT MOST 1048576: true; the input reads as it did. -/
def keyListsUptoRow : OpenClaim := { program := "ytihcegakghmdfaadoor", sum := "daac3a1b3bdcc9f31deb39c112ab3a071f619c93d0ef063dd10e624c9d403156", func := "tidemark/tidemarklaw5.KeyLists", spec := "keyLists", inPlace := ["internal/bytealg.abigen_runtime_cmpstring"], unfollowed := true, recurses := true, named := ["unicode/utf8.first", "unicode/utf8.acceptRanges"], loops := true, apart := false, laid := [("unicode/utf8.acceptRanges", laid_unicode_utf8_acceptRanges), ("unicode/utf8.first", laid_unicode_utf8_first)], narrowed := true }
def KeyListsUptoSaid : Prop := keyListsUptoRow.holds Tryd.pinned (OpenSpec.upto keyListsSpec)

end Rows
end Go.Proofs.YtihcegakghmdfaaDoor
