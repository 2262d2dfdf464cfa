/-
  NARROWER THAN 'FOR EVERY INPUT', by the rows' own cells (each row's printed sentence says how): PathGets: loops, laid · PathApart: loops, laid · PathDeep: loops, laid · PathBack: loops, laid · PathSums: loops, laid · PathKnown: laid.
  DERIVED. THE GIVEN ROWS OF THIS SEAT. 6 by the template 'for every input the law returns true; each argument reads behind the call as it read before'; 0 by the template 'total and deterministic' (their statements: YthjihdpleclejaaDoorTotals.lean).
  GIVEN WITH THE SEED: the statements are not yours to turn. If you find one false, say at which input.
  Laid BY PROGRAM, IN A SANDBOX (cutbox-rows.mjs): the forced cells as the released guide's own fill.sh prints them over the translation 06da567cfcc9c0e8… (all of the seat's roots in one cut). By AI agents, Wed Nov 11 2026. No macro, syntax, notation, axiom, sorry.
-/
import Derived.Test.YthjihdpleclejaaDoorChecked
import GoSem.PinnedTables
import GoSem.Claim
import GoSem.ClaimJoined
import GoSem.ClaimMapViews
import Derived.JoinedTies
import Derived.KernelRfl
namespace Go.Proofs.YthjihdpleclejaaDoor
/- THE CELL 'sum', in the pinned program and in every row, IS THE sha256 OF THE DUMP (.gsa) THAT YthjihdpleclejaaDoorProg.lean LOADS. Nothing in Lean hashes anything: it is a label: what it is worth is what the hold of that sum in a sandbox is worth. -/
noncomputable def Tryd.pinned : Pinned := { name := "ythjihdpleclejaadoor", sum := "06da567cfcc9c0e86d206c75b0346f9c1ba4cd693ff67b9105e4b70cf88039c0", checked := Tryd.checked }
namespace Rows
def none {H : Type} : Left H := { results := [], args := [] }

/- WHAT THE LISTED PACKAGE-LEVEL VARIABLES READ AS WHEN THE CALL BEGINS. Each datum BY PROGRAM (the guide's laid-datum.mjs) off the statement by which the dump's own 'gosem.cut.vars' lays the variable. In a bare row this is a premise. The card (YthjihdpleclejaaDoorCards.lean) ties it to the program's text. -/
def laid_unicode_utf8_acceptRanges {H : Type} : DataW H := .agg [.agg [.lit (.int .u8 128), .lit (.int .u8 191)], .agg [.lit (.int .u8 160), .lit (.int .u8 191)], .agg [.lit (.int .u8 128), .lit (.int .u8 159)], .agg [.lit (.int .u8 144), .lit (.int .u8 191)], .agg [.lit (.int .u8 128), .lit (.int .u8 143)], .agg [.lit (.int .u8 0), .lit (.int .u8 0)], .agg [.lit (.int .u8 0), .lit (.int .u8 0)], .agg [.lit (.int .u8 0), .lit (.int .u8 0)], .agg [.lit (.int .u8 0), .lit (.int .u8 0)], .agg [.lit (.int .u8 0), .lit (.int .u8 0)], .agg [.lit (.int .u8 0), .lit (.int .u8 0)], .agg [.lit (.int .u8 0), .lit (.int .u8 0)], .agg [.lit (.int .u8 0), .lit (.int .u8 0)], .agg [.lit (.int .u8 0), .lit (.int .u8 0)], .agg [.lit (.int .u8 0), .lit (.int .u8 0)], .agg [.lit (.int .u8 0), .lit (.int .u8 0)]]
/-- One of Go's own tables, pinned by name: the form's constant. -/
def laid_unicode_utf8_first : DataW Unit := Go.Pinned.utf8First

/-- 'tidemarklaw6.PathGets': WHATEVER THE INPUT: true; the input reads as it did. -/
def pathGetsSpec : ChangeSpec := { name := "pathGets", fn := fun _ => fun
  | [d1, d2] => { results := [.lit (.bool true)], args := [d1, d2] }
  | _ => none }
def pathGetsRow : OpenClaim := { program := "ythjihdpleclejaadoor", sum := "06da567cfcc9c0e86d206c75b0346f9c1ba4cd693ff67b9105e4b70cf88039c0", func := "tidemark/tidemarklaw6.PathGets", spec := "pathGets", inPlace := ["internal/bytealg.CountString", "internal/bytealg.IndexByteString", "internal/bytealg.IndexString", "internal/bytealg.abigen_runtime_cmpstring", "slices.overlaps[tidemark/api.Field]"], unfollowed := true, recurses := true, named := ["unicode/utf8.first", "unicode/utf8.acceptRanges", "internal/bytealg.MaxLen"], loops := true, apart := false, laid := [("unicode/utf8.acceptRanges", laid_unicode_utf8_acceptRanges), ("unicode/utf8.first", laid_unicode_utf8_first)] }
def PathGetsSaid : Prop := pathGetsRow.holds Tryd.pinned (OpenSpec.ofChange pathGetsSpec)

/-- ITS FALSE NEIGHBOUR: 'it returns false'. Refute it at one input. -/
def pathGetsWrong : ChangeSpec := { name := "pathGets", fn := fun _ => fun
  | [d1, d2] => { results := [.lit (.bool false)], args := [d1, d2] }
  | _ => none }
def PathGetsWrongFalsely : Prop := pathGetsRow.holds Tryd.pinned (OpenSpec.ofChange pathGetsWrong)

/-- 'tidemarklaw6.PathApart': WHATEVER THE INPUT: true; the input reads as it did. -/
def pathApartSpec : ChangeSpec := { name := "pathApart", fn := fun _ => fun
  | [d1, d2, d3, d4] => { results := [.lit (.bool true)], args := [d1, d2, d3, d4] }
  | _ => none }
def pathApartRow : OpenClaim := { program := "ythjihdpleclejaadoor", sum := "06da567cfcc9c0e86d206c75b0346f9c1ba4cd693ff67b9105e4b70cf88039c0", func := "tidemark/tidemarklaw6.PathApart", spec := "pathApart", inPlace := ["internal/bytealg.CountString", "internal/bytealg.IndexByteString", "internal/bytealg.IndexString", "internal/bytealg.abigen_runtime_cmpstring", "slices.overlaps[tidemark/api.Field]"], unfollowed := true, recurses := true, named := ["unicode/utf8.first", "unicode/utf8.acceptRanges", "internal/bytealg.MaxLen"], loops := true, apart := false, laid := [("unicode/utf8.acceptRanges", laid_unicode_utf8_acceptRanges), ("unicode/utf8.first", laid_unicode_utf8_first)] }
def PathApartSaid : Prop := pathApartRow.holds Tryd.pinned (OpenSpec.ofChange pathApartSpec)

/-- ITS FALSE NEIGHBOUR: 'it returns false'. Refute it at one input. -/
def pathApartWrong : ChangeSpec := { name := "pathApart", fn := fun _ => fun
  | [d1, d2, d3, d4] => { results := [.lit (.bool false)], args := [d1, d2, d3, d4] }
  | _ => none }
def PathApartWrongFalsely : Prop := pathApartRow.holds Tryd.pinned (OpenSpec.ofChange pathApartWrong)

/-- 'tidemarklaw6.PathDeep': WHATEVER THE INPUT: true; the input reads as it did. -/
def pathDeepSpec : ChangeSpec := { name := "pathDeep", fn := fun _ => fun
  | [d1, d2] => { results := [.lit (.bool true)], args := [d1, d2] }
  | _ => none }
def pathDeepRow : OpenClaim := { program := "ythjihdpleclejaadoor", sum := "06da567cfcc9c0e86d206c75b0346f9c1ba4cd693ff67b9105e4b70cf88039c0", func := "tidemark/tidemarklaw6.PathDeep", spec := "pathDeep", inPlace := ["internal/bytealg.CountString", "internal/bytealg.IndexByteString", "internal/bytealg.IndexString", "internal/bytealg.abigen_runtime_cmpstring", "slices.overlaps[tidemark/api.Field]"], unfollowed := true, recurses := true, named := ["unicode/utf8.first", "unicode/utf8.acceptRanges", "internal/bytealg.MaxLen"], loops := true, apart := false, laid := [("unicode/utf8.acceptRanges", laid_unicode_utf8_acceptRanges), ("unicode/utf8.first", laid_unicode_utf8_first)] }
def PathDeepSaid : Prop := pathDeepRow.holds Tryd.pinned (OpenSpec.ofChange pathDeepSpec)

/-- ITS FALSE NEIGHBOUR: 'it returns false'. Refute it at one input. -/
def pathDeepWrong : ChangeSpec := { name := "pathDeep", fn := fun _ => fun
  | [d1, d2] => { results := [.lit (.bool false)], args := [d1, d2] }
  | _ => none }
def PathDeepWrongFalsely : Prop := pathDeepRow.holds Tryd.pinned (OpenSpec.ofChange pathDeepWrong)

/-- 'tidemarklaw6.PathBack': WHATEVER THE INPUT: true; the input reads as it did. -/
def pathBackSpec : ChangeSpec := { name := "pathBack", fn := fun _ => fun
  | [d1, d2, d3] => { results := [.lit (.bool true)], args := [d1, d2, d3] }
  | _ => none }
def pathBackRow : OpenClaim := { program := "ythjihdpleclejaadoor", sum := "06da567cfcc9c0e86d206c75b0346f9c1ba4cd693ff67b9105e4b70cf88039c0", func := "tidemark/tidemarklaw6.PathBack", spec := "pathBack", inPlace := ["internal/bytealg.CountString", "internal/bytealg.IndexByteString", "internal/bytealg.IndexString", "internal/bytealg.abigen_runtime_cmpstring", "slices.overlaps[tidemark/api.Field]"], unfollowed := true, recurses := true, named := ["unicode/utf8.first", "unicode/utf8.acceptRanges", "internal/bytealg.MaxLen"], loops := true, apart := false, laid := [("unicode/utf8.acceptRanges", laid_unicode_utf8_acceptRanges), ("unicode/utf8.first", laid_unicode_utf8_first)] }
def PathBackSaid : Prop := pathBackRow.holds Tryd.pinned (OpenSpec.ofChange pathBackSpec)

/-- ITS FALSE NEIGHBOUR: 'it returns false'. Refute it at one input. -/
def pathBackWrong : ChangeSpec := { name := "pathBack", fn := fun _ => fun
  | [d1, d2, d3] => { results := [.lit (.bool false)], args := [d1, d2, d3] }
  | _ => none }
def PathBackWrongFalsely : Prop := pathBackRow.holds Tryd.pinned (OpenSpec.ofChange pathBackWrong)

/-- 'tidemarklaw6.PathSums': WHATEVER THE INPUT: true; the input reads as it did. -/
def pathSumsSpec : ChangeSpec := { name := "pathSums", fn := fun _ => fun
  | [d1, d2, d3, d4, d5] => { results := [.lit (.bool true)], args := [d1, d2, d3, d4, d5] }
  | _ => none }
def pathSumsRow : OpenClaim := { program := "ythjihdpleclejaadoor", sum := "06da567cfcc9c0e86d206c75b0346f9c1ba4cd693ff67b9105e4b70cf88039c0", func := "tidemark/tidemarklaw6.PathSums", spec := "pathSums", inPlace := ["internal/bytealg.CountString", "internal/bytealg.IndexByteString", "internal/bytealg.IndexString", "internal/bytealg.abigen_runtime_cmpstring", "slices.overlaps[tidemark/api.Field]", "math/bits.Add64"], unfollowed := true, recurses := true, named := ["unicode/utf8.first", "unicode/utf8.acceptRanges", "internal/bytealg.MaxLen"], loops := true, apart := false, laid := [("unicode/utf8.acceptRanges", laid_unicode_utf8_acceptRanges), ("unicode/utf8.first", laid_unicode_utf8_first)] }
def PathSumsSaid : Prop := pathSumsRow.holds Tryd.pinned (OpenSpec.ofChange pathSumsSpec)

/-- ITS FALSE NEIGHBOUR: 'it returns false'. Refute it at one input. -/
def pathSumsWrong : ChangeSpec := { name := "pathSums", fn := fun _ => fun
  | [d1, d2, d3, d4, d5] => { results := [.lit (.bool false)], args := [d1, d2, d3, d4, d5] }
  | _ => none }
def PathSumsWrongFalsely : Prop := pathSumsRow.holds Tryd.pinned (OpenSpec.ofChange pathSumsWrong)

/-- 'tidemarklaw6.PathKnown': WHATEVER THE INPUT: true; the input reads as it did. -/
def pathKnownSpec : ChangeSpec := { name := "pathKnown", fn := fun _ => fun
  | [] => { results := [.lit (.bool true)], args := [] }
  | _ => none }
def pathKnownRow : OpenClaim := { program := "ythjihdpleclejaadoor", sum := "06da567cfcc9c0e86d206c75b0346f9c1ba4cd693ff67b9105e4b70cf88039c0", func := "tidemark/tidemarklaw6.PathKnown", spec := "pathKnown", inPlace := ["internal/bytealg.CountString", "internal/bytealg.IndexByteString", "internal/bytealg.IndexString", "internal/bytealg.abigen_runtime_cmpstring", "slices.overlaps[tidemark/api.Field]", "math/bits.Add64"], unfollowed := true, recurses := true, named := ["unicode/utf8.first", "unicode/utf8.acceptRanges", "internal/bytealg.MaxLen"], apart := false, laid := [("unicode/utf8.acceptRanges", laid_unicode_utf8_acceptRanges), ("unicode/utf8.first", laid_unicode_utf8_first)] }
def PathKnownSaid : Prop := pathKnownRow.holds Tryd.pinned (OpenSpec.ofChange pathKnownSpec)

/-- ITS FALSE NEIGHBOUR: 'it returns false'. Refute it at one input. -/
def pathKnownWrong : ChangeSpec := { name := "pathKnown", fn := fun _ => fun
  | [] => { results := [.lit (.bool false)], args := [] }
  | _ => none }
def PathKnownWrongFalsely : Prop := pathKnownRow.holds Tryd.pinned (OpenSpec.ofChange pathKnownWrong)

/- THE SECOND FORM. 'bulk': how many values and letters a reading holds, each counted each time it is reached (what is shared counts as often as it is met; a slice's spare places count too). A statement '..UptoSaid' is the law's where the arguments, and the package variables that the reading takes, are together of bulk at most 1048576: NARROWER than '..Said'. Prove '..Said' where nothing that the law and all that it calls make is longer than what came in: it says more and counts as full. Else prove '..UptoSaid'. A law counts once. -/
mutual
def uptoBulk {H : Type} : DataW H → Nat
  | .lit (.string bytes) => bytes.length + 1
  | .lit _ => 1
  | .nil => 1
  | .ptr d => uptoBulk d + 1
  | .slice elems spare => uptoBulkAll elems + uptoBulkAll spare + 1
  | .agg parts => uptoBulkAll parts + 1
  | .iface _ d => uptoBulk d + 1
  | .map entries => uptoBulkEntries entries + 1
  | .held _ => 1
def uptoBulkAll {H : Type} : List (DataW H) → Nat
  | [] => 0
  | d :: r => uptoBulk d + uptoBulkAll r
def uptoBulkEntries {H : Type} : List (Lit × DataW H) → Nat
  | [] => 0
  | x :: r => uptoBulkEntry x + uptoBulkEntries r
def uptoBulkEntry {H : Type} : Lit × DataW H → Nat
  | (.string bytes, d) => bytes.length + uptoBulk d + 1
  | (_, d) => uptoBulk d + 1
 end
def uptoSmall : (H : Type) → List (DataW H) → Bool := fun _ ds => decide (uptoBulkAll ds ≤ 1048576)
def OpenSpec.upto (s : _root_.Go.ChangeSpec) : _root_.Go.OpenSpec := { _root_.Go.OpenSpec.ofChange s with cond := some uptoSmall }

/-- 'tidemarklaw6.PathGets', WHERE WHAT IT READS IS OF BULK AT MOST 1048576: true; the input reads as it did. -/
def pathGetsUptoRow : OpenClaim := { program := "ythjihdpleclejaadoor", sum := "06da567cfcc9c0e86d206c75b0346f9c1ba4cd693ff67b9105e4b70cf88039c0", func := "tidemark/tidemarklaw6.PathGets", spec := "pathGets", inPlace := ["internal/bytealg.CountString", "internal/bytealg.IndexByteString", "internal/bytealg.IndexString", "internal/bytealg.abigen_runtime_cmpstring", "slices.overlaps[tidemark/api.Field]"], unfollowed := true, recurses := true, named := ["unicode/utf8.first", "unicode/utf8.acceptRanges", "internal/bytealg.MaxLen"], loops := true, apart := false, laid := [("unicode/utf8.acceptRanges", laid_unicode_utf8_acceptRanges), ("unicode/utf8.first", laid_unicode_utf8_first)], narrowed := true }
def PathGetsUptoSaid : Prop := pathGetsUptoRow.holds Tryd.pinned (OpenSpec.upto pathGetsSpec)

/-- 'tidemarklaw6.PathApart', WHERE WHAT IT READS IS OF BULK AT MOST 1048576: true; the input reads as it did. -/
def pathApartUptoRow : OpenClaim := { program := "ythjihdpleclejaadoor", sum := "06da567cfcc9c0e86d206c75b0346f9c1ba4cd693ff67b9105e4b70cf88039c0", func := "tidemark/tidemarklaw6.PathApart", spec := "pathApart", inPlace := ["internal/bytealg.CountString", "internal/bytealg.IndexByteString", "internal/bytealg.IndexString", "internal/bytealg.abigen_runtime_cmpstring", "slices.overlaps[tidemark/api.Field]"], unfollowed := true, recurses := true, named := ["unicode/utf8.first", "unicode/utf8.acceptRanges", "internal/bytealg.MaxLen"], loops := true, apart := false, laid := [("unicode/utf8.acceptRanges", laid_unicode_utf8_acceptRanges), ("unicode/utf8.first", laid_unicode_utf8_first)], narrowed := true }
def PathApartUptoSaid : Prop := pathApartUptoRow.holds Tryd.pinned (OpenSpec.upto pathApartSpec)

/-- 'tidemarklaw6.PathDeep', WHERE WHAT IT READS IS OF BULK AT MOST 1048576: true; the input reads as it did. -/
def pathDeepUptoRow : OpenClaim := { program := "ythjihdpleclejaadoor", sum := "06da567cfcc9c0e86d206c75b0346f9c1ba4cd693ff67b9105e4b70cf88039c0", func := "tidemark/tidemarklaw6.PathDeep", spec := "pathDeep", inPlace := ["internal/bytealg.CountString", "internal/bytealg.IndexByteString", "internal/bytealg.IndexString", "internal/bytealg.abigen_runtime_cmpstring", "slices.overlaps[tidemark/api.Field]"], unfollowed := true, recurses := true, named := ["unicode/utf8.first", "unicode/utf8.acceptRanges", "internal/bytealg.MaxLen"], loops := true, apart := false, laid := [("unicode/utf8.acceptRanges", laid_unicode_utf8_acceptRanges), ("unicode/utf8.first", laid_unicode_utf8_first)], narrowed := true }
def PathDeepUptoSaid : Prop := pathDeepUptoRow.holds Tryd.pinned (OpenSpec.upto pathDeepSpec)

/-- 'tidemarklaw6.PathBack', WHERE WHAT IT READS IS OF BULK AT MOST 1048576: true; the input reads as it did. -/
def pathBackUptoRow : OpenClaim := { program := "ythjihdpleclejaadoor", sum := "06da567cfcc9c0e86d206c75b0346f9c1ba4cd693ff67b9105e4b70cf88039c0", func := "tidemark/tidemarklaw6.PathBack", spec := "pathBack", inPlace := ["internal/bytealg.CountString", "internal/bytealg.IndexByteString", "internal/bytealg.IndexString", "internal/bytealg.abigen_runtime_cmpstring", "slices.overlaps[tidemark/api.Field]"], unfollowed := true, recurses := true, named := ["unicode/utf8.first", "unicode/utf8.acceptRanges", "internal/bytealg.MaxLen"], loops := true, apart := false, laid := [("unicode/utf8.acceptRanges", laid_unicode_utf8_acceptRanges), ("unicode/utf8.first", laid_unicode_utf8_first)], narrowed := true }
def PathBackUptoSaid : Prop := pathBackUptoRow.holds Tryd.pinned (OpenSpec.upto pathBackSpec)

/-- 'tidemarklaw6.PathSums', WHERE WHAT IT READS IS OF BULK AT MOST 1048576: true; the input reads as it did. -/
def pathSumsUptoRow : OpenClaim := { program := "ythjihdpleclejaadoor", sum := "06da567cfcc9c0e86d206c75b0346f9c1ba4cd693ff67b9105e4b70cf88039c0", func := "tidemark/tidemarklaw6.PathSums", spec := "pathSums", inPlace := ["internal/bytealg.CountString", "internal/bytealg.IndexByteString", "internal/bytealg.IndexString", "internal/bytealg.abigen_runtime_cmpstring", "slices.overlaps[tidemark/api.Field]", "math/bits.Add64"], unfollowed := true, recurses := true, named := ["unicode/utf8.first", "unicode/utf8.acceptRanges", "internal/bytealg.MaxLen"], loops := true, apart := false, laid := [("unicode/utf8.acceptRanges", laid_unicode_utf8_acceptRanges), ("unicode/utf8.first", laid_unicode_utf8_first)], narrowed := true }
def PathSumsUptoSaid : Prop := pathSumsUptoRow.holds Tryd.pinned (OpenSpec.upto pathSumsSpec)

/-- 'tidemarklaw6.PathKnown', WHERE WHAT IT READS IS OF BULK AT MOST 1048576: true; the input reads as it did. -/
def pathKnownUptoRow : OpenClaim := { program := "ythjihdpleclejaadoor", sum := "06da567cfcc9c0e86d206c75b0346f9c1ba4cd693ff67b9105e4b70cf88039c0", func := "tidemark/tidemarklaw6.PathKnown", spec := "pathKnown", inPlace := ["internal/bytealg.CountString", "internal/bytealg.IndexByteString", "internal/bytealg.IndexString", "internal/bytealg.abigen_runtime_cmpstring", "slices.overlaps[tidemark/api.Field]", "math/bits.Add64"], unfollowed := true, recurses := true, named := ["unicode/utf8.first", "unicode/utf8.acceptRanges", "internal/bytealg.MaxLen"], apart := false, laid := [("unicode/utf8.acceptRanges", laid_unicode_utf8_acceptRanges), ("unicode/utf8.first", laid_unicode_utf8_first)], narrowed := true }
def PathKnownUptoSaid : Prop := pathKnownUptoRow.holds Tryd.pinned (OpenSpec.upto pathKnownSpec)

end Rows
end Go.Proofs.YthjihdpleclejaaDoor
