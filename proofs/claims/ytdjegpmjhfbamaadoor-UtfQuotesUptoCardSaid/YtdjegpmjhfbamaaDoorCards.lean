/-
  DERIVED. GIVEN WITH THE SEED: THE CARDS: each row of YtdjegpmjhfbamaaDoorRows.lean that lists a variable, with what it lists TIED to the program's text (the seventh form; the later family's looks); each row that meets fmt, with fmt's text TOLD by the authors' own Lean function (tested against real Go, not proved from fmt's source: count such statements apart). THE CARD IS WHAT COUNTS. Prove the row's statement (the work); the ties are given (YtdjegpmjhfbamaaDoorTie.lean); close each card by the builder's one call (the guide's Derived/Test/ToyasCard.lean, 'card_holds'). Laid BY PROGRAM, IN A SANDBOX (cutbox-door.mjs). By AI agents, Wed Nov 11 2026. No macro, syntax, notation, axiom, sorry.
-/
import Derived.Test.YtdjegpmjhfbamaaDoorRows
import GoSem.ClaimSeven
namespace Go.Proofs.YtdjegpmjhfbamaaDoor
namespace Rows

/-- THE TIED CARD OF 'tidemarklaw1.UtfQuotes'. -/
def utfQuotesCard : Claim7 := { stood := { row := utfQuotesRow, standIns := [], harness := (true, "8121152ff5f0692e80cb3d5fcb7847d6889e59ae51feb3de7919e3bf9dc4c394"), looks := false }, kinds := [], alts := [], laidByText := true, laidKinds := [.data, .pinned], laidTests := true, laidLooks := .later }
def UtfQuotesCardSaid : Prop := Claim7.holds Tryd.pinned (.plain (OpenSpec.ofChange utfQuotesSpec)) utfQuotesCard

/-- THE TIED CARD OF 'tidemarklaw1.UtfOrders'. -/
def utfOrdersCard : Claim7 := { stood := { row := utfOrdersRow, standIns := [], harness := (true, "8121152ff5f0692e80cb3d5fcb7847d6889e59ae51feb3de7919e3bf9dc4c394"), looks := false }, kinds := [], alts := [], laidByText := true, laidKinds := [.data, .pinned], laidTests := true, laidLooks := .later }
def UtfOrdersCardSaid : Prop := Claim7.holds Tryd.pinned (.plain (OpenSpec.ofChange utfOrdersSpec)) utfOrdersCard

/-- THE TIED CARD OF 'tidemarklaw1.UtfBack'. -/
def utfBackCard : Claim7 := { stood := { row := utfBackRow, standIns := [], harness := (true, "8121152ff5f0692e80cb3d5fcb7847d6889e59ae51feb3de7919e3bf9dc4c394"), looks := false }, kinds := [], alts := [], laidByText := true, laidKinds := [.data, .pinned], laidTests := true, laidLooks := .later }
def UtfBackCardSaid : Prop := Claim7.holds Tryd.pinned (.plain (OpenSpec.ofChange utfBackSpec)) utfBackCard

/-- THE TIED CARD OF 'tidemarklaw1.UtfKept'. -/
def utfKeptCard : Claim7 := { stood := { row := utfKeptRow, standIns := [], harness := (true, "8121152ff5f0692e80cb3d5fcb7847d6889e59ae51feb3de7919e3bf9dc4c394"), looks := false }, kinds := [], alts := [], laidByText := true, laidKinds := [.data, .pinned], laidTests := true, laidLooks := .later }
def UtfKeptCardSaid : Prop := Claim7.holds Tryd.pinned (.plain (OpenSpec.ofChange utfKeptSpec)) utfKeptCard

/-- THE TIED CARD OF 'tidemarklaw1.UtfRunes'. -/
def utfRunesCard : Claim7 := { stood := { row := utfRunesRow, standIns := [], harness := (true, "8121152ff5f0692e80cb3d5fcb7847d6889e59ae51feb3de7919e3bf9dc4c394"), looks := false }, kinds := [], alts := [], laidByText := true, laidKinds := [.data, .pinned], laidTests := true, laidLooks := .later }
def UtfRunesCardSaid : Prop := Claim7.holds Tryd.pinned (.plain (OpenSpec.ofChange utfRunesSpec)) utfRunesCard

/-- THE TIED CARD OF 'tidemarklaw1.UtfParts'. -/
def utfPartsCard : Claim7 := { stood := { row := utfPartsRow, standIns := [], harness := (true, "8121152ff5f0692e80cb3d5fcb7847d6889e59ae51feb3de7919e3bf9dc4c394"), looks := false }, kinds := [], alts := [], laidByText := true, laidKinds := [.data, .pinned], laidTests := true, laidLooks := .later }
def UtfPartsCardSaid : Prop := Claim7.holds Tryd.pinned (.plain (OpenSpec.ofChange utfPartsSpec)) utfPartsCard

/-- THE TIED CARD OF 'tidemarklaw1.UtfCuts'. -/
def utfCutsCard : Claim7 := { stood := { row := utfCutsRow, standIns := [], harness := (true, "8121152ff5f0692e80cb3d5fcb7847d6889e59ae51feb3de7919e3bf9dc4c394"), looks := false }, kinds := [], alts := [], laidByText := true, laidKinds := [.data, .pinned], laidTests := true, laidLooks := .later }
def UtfCutsCardSaid : Prop := Claim7.holds Tryd.pinned (.plain (OpenSpec.ofChange utfCutsSpec)) utfCutsCard

/-- THE TIED CARD OF 'tidemarklaw1.UtfKnown'. -/
def utfKnownCard : Claim7 := { stood := { row := utfKnownRow, standIns := [], harness := (true, "8121152ff5f0692e80cb3d5fcb7847d6889e59ae51feb3de7919e3bf9dc4c394"), looks := false }, kinds := [], alts := [], laidByText := true, laidKinds := [.data, .pinned], laidTests := true, laidLooks := .later }
def UtfKnownCardSaid : Prop := Claim7.holds Tryd.pinned (.plain (OpenSpec.ofChange utfKnownSpec)) utfKnownCard

/-- THE TIED CARD OF 'tidemarklaw2.ValueLimits'. -/
def valueLimitsCard : Claim7 := { stood := { row := valueLimitsRow, standIns := [], harness := (true, "8121152ff5f0692e80cb3d5fcb7847d6889e59ae51feb3de7919e3bf9dc4c394"), looks := false }, kinds := [], alts := [], laidByText := true, laidKinds := [.data, .pinned], laidTests := true, laidLooks := .later }
def ValueLimitsCardSaid : Prop := Claim7.holds Tryd.pinned (.plain (OpenSpec.ofChange valueLimitsSpec)) valueLimitsCard

/-- THE TIED CARD OF 'tidemarklaw2.ValueGood'. -/
def valueGoodCard : Claim7 := { stood := { row := valueGoodRow, standIns := [], harness := (true, "8121152ff5f0692e80cb3d5fcb7847d6889e59ae51feb3de7919e3bf9dc4c394"), looks := false }, kinds := [], alts := [], laidByText := true, laidKinds := [.data, .pinned], laidTests := true, laidLooks := .later }
def ValueGoodCardSaid : Prop := Claim7.holds Tryd.pinned (.plain (OpenSpec.ofChange valueGoodSpec)) valueGoodCard

/-- THE TIED CARD OF 'tidemarklaw2.ValueOrders'. -/
def valueOrdersCard : Claim7 := { stood := { row := valueOrdersRow, standIns := [], harness := (true, "8121152ff5f0692e80cb3d5fcb7847d6889e59ae51feb3de7919e3bf9dc4c394"), looks := false }, kinds := [], alts := [], laidByText := true, laidKinds := [.data, .pinned], laidTests := true, laidLooks := .later }
def ValueOrdersCardSaid : Prop := Claim7.holds Tryd.pinned (.plain (OpenSpec.ofChange valueOrdersSpec)) valueOrdersCard

/-- THE TIED CARD OF 'tidemarklaw2.ValueChain'. -/
def valueChainCard : Claim7 := { stood := { row := valueChainRow, standIns := [], harness := (true, "8121152ff5f0692e80cb3d5fcb7847d6889e59ae51feb3de7919e3bf9dc4c394"), looks := false }, kinds := [], alts := [], laidByText := true, laidKinds := [.data, .pinned], laidTests := true, laidLooks := .later }
def ValueChainCardSaid : Prop := Claim7.holds Tryd.pinned (.plain (OpenSpec.ofChange valueChainSpec)) valueChainCard

/-- THE TIED CARD OF 'tidemarklaw2.ValueKnown'. -/
def valueKnownCard : Claim7 := { stood := { row := valueKnownRow, standIns := [], harness := (true, "8121152ff5f0692e80cb3d5fcb7847d6889e59ae51feb3de7919e3bf9dc4c394"), looks := false }, kinds := [], alts := [], laidByText := true, laidKinds := [.data, .pinned], laidTests := true, laidLooks := .later }
def ValueKnownCardSaid : Prop := Claim7.holds Tryd.pinned (.plain (OpenSpec.ofChange valueKnownSpec)) valueKnownCard

/-- THE TIED CARD OF 'tidemarklaw2.ValueDocs'. -/
def valueDocsCard : Claim7 := { stood := { row := valueDocsRow, standIns := [], harness := (true, "8121152ff5f0692e80cb3d5fcb7847d6889e59ae51feb3de7919e3bf9dc4c394"), looks := false }, kinds := [], alts := [], laidByText := true, laidKinds := [.data, .pinned], laidTests := true, laidLooks := .later }
def ValueDocsCardSaid : Prop := Claim7.holds Tryd.pinned (.plain (OpenSpec.ofChange valueDocsSpec)) valueDocsCard

/-- THE SECOND FORM's CARD OF 'tidemarklaw1.UtfQuotes'. -/
def utfQuotesUptoCard : Claim7 := { stood := { row := utfQuotesUptoRow, standIns := [], harness := (true, "8121152ff5f0692e80cb3d5fcb7847d6889e59ae51feb3de7919e3bf9dc4c394"), looks := false }, kinds := [], alts := [], laidByText := true, laidKinds := [.data, .pinned], laidTests := true, laidLooks := .later }
def UtfQuotesUptoCardSaid : Prop := Claim7.holds Tryd.pinned (.plain (OpenSpec.upto utfQuotesSpec)) utfQuotesUptoCard

/-- THE SECOND FORM's CARD OF 'tidemarklaw1.UtfOrders'. -/
def utfOrdersUptoCard : Claim7 := { stood := { row := utfOrdersUptoRow, standIns := [], harness := (true, "8121152ff5f0692e80cb3d5fcb7847d6889e59ae51feb3de7919e3bf9dc4c394"), looks := false }, kinds := [], alts := [], laidByText := true, laidKinds := [.data, .pinned], laidTests := true, laidLooks := .later }
def UtfOrdersUptoCardSaid : Prop := Claim7.holds Tryd.pinned (.plain (OpenSpec.upto utfOrdersSpec)) utfOrdersUptoCard

/-- THE SECOND FORM's CARD OF 'tidemarklaw1.UtfBack'. -/
def utfBackUptoCard : Claim7 := { stood := { row := utfBackUptoRow, standIns := [], harness := (true, "8121152ff5f0692e80cb3d5fcb7847d6889e59ae51feb3de7919e3bf9dc4c394"), looks := false }, kinds := [], alts := [], laidByText := true, laidKinds := [.data, .pinned], laidTests := true, laidLooks := .later }
def UtfBackUptoCardSaid : Prop := Claim7.holds Tryd.pinned (.plain (OpenSpec.upto utfBackSpec)) utfBackUptoCard

/-- THE SECOND FORM's CARD OF 'tidemarklaw1.UtfKept'. -/
def utfKeptUptoCard : Claim7 := { stood := { row := utfKeptUptoRow, standIns := [], harness := (true, "8121152ff5f0692e80cb3d5fcb7847d6889e59ae51feb3de7919e3bf9dc4c394"), looks := false }, kinds := [], alts := [], laidByText := true, laidKinds := [.data, .pinned], laidTests := true, laidLooks := .later }
def UtfKeptUptoCardSaid : Prop := Claim7.holds Tryd.pinned (.plain (OpenSpec.upto utfKeptSpec)) utfKeptUptoCard

/-- THE SECOND FORM's CARD OF 'tidemarklaw1.UtfRunes'. -/
def utfRunesUptoCard : Claim7 := { stood := { row := utfRunesUptoRow, standIns := [], harness := (true, "8121152ff5f0692e80cb3d5fcb7847d6889e59ae51feb3de7919e3bf9dc4c394"), looks := false }, kinds := [], alts := [], laidByText := true, laidKinds := [.data, .pinned], laidTests := true, laidLooks := .later }
def UtfRunesUptoCardSaid : Prop := Claim7.holds Tryd.pinned (.plain (OpenSpec.upto utfRunesSpec)) utfRunesUptoCard

/-- THE SECOND FORM's CARD OF 'tidemarklaw1.UtfParts'. -/
def utfPartsUptoCard : Claim7 := { stood := { row := utfPartsUptoRow, standIns := [], harness := (true, "8121152ff5f0692e80cb3d5fcb7847d6889e59ae51feb3de7919e3bf9dc4c394"), looks := false }, kinds := [], alts := [], laidByText := true, laidKinds := [.data, .pinned], laidTests := true, laidLooks := .later }
def UtfPartsUptoCardSaid : Prop := Claim7.holds Tryd.pinned (.plain (OpenSpec.upto utfPartsSpec)) utfPartsUptoCard

/-- THE SECOND FORM's CARD OF 'tidemarklaw1.UtfCuts'. -/
def utfCutsUptoCard : Claim7 := { stood := { row := utfCutsUptoRow, standIns := [], harness := (true, "8121152ff5f0692e80cb3d5fcb7847d6889e59ae51feb3de7919e3bf9dc4c394"), looks := false }, kinds := [], alts := [], laidByText := true, laidKinds := [.data, .pinned], laidTests := true, laidLooks := .later }
def UtfCutsUptoCardSaid : Prop := Claim7.holds Tryd.pinned (.plain (OpenSpec.upto utfCutsSpec)) utfCutsUptoCard

/-- THE SECOND FORM's CARD OF 'tidemarklaw1.UtfKnown'. -/
def utfKnownUptoCard : Claim7 := { stood := { row := utfKnownUptoRow, standIns := [], harness := (true, "8121152ff5f0692e80cb3d5fcb7847d6889e59ae51feb3de7919e3bf9dc4c394"), looks := false }, kinds := [], alts := [], laidByText := true, laidKinds := [.data, .pinned], laidTests := true, laidLooks := .later }
def UtfKnownUptoCardSaid : Prop := Claim7.holds Tryd.pinned (.plain (OpenSpec.upto utfKnownSpec)) utfKnownUptoCard

/-- THE SECOND FORM's CARD OF 'tidemarklaw2.ValueLimits'. -/
def valueLimitsUptoCard : Claim7 := { stood := { row := valueLimitsUptoRow, standIns := [], harness := (true, "8121152ff5f0692e80cb3d5fcb7847d6889e59ae51feb3de7919e3bf9dc4c394"), looks := false }, kinds := [], alts := [], laidByText := true, laidKinds := [.data, .pinned], laidTests := true, laidLooks := .later }
def ValueLimitsUptoCardSaid : Prop := Claim7.holds Tryd.pinned (.plain (OpenSpec.upto valueLimitsSpec)) valueLimitsUptoCard

/-- THE SECOND FORM's CARD OF 'tidemarklaw2.ValueGood'. -/
def valueGoodUptoCard : Claim7 := { stood := { row := valueGoodUptoRow, standIns := [], harness := (true, "8121152ff5f0692e80cb3d5fcb7847d6889e59ae51feb3de7919e3bf9dc4c394"), looks := false }, kinds := [], alts := [], laidByText := true, laidKinds := [.data, .pinned], laidTests := true, laidLooks := .later }
def ValueGoodUptoCardSaid : Prop := Claim7.holds Tryd.pinned (.plain (OpenSpec.upto valueGoodSpec)) valueGoodUptoCard

/-- THE SECOND FORM's CARD OF 'tidemarklaw2.ValueOrders'. -/
def valueOrdersUptoCard : Claim7 := { stood := { row := valueOrdersUptoRow, standIns := [], harness := (true, "8121152ff5f0692e80cb3d5fcb7847d6889e59ae51feb3de7919e3bf9dc4c394"), looks := false }, kinds := [], alts := [], laidByText := true, laidKinds := [.data, .pinned], laidTests := true, laidLooks := .later }
def ValueOrdersUptoCardSaid : Prop := Claim7.holds Tryd.pinned (.plain (OpenSpec.upto valueOrdersSpec)) valueOrdersUptoCard

/-- THE SECOND FORM's CARD OF 'tidemarklaw2.ValueChain'. -/
def valueChainUptoCard : Claim7 := { stood := { row := valueChainUptoRow, standIns := [], harness := (true, "8121152ff5f0692e80cb3d5fcb7847d6889e59ae51feb3de7919e3bf9dc4c394"), looks := false }, kinds := [], alts := [], laidByText := true, laidKinds := [.data, .pinned], laidTests := true, laidLooks := .later }
def ValueChainUptoCardSaid : Prop := Claim7.holds Tryd.pinned (.plain (OpenSpec.upto valueChainSpec)) valueChainUptoCard

/-- THE SECOND FORM's CARD OF 'tidemarklaw2.ValueKnown'. -/
def valueKnownUptoCard : Claim7 := { stood := { row := valueKnownUptoRow, standIns := [], harness := (true, "8121152ff5f0692e80cb3d5fcb7847d6889e59ae51feb3de7919e3bf9dc4c394"), looks := false }, kinds := [], alts := [], laidByText := true, laidKinds := [.data, .pinned], laidTests := true, laidLooks := .later }
def ValueKnownUptoCardSaid : Prop := Claim7.holds Tryd.pinned (.plain (OpenSpec.upto valueKnownSpec)) valueKnownUptoCard

/-- THE SECOND FORM's CARD OF 'tidemarklaw2.ValueDocs'. -/
def valueDocsUptoCard : Claim7 := { stood := { row := valueDocsUptoRow, standIns := [], harness := (true, "8121152ff5f0692e80cb3d5fcb7847d6889e59ae51feb3de7919e3bf9dc4c394"), looks := false }, kinds := [], alts := [], laidByText := true, laidKinds := [.data, .pinned], laidTests := true, laidLooks := .later }
def ValueDocsUptoCardSaid : Prop := Claim7.holds Tryd.pinned (.plain (OpenSpec.upto valueDocsSpec)) valueDocsUptoCard
end Rows
end Go.Proofs.YtdjegpmjhfbamaaDoor
