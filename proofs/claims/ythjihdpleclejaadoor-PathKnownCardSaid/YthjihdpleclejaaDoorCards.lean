/-
  DERIVED. GIVEN WITH THE SEED: THE CARDS: each row of YthjihdpleclejaaDoorRows.lean that lists a variable, with what it lists TIED to the program's text (the seventh form; the later family's looks); each row that meets fmt, with fmt's text TOLD by the authors' own Lean function (tested against real Go, not proved from fmt's source: count such statements apart). THE CARD IS WHAT COUNTS. Prove the row's statement (the work); the ties are given (YthjihdpleclejaaDoorTie.lean); close each card by the builder's one call (the guide's Derived/Test/ToyasCard.lean, 'card_holds'). Laid BY PROGRAM, IN A SANDBOX (cutbox-door.mjs). By AI agents, Wed Nov 11 2026. No macro, syntax, notation, axiom, sorry.
-/
import Derived.Test.YthjihdpleclejaaDoorRows
import GoSem.ClaimSeven
namespace Go.Proofs.YthjihdpleclejaaDoor
namespace Rows

/-- THE TIED CARD OF 'tidemarklaw6.PathGets'. -/
def pathGetsCard : Claim7 := { stood := { row := pathGetsRow, standIns := [], harness := (true, "8f250a9f11fb0b54a528eb1d6d3b2fe3a987c38cdf60976f3e82ea97ed0dfd39"), looks := false }, kinds := [], alts := [], laidByText := true, laidKinds := [.data, .pinned], laidTests := true, laidLooks := .later }
def PathGetsCardSaid : Prop := Claim7.holds Tryd.pinned (.plain (OpenSpec.ofChange pathGetsSpec)) pathGetsCard

/-- THE TIED CARD OF 'tidemarklaw6.PathApart'. -/
def pathApartCard : Claim7 := { stood := { row := pathApartRow, standIns := [], harness := (true, "8f250a9f11fb0b54a528eb1d6d3b2fe3a987c38cdf60976f3e82ea97ed0dfd39"), looks := false }, kinds := [], alts := [], laidByText := true, laidKinds := [.data, .pinned], laidTests := true, laidLooks := .later }
def PathApartCardSaid : Prop := Claim7.holds Tryd.pinned (.plain (OpenSpec.ofChange pathApartSpec)) pathApartCard

/-- THE TIED CARD OF 'tidemarklaw6.PathDeep'. -/
def pathDeepCard : Claim7 := { stood := { row := pathDeepRow, standIns := [], harness := (true, "8f250a9f11fb0b54a528eb1d6d3b2fe3a987c38cdf60976f3e82ea97ed0dfd39"), looks := false }, kinds := [], alts := [], laidByText := true, laidKinds := [.data, .pinned], laidTests := true, laidLooks := .later }
def PathDeepCardSaid : Prop := Claim7.holds Tryd.pinned (.plain (OpenSpec.ofChange pathDeepSpec)) pathDeepCard

/-- THE TIED CARD OF 'tidemarklaw6.PathBack'. -/
def pathBackCard : Claim7 := { stood := { row := pathBackRow, standIns := [], harness := (true, "8f250a9f11fb0b54a528eb1d6d3b2fe3a987c38cdf60976f3e82ea97ed0dfd39"), looks := false }, kinds := [], alts := [], laidByText := true, laidKinds := [.data, .pinned], laidTests := true, laidLooks := .later }
def PathBackCardSaid : Prop := Claim7.holds Tryd.pinned (.plain (OpenSpec.ofChange pathBackSpec)) pathBackCard

/-- THE TIED CARD OF 'tidemarklaw6.PathSums'. -/
def pathSumsCard : Claim7 := { stood := { row := pathSumsRow, standIns := [], harness := (true, "8f250a9f11fb0b54a528eb1d6d3b2fe3a987c38cdf60976f3e82ea97ed0dfd39"), looks := false }, kinds := [], alts := [], laidByText := true, laidKinds := [.data, .pinned], laidTests := true, laidLooks := .later }
def PathSumsCardSaid : Prop := Claim7.holds Tryd.pinned (.plain (OpenSpec.ofChange pathSumsSpec)) pathSumsCard

/-- THE TIED CARD OF 'tidemarklaw6.PathKnown'. -/
def pathKnownCard : Claim7 := { stood := { row := pathKnownRow, standIns := [], harness := (true, "8f250a9f11fb0b54a528eb1d6d3b2fe3a987c38cdf60976f3e82ea97ed0dfd39"), looks := false }, kinds := [], alts := [], laidByText := true, laidKinds := [.data, .pinned], laidTests := true, laidLooks := .later }
def PathKnownCardSaid : Prop := Claim7.holds Tryd.pinned (.plain (OpenSpec.ofChange pathKnownSpec)) pathKnownCard

/-- THE SECOND FORM's CARD OF 'tidemarklaw6.PathGets'. -/
def pathGetsUptoCard : Claim7 := { stood := { row := pathGetsUptoRow, standIns := [], harness := (true, "8f250a9f11fb0b54a528eb1d6d3b2fe3a987c38cdf60976f3e82ea97ed0dfd39"), looks := false }, kinds := [], alts := [], laidByText := true, laidKinds := [.data, .pinned], laidTests := true, laidLooks := .later }
def PathGetsUptoCardSaid : Prop := Claim7.holds Tryd.pinned (.plain (OpenSpec.upto pathGetsSpec)) pathGetsUptoCard

/-- THE SECOND FORM's CARD OF 'tidemarklaw6.PathApart'. -/
def pathApartUptoCard : Claim7 := { stood := { row := pathApartUptoRow, standIns := [], harness := (true, "8f250a9f11fb0b54a528eb1d6d3b2fe3a987c38cdf60976f3e82ea97ed0dfd39"), looks := false }, kinds := [], alts := [], laidByText := true, laidKinds := [.data, .pinned], laidTests := true, laidLooks := .later }
def PathApartUptoCardSaid : Prop := Claim7.holds Tryd.pinned (.plain (OpenSpec.upto pathApartSpec)) pathApartUptoCard

/-- THE SECOND FORM's CARD OF 'tidemarklaw6.PathDeep'. -/
def pathDeepUptoCard : Claim7 := { stood := { row := pathDeepUptoRow, standIns := [], harness := (true, "8f250a9f11fb0b54a528eb1d6d3b2fe3a987c38cdf60976f3e82ea97ed0dfd39"), looks := false }, kinds := [], alts := [], laidByText := true, laidKinds := [.data, .pinned], laidTests := true, laidLooks := .later }
def PathDeepUptoCardSaid : Prop := Claim7.holds Tryd.pinned (.plain (OpenSpec.upto pathDeepSpec)) pathDeepUptoCard

/-- THE SECOND FORM's CARD OF 'tidemarklaw6.PathBack'. -/
def pathBackUptoCard : Claim7 := { stood := { row := pathBackUptoRow, standIns := [], harness := (true, "8f250a9f11fb0b54a528eb1d6d3b2fe3a987c38cdf60976f3e82ea97ed0dfd39"), looks := false }, kinds := [], alts := [], laidByText := true, laidKinds := [.data, .pinned], laidTests := true, laidLooks := .later }
def PathBackUptoCardSaid : Prop := Claim7.holds Tryd.pinned (.plain (OpenSpec.upto pathBackSpec)) pathBackUptoCard

/-- THE SECOND FORM's CARD OF 'tidemarklaw6.PathSums'. -/
def pathSumsUptoCard : Claim7 := { stood := { row := pathSumsUptoRow, standIns := [], harness := (true, "8f250a9f11fb0b54a528eb1d6d3b2fe3a987c38cdf60976f3e82ea97ed0dfd39"), looks := false }, kinds := [], alts := [], laidByText := true, laidKinds := [.data, .pinned], laidTests := true, laidLooks := .later }
def PathSumsUptoCardSaid : Prop := Claim7.holds Tryd.pinned (.plain (OpenSpec.upto pathSumsSpec)) pathSumsUptoCard

/-- THE SECOND FORM's CARD OF 'tidemarklaw6.PathKnown'. -/
def pathKnownUptoCard : Claim7 := { stood := { row := pathKnownUptoRow, standIns := [], harness := (true, "8f250a9f11fb0b54a528eb1d6d3b2fe3a987c38cdf60976f3e82ea97ed0dfd39"), looks := false }, kinds := [], alts := [], laidByText := true, laidKinds := [.data, .pinned], laidTests := true, laidLooks := .later }
def PathKnownUptoCardSaid : Prop := Claim7.holds Tryd.pinned (.plain (OpenSpec.upto pathKnownSpec)) pathKnownUptoCard
end Rows
end Go.Proofs.YthjihdpleclejaaDoor
