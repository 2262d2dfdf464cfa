/-
  DERIVED. GIVEN WITH THE SEED: THE CARDS: each row of YthjihdpleclejaaGreatDoorRows.lean that lists a variable, with what it lists TIED to the program's text (the seventh form; the later family's looks); each row that meets fmt, with fmt's text TOLD by the authors' own Lean function (tested against real Go, not proved from fmt's source: count such statements apart). THE CARD IS WHAT COUNTS. Prove the row's statement (the work); the ties are given (YthjihdpleclejaaGreatDoorTie.lean); close each card by the builder's one call (the guide's Derived/Test/ToyasCard.lean, 'card_holds'). Laid BY PROGRAM, IN A SANDBOX (cutbox-door.mjs). By AI agents, Wed Nov 11 2026. No macro, syntax, notation, axiom, sorry.
-/
import Derived.Test.YthjihdpleclejaaGreatDoorRows
import GoSem.ClaimSeven
namespace Go.Proofs.YthjihdpleclejaaGreatDoor
namespace Rows

/-- THE TIED CARD OF 'tidemarklaw6.PathKept'. -/
def pathKeptCard : Claim7 := { stood := { row := pathKeptRow, standIns := [], harness := (true, "cf78a2b97bc1984f8dd0e6934ebfb5e1c7170db4cd8cd0f059541313ae1c3ac7"), looks := false }, kinds := [], alts := [], laidByText := true, laidKinds := [.data, .pinned], laidTests := true, laidLooks := .later }
def PathKeptCardSaid : Prop := Claim7.holds Tryz.pinned (.plain (OpenSpec.ofChange pathKeptSpec)) pathKeptCard

/-- THE TIED CARD OF 'tidemarklaw6.PathChanges'. -/
def pathChangesCard : Claim7 := { stood := { row := pathChangesRow, standIns := [], harness := (true, "cf78a2b97bc1984f8dd0e6934ebfb5e1c7170db4cd8cd0f059541313ae1c3ac7"), looks := false }, kinds := [], alts := [], laidByText := true, laidKinds := [.data, .pinned], laidTests := true, laidLooks := .later }
def PathChangesCardSaid : Prop := Claim7.holds Tryz.pinned (.plain (OpenSpec.ofChange pathChangesSpec)) pathChangesCard

/-- THE SECOND FORM's CARD OF 'tidemarklaw6.PathKept'. -/
def pathKeptUptoCard : Claim7 := { stood := { row := pathKeptUptoRow, standIns := [], harness := (true, "cf78a2b97bc1984f8dd0e6934ebfb5e1c7170db4cd8cd0f059541313ae1c3ac7"), looks := false }, kinds := [], alts := [], laidByText := true, laidKinds := [.data, .pinned], laidTests := true, laidLooks := .later }
def PathKeptUptoCardSaid : Prop := Claim7.holds Tryz.pinned (.plain (OpenSpec.upto pathKeptSpec)) pathKeptUptoCard

/-- THE SECOND FORM's CARD OF 'tidemarklaw6.PathChanges'. -/
def pathChangesUptoCard : Claim7 := { stood := { row := pathChangesUptoRow, standIns := [], harness := (true, "cf78a2b97bc1984f8dd0e6934ebfb5e1c7170db4cd8cd0f059541313ae1c3ac7"), looks := false }, kinds := [], alts := [], laidByText := true, laidKinds := [.data, .pinned], laidTests := true, laidLooks := .later }
def PathChangesUptoCardSaid : Prop := Claim7.holds Tryz.pinned (.plain (OpenSpec.upto pathChangesSpec)) pathChangesUptoCard
end Rows
end Go.Proofs.YthjihdpleclejaaGreatDoor
