/-
  DERIVED. GIVEN WITH THE SEED: THE CARDS: each row of YtckdgmjekfpcjaaDoorRows.lean that lists a variable, with what it lists TIED to the program's text (the seventh form; the later family's looks); each row that meets fmt, with fmt's text TOLD by the authors' own Lean function (tested against real Go, not proved from fmt's source: count such statements apart). THE CARD IS WHAT COUNTS. Prove the row's statement (the work); the ties are given (YtckdgmjekfpcjaaDoorTie.lean); close each card by the builder's one call (the guide's Derived/Test/ToyasCard.lean, 'card_holds'). Laid BY PROGRAM, IN A SANDBOX (cutbox-door.mjs). By AI agents, Wed Nov 11 2026. No macro, syntax, notation, axiom, sorry.
-/
import Derived.Test.YtckdgmjekfpcjaaDoorRows
import GoSem.ClaimSeven
namespace Go.Proofs.YtckdgmjekfpcjaaDoor
namespace Rows

/-- THE TIED CARD OF 'tidemarklaw2.ValueDocs'. -/
def valueDocsCard : Claim7 := { stood := { row := valueDocsRow, standIns := [], harness := (true, "e18fb8f6eb47bc31dfc19d8636e5f4a04733597c255ec7b453e76263157a468b"), looks := false }, kinds := [], alts := [], laidByText := true, laidKinds := [.data, .pinned], laidTests := true, laidLooks := .later }
def ValueDocsCardSaid : Prop := Claim7.holds Tryd.pinned (.plain (OpenSpec.ofChange valueDocsSpec)) valueDocsCard

/-- THE SECOND FORM's CARD OF 'tidemarklaw2.ValueDocs'. -/
def valueDocsUptoCard : Claim7 := { stood := { row := valueDocsUptoRow, standIns := [], harness := (true, "e18fb8f6eb47bc31dfc19d8636e5f4a04733597c255ec7b453e76263157a468b"), looks := false }, kinds := [], alts := [], laidByText := true, laidKinds := [.data, .pinned], laidTests := true, laidLooks := .later }
def ValueDocsUptoCardSaid : Prop := Claim7.holds Tryd.pinned (.plain (OpenSpec.upto valueDocsSpec)) valueDocsUptoCard
end Rows
end Go.Proofs.YtckdgmjekfpcjaaDoor
