/-
  DERIVED. GIVEN WITH THE SEED: THE CARDS: each row of YtihcegakghmdfaaDoorRows.lean that lists a variable, with what it lists TIED to the program's text (the seventh form; the later family's looks); each row that meets fmt, with fmt's text TOLD by the authors' own Lean function (tested against real Go, not proved from fmt's source: count such statements apart). THE CARD IS WHAT COUNTS. Prove the row's statement (the work); the ties are given (YtihcegakghmdfaaDoorTie.lean); close each card by the builder's one call (the guide's Derived/Test/ToyasCard.lean, 'card_holds'). Laid BY PROGRAM, IN A SANDBOX (cutbox-door.mjs). By AI agents, Wed Nov 11 2026. No macro, syntax, notation, axiom, sorry.
-/
import Derived.Test.YtihcegakghmdfaaDoorRows
import GoSem.ClaimSeven
namespace Go.Proofs.YtihcegakghmdfaaDoor
namespace Rows

/-- THE TIED CARD OF 'tidemarklaw5.KeySingle'. -/
def keySingleCard : Claim7 := { stood := { row := keySingleRow, standIns := [], harness := (true, "59af7060b1d960908ca5d8171cb76539c1ae6c246bb7e003e40d7b01003aeb03"), looks := true }, kinds := [], alts := [], laidByText := true, laidKinds := [.data, .pinned], laidTests := true, laidLooks := .later }
def KeySingleCardSaid : Prop := Claim7.holds Tryd.pinned (.plain (OpenSpec.ofChange keySingleSpec)) keySingleCard

/-- THE TIED CARD OF 'tidemarklaw3.CodecValues'. -/
def codecValuesCard : Claim7 := { stood := { row := codecValuesRow, standIns := [], harness := (true, "59af7060b1d960908ca5d8171cb76539c1ae6c246bb7e003e40d7b01003aeb03"), looks := true }, kinds := [], alts := [], laidByText := true, laidKinds := [.data, .pinned], laidTests := true, laidLooks := .later }
def CodecValuesCardSaid : Prop := Claim7.holds Tryd.pinned (.plain (OpenSpec.ofChange codecValuesSpec)) codecValuesCard

/-- THE TIED CARD OF 'tidemarklaw3.CodecKept'. -/
def codecKeptCard : Claim7 := { stood := { row := codecKeptRow, standIns := [], harness := (true, "59af7060b1d960908ca5d8171cb76539c1ae6c246bb7e003e40d7b01003aeb03"), looks := true }, kinds := [], alts := [], laidByText := true, laidKinds := [.data, .pinned], laidTests := true, laidLooks := .later }
def CodecKeptCardSaid : Prop := Claim7.holds Tryd.pinned (.plain (OpenSpec.ofChange codecKeptSpec)) codecKeptCard

/-- THE TIED CARD OF 'tidemarklaw3.CodecBack'. -/
def codecBackCard : Claim7 := { stood := { row := codecBackRow, standIns := [], harness := (true, "59af7060b1d960908ca5d8171cb76539c1ae6c246bb7e003e40d7b01003aeb03"), looks := true }, kinds := [], alts := [], laidByText := true, laidKinds := [.data, .pinned], laidTests := true, laidLooks := .later }
def CodecBackCardSaid : Prop := Claim7.holds Tryd.pinned (.plain (OpenSpec.ofChange codecBackSpec)) codecBackCard

/-- THE TIED CARD OF 'tidemarklaw5.KeyKnown'. -/
def keyKnownCard : Claim7 := { stood := { row := keyKnownRow, standIns := [], harness := (true, "59af7060b1d960908ca5d8171cb76539c1ae6c246bb7e003e40d7b01003aeb03"), looks := true }, kinds := [], alts := [], laidByText := true, laidKinds := [.data, .pinned], laidTests := true, laidLooks := .later }
def KeyKnownCardSaid : Prop := Claim7.holds Tryd.pinned (.plain (OpenSpec.ofChange keyKnownSpec)) keyKnownCard

/-- THE TIED CARD OF 'tidemarklaw5.KeyMany'. -/
def keyManyCard : Claim7 := { stood := { row := keyManyRow, standIns := [], harness := (true, "59af7060b1d960908ca5d8171cb76539c1ae6c246bb7e003e40d7b01003aeb03"), looks := true }, kinds := [], alts := [], laidByText := true, laidKinds := [.data, .pinned], laidTests := true, laidLooks := .later }
def KeyManyCardSaid : Prop := Claim7.holds Tryd.pinned (.plain (OpenSpec.ofChange keyManySpec)) keyManyCard

/-- THE TIED CARD OF 'tidemarklaw5.KeyBeyond'. -/
def keyBeyondCard : Claim7 := { stood := { row := keyBeyondRow, standIns := [], harness := (true, "59af7060b1d960908ca5d8171cb76539c1ae6c246bb7e003e40d7b01003aeb03"), looks := true }, kinds := [], alts := [], laidByText := true, laidKinds := [.data, .pinned], laidTests := true, laidLooks := .later }
def KeyBeyondCardSaid : Prop := Claim7.holds Tryd.pinned (.plain (OpenSpec.ofChange keyBeyondSpec)) keyBeyondCard

/-- THE TIED CARD OF 'tidemarklaw5.KeyKept'. -/
def keyKeptCard : Claim7 := { stood := { row := keyKeptRow, standIns := [], harness := (true, "59af7060b1d960908ca5d8171cb76539c1ae6c246bb7e003e40d7b01003aeb03"), looks := true }, kinds := [], alts := [], laidByText := true, laidKinds := [.data, .pinned], laidTests := true, laidLooks := .later }
def KeyKeptCardSaid : Prop := Claim7.holds Tryd.pinned (.plain (OpenSpec.ofChange keyKeptSpec)) keyKeptCard

/-- THE TIED CARD OF 'tidemarklaw3.CodecNests'. -/
def codecNestsCard : Claim7 := { stood := { row := codecNestsRow, standIns := [], harness := (true, "59af7060b1d960908ca5d8171cb76539c1ae6c246bb7e003e40d7b01003aeb03"), looks := true }, kinds := [], alts := [], laidByText := true, laidKinds := [.data, .pinned], laidTests := true, laidLooks := .later }
def CodecNestsCardSaid : Prop := Claim7.holds Tryd.pinned (.plain (OpenSpec.ofChange codecNestsSpec)) codecNestsCard

/-- THE TIED CARD OF 'tidemarklaw3.CodecNumbers'. -/
def codecNumbersCard : Claim7 := { stood := { row := codecNumbersRow, standIns := [], harness := (true, "59af7060b1d960908ca5d8171cb76539c1ae6c246bb7e003e40d7b01003aeb03"), looks := true }, kinds := [], alts := [], laidByText := true, laidKinds := [.data, .pinned], laidTests := true, laidLooks := .later }
def CodecNumbersCardSaid : Prop := Claim7.holds Tryd.pinned (.plain (OpenSpec.ofChange codecNumbersSpec)) codecNumbersCard

/-- THE TIED CARD OF 'tidemarklaw3.CodecRows'. -/
def codecRowsCard : Claim7 := { stood := { row := codecRowsRow, standIns := [], harness := (true, "59af7060b1d960908ca5d8171cb76539c1ae6c246bb7e003e40d7b01003aeb03"), looks := true }, kinds := [], alts := [], laidByText := true, laidKinds := [.data, .pinned], laidTests := true, laidLooks := .later }
def CodecRowsCardSaid : Prop := Claim7.holds Tryd.pinned (.plain (OpenSpec.ofChange codecRowsSpec)) codecRowsCard

/-- THE TIED CARD OF 'tidemarklaw3.CodecKnown'. -/
def codecKnownCard : Claim7 := { stood := { row := codecKnownRow, standIns := [], harness := (true, "59af7060b1d960908ca5d8171cb76539c1ae6c246bb7e003e40d7b01003aeb03"), looks := true }, kinds := [], alts := [], laidByText := true, laidKinds := [.data, .pinned], laidTests := true, laidLooks := .later }
def CodecKnownCardSaid : Prop := Claim7.holds Tryd.pinned (.plain (OpenSpec.ofChange codecKnownSpec)) codecKnownCard

/-- THE TIED CARD OF 'tidemarklaw5.KeyOrders'. -/
def keyOrdersCard : Claim7 := { stood := { row := keyOrdersRow, standIns := [], harness := (true, "59af7060b1d960908ca5d8171cb76539c1ae6c246bb7e003e40d7b01003aeb03"), looks := true }, kinds := [], alts := [], laidByText := true, laidKinds := [.data, .pinned], laidTests := true, laidLooks := .later }
def KeyOrdersCardSaid : Prop := Claim7.holds Tryd.pinned (.plain (OpenSpec.ofChange keyOrdersSpec)) keyOrdersCard

/-- THE TIED CARD OF 'tidemarklaw5.KeyLists'. -/
def keyListsCard : Claim7 := { stood := { row := keyListsRow, standIns := [], harness := (true, "59af7060b1d960908ca5d8171cb76539c1ae6c246bb7e003e40d7b01003aeb03"), looks := true }, kinds := [], alts := [], laidByText := true, laidKinds := [.data, .pinned], laidTests := true, laidLooks := .later }
def KeyListsCardSaid : Prop := Claim7.holds Tryd.pinned (.plain (OpenSpec.ofChange keyListsSpec)) keyListsCard

/-- THE SECOND FORM's CARD OF 'tidemarklaw5.KeySingle'. -/
def keySingleUptoCard : Claim7 := { stood := { row := keySingleUptoRow, standIns := [], harness := (true, "59af7060b1d960908ca5d8171cb76539c1ae6c246bb7e003e40d7b01003aeb03"), looks := true }, kinds := [], alts := [], laidByText := true, laidKinds := [.data, .pinned], laidTests := true, laidLooks := .later }
def KeySingleUptoCardSaid : Prop := Claim7.holds Tryd.pinned (.plain (OpenSpec.upto keySingleSpec)) keySingleUptoCard

/-- THE SECOND FORM's CARD OF 'tidemarklaw3.CodecValues'. -/
def codecValuesUptoCard : Claim7 := { stood := { row := codecValuesUptoRow, standIns := [], harness := (true, "59af7060b1d960908ca5d8171cb76539c1ae6c246bb7e003e40d7b01003aeb03"), looks := true }, kinds := [], alts := [], laidByText := true, laidKinds := [.data, .pinned], laidTests := true, laidLooks := .later }
def CodecValuesUptoCardSaid : Prop := Claim7.holds Tryd.pinned (.plain (OpenSpec.upto codecValuesSpec)) codecValuesUptoCard

/-- THE SECOND FORM's CARD OF 'tidemarklaw3.CodecKept'. -/
def codecKeptUptoCard : Claim7 := { stood := { row := codecKeptUptoRow, standIns := [], harness := (true, "59af7060b1d960908ca5d8171cb76539c1ae6c246bb7e003e40d7b01003aeb03"), looks := true }, kinds := [], alts := [], laidByText := true, laidKinds := [.data, .pinned], laidTests := true, laidLooks := .later }
def CodecKeptUptoCardSaid : Prop := Claim7.holds Tryd.pinned (.plain (OpenSpec.upto codecKeptSpec)) codecKeptUptoCard

/-- THE SECOND FORM's CARD OF 'tidemarklaw3.CodecBack'. -/
def codecBackUptoCard : Claim7 := { stood := { row := codecBackUptoRow, standIns := [], harness := (true, "59af7060b1d960908ca5d8171cb76539c1ae6c246bb7e003e40d7b01003aeb03"), looks := true }, kinds := [], alts := [], laidByText := true, laidKinds := [.data, .pinned], laidTests := true, laidLooks := .later }
def CodecBackUptoCardSaid : Prop := Claim7.holds Tryd.pinned (.plain (OpenSpec.upto codecBackSpec)) codecBackUptoCard

/-- THE SECOND FORM's CARD OF 'tidemarklaw5.KeyKnown'. -/
def keyKnownUptoCard : Claim7 := { stood := { row := keyKnownUptoRow, standIns := [], harness := (true, "59af7060b1d960908ca5d8171cb76539c1ae6c246bb7e003e40d7b01003aeb03"), looks := true }, kinds := [], alts := [], laidByText := true, laidKinds := [.data, .pinned], laidTests := true, laidLooks := .later }
def KeyKnownUptoCardSaid : Prop := Claim7.holds Tryd.pinned (.plain (OpenSpec.upto keyKnownSpec)) keyKnownUptoCard

/-- THE SECOND FORM's CARD OF 'tidemarklaw5.KeyMany'. -/
def keyManyUptoCard : Claim7 := { stood := { row := keyManyUptoRow, standIns := [], harness := (true, "59af7060b1d960908ca5d8171cb76539c1ae6c246bb7e003e40d7b01003aeb03"), looks := true }, kinds := [], alts := [], laidByText := true, laidKinds := [.data, .pinned], laidTests := true, laidLooks := .later }
def KeyManyUptoCardSaid : Prop := Claim7.holds Tryd.pinned (.plain (OpenSpec.upto keyManySpec)) keyManyUptoCard

/-- THE SECOND FORM's CARD OF 'tidemarklaw5.KeyBeyond'. -/
def keyBeyondUptoCard : Claim7 := { stood := { row := keyBeyondUptoRow, standIns := [], harness := (true, "59af7060b1d960908ca5d8171cb76539c1ae6c246bb7e003e40d7b01003aeb03"), looks := true }, kinds := [], alts := [], laidByText := true, laidKinds := [.data, .pinned], laidTests := true, laidLooks := .later }
def KeyBeyondUptoCardSaid : Prop := Claim7.holds Tryd.pinned (.plain (OpenSpec.upto keyBeyondSpec)) keyBeyondUptoCard

/-- THE SECOND FORM's CARD OF 'tidemarklaw5.KeyKept'. -/
def keyKeptUptoCard : Claim7 := { stood := { row := keyKeptUptoRow, standIns := [], harness := (true, "59af7060b1d960908ca5d8171cb76539c1ae6c246bb7e003e40d7b01003aeb03"), looks := true }, kinds := [], alts := [], laidByText := true, laidKinds := [.data, .pinned], laidTests := true, laidLooks := .later }
def KeyKeptUptoCardSaid : Prop := Claim7.holds Tryd.pinned (.plain (OpenSpec.upto keyKeptSpec)) keyKeptUptoCard

/-- THE SECOND FORM's CARD OF 'tidemarklaw3.CodecNests'. -/
def codecNestsUptoCard : Claim7 := { stood := { row := codecNestsUptoRow, standIns := [], harness := (true, "59af7060b1d960908ca5d8171cb76539c1ae6c246bb7e003e40d7b01003aeb03"), looks := true }, kinds := [], alts := [], laidByText := true, laidKinds := [.data, .pinned], laidTests := true, laidLooks := .later }
def CodecNestsUptoCardSaid : Prop := Claim7.holds Tryd.pinned (.plain (OpenSpec.upto codecNestsSpec)) codecNestsUptoCard

/-- THE SECOND FORM's CARD OF 'tidemarklaw3.CodecNumbers'. -/
def codecNumbersUptoCard : Claim7 := { stood := { row := codecNumbersUptoRow, standIns := [], harness := (true, "59af7060b1d960908ca5d8171cb76539c1ae6c246bb7e003e40d7b01003aeb03"), looks := true }, kinds := [], alts := [], laidByText := true, laidKinds := [.data, .pinned], laidTests := true, laidLooks := .later }
def CodecNumbersUptoCardSaid : Prop := Claim7.holds Tryd.pinned (.plain (OpenSpec.upto codecNumbersSpec)) codecNumbersUptoCard

/-- THE SECOND FORM's CARD OF 'tidemarklaw3.CodecRows'. -/
def codecRowsUptoCard : Claim7 := { stood := { row := codecRowsUptoRow, standIns := [], harness := (true, "59af7060b1d960908ca5d8171cb76539c1ae6c246bb7e003e40d7b01003aeb03"), looks := true }, kinds := [], alts := [], laidByText := true, laidKinds := [.data, .pinned], laidTests := true, laidLooks := .later }
def CodecRowsUptoCardSaid : Prop := Claim7.holds Tryd.pinned (.plain (OpenSpec.upto codecRowsSpec)) codecRowsUptoCard

/-- THE SECOND FORM's CARD OF 'tidemarklaw3.CodecKnown'. -/
def codecKnownUptoCard : Claim7 := { stood := { row := codecKnownUptoRow, standIns := [], harness := (true, "59af7060b1d960908ca5d8171cb76539c1ae6c246bb7e003e40d7b01003aeb03"), looks := true }, kinds := [], alts := [], laidByText := true, laidKinds := [.data, .pinned], laidTests := true, laidLooks := .later }
def CodecKnownUptoCardSaid : Prop := Claim7.holds Tryd.pinned (.plain (OpenSpec.upto codecKnownSpec)) codecKnownUptoCard

/-- THE SECOND FORM's CARD OF 'tidemarklaw5.KeyOrders'. -/
def keyOrdersUptoCard : Claim7 := { stood := { row := keyOrdersUptoRow, standIns := [], harness := (true, "59af7060b1d960908ca5d8171cb76539c1ae6c246bb7e003e40d7b01003aeb03"), looks := true }, kinds := [], alts := [], laidByText := true, laidKinds := [.data, .pinned], laidTests := true, laidLooks := .later }
def KeyOrdersUptoCardSaid : Prop := Claim7.holds Tryd.pinned (.plain (OpenSpec.upto keyOrdersSpec)) keyOrdersUptoCard

/-- THE SECOND FORM's CARD OF 'tidemarklaw5.KeyLists'. -/
def keyListsUptoCard : Claim7 := { stood := { row := keyListsUptoRow, standIns := [], harness := (true, "59af7060b1d960908ca5d8171cb76539c1ae6c246bb7e003e40d7b01003aeb03"), looks := true }, kinds := [], alts := [], laidByText := true, laidKinds := [.data, .pinned], laidTests := true, laidLooks := .later }
def KeyListsUptoCardSaid : Prop := Claim7.holds Tryd.pinned (.plain (OpenSpec.upto keyListsSpec)) keyListsUptoCard
end Rows
end Go.Proofs.YtihcegakghmdfaaDoor
