/-
  Walk: Add's closure. No condition.
-/
import Derived.Test.YthjihdpleclejaaGreatDoorMgPth28
import Derived.Laws.Externs
namespace Go.Proofs.YthjihdpleclejaaGreatDoor
open Go.RowKit Go.Proofs
end Go.Proofs.YthjihdpleclejaaGreatDoor
