/- A world in which the library's tables hold what their initialisers lay. -/
import Derived.Test.YtaikedlkkjnffaaGreatDoorShelf
import Derived.Test.YtaikedlkkjnffaaGreatDoorOpen
import Derived.Test.YtaikedlkkjnffaaGreatDoorCards
import Derived.Test.YtaikedlkkjnffaaGreatDoorTie
import Derived.Deep.DeepHandedRow
import Derived.Lib.LaidTab
namespace Go.Proofs.YtaikedlkkjnffaaGreatDoor
open Go.ChangeShapes Go.WideShapes Go.ChangeAt Go.RowKit Go.Deep
open Go.ChangeMaps (open_string shut_string)

def layCells (cs : Array Value) : Obj → Obj
  | .cells _ t frozen => .cells cs t frozen
  | o => o
/-- a world in which the two tables of the library hold what their initialisers lay -/
noncomputable def laidWorld (os : Os) : World :=
  { World.holding Tryz.prog os ⟨#[], #[], []⟩ with heap := ((World.holding Tryz.prog os ⟨#[], #[], []⟩).heap.modify 1 (layCells (Go.Pinned.utf8FirstZ.map fun (n : Nat) => Value.int .u8 (n : Int)).toArray)).modify 2 (layCells (([128, 191, 160, 191, 128, 159, 144, 191, 128, 143, 0, 0, 0, 0, 0, 0, 0, 0, 0, 0, 0, 0, 0, 0, 0, 0, 0, 0, 0, 0, 0, 0] : List Nat).map fun (n : Nat) => Value.int .u8 (n : Int)).toArray) }
end Go.Proofs.YtaikedlkkjnffaaGreatDoor
