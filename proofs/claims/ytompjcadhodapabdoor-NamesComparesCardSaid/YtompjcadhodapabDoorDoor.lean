/- What the laws of a door seat share: a world in which the library's tables lie as its text lays them; the library's variable holds a number. -/
import Derived.Test.YtompjcadhodapabDoorCards
import Derived.Test.YtompjcadhodapabDoorTie
import Derived.Test.YtompjcadhodapabDoorPath
import Derived.Test.YtompjcadhodapabDoorOpensS
import Derived.Deep.DeepHandedRow
import Derived.Lib.LaidTab
import Derived.Shelf.Vars
namespace Go.Proofs.YtompjcadhodapabDoor
open Go.ChangeShapes Go.WideShapes Go.ChangeAt Go.RowKit
set_option linter.unusedVariables false

def bytesV (l : List Nat) : Array Value := (l.map (fun n : Nat => Value.int .u8 n)).toArray
def layCells (cs : Array Value) : Obj → Obj
  | .cells _ t frozen => .cells cs t frozen
  | o => o
noncomputable def laidWorld (os : Os) : World :=
  { World.holding Tryd.prog os ⟨#[], #[], []⟩ with heap := ((World.holding Tryd.prog os ⟨#[], #[], []⟩).heap.modify 1 (layCells (bytesV Go.Pinned.utf8FirstZ))).modify 2 (layCells (bytesV [128, 191, 160, 191, 128, 159, 144, 191, 128, 143, 0, 0, 0, 0, 0, 0, 0, 0, 0, 0, 0, 0, 0, 0, 0, 0, 0, 0, 0, 0, 0, 0])) }
theorem maxL_of {w : World} (h : w.ShapedOpen Tryd.prog) : MaxL w :=
  cell_of_shapedOpen_int (zero := #[.int .i64 0]) (t := 3) h (of_decide_eq_true (by kernel_rfl)) (by kernel_rfl) rfl (by kernel_rfl) (by kernel_rfl) Tryd.underlying3
end Go.Proofs.YtompjcadhodapabDoor
