/- The tables in the witness's world. -/
import Derived.Test.YtbdekdhdkdjejaaDoorCards
import Derived.Test.YtbdekdhdkdjejaaDoorTie
import Derived.Test.YtbdekdhdkdjejaaDoorFrame
import Derived.Deep.DeepHandedRow
import Derived.Lib.LaidTab
namespace Go.Proofs.YtbdekdhdkdjejaaDoor
open Go.ChangeShapes Go.WideShapes Go.ChangeAt Go.RowKit

/-- Lays numbers of one byte into a block. -/
def lays (ns : List Nat) : Obj → Obj
  | .cells _ t frozen => .cells (ns.map fun (n : Nat) => Value.int .u8 (n : Int)).toArray t frozen
  | o => o
/-- A world for the witness: the settled one, the two tables holding what their initialisers lay. -/
noncomputable def laidWorld (os : Os) : World :=
  { World.holding Tryd.prog os ⟨#[], #[], []⟩ with heap := ((World.holding Tryd.prog os ⟨#[], #[], []⟩).heap.modify 1 (lays Go.Pinned.utf8FirstZ)).modify 2 (lays [128, 191, 160, 191, 128, 159, 144, 191, 128, 143, 0, 0, 0, 0, 0, 0, 0, 0, 0, 0, 0, 0, 0, 0, 0, 0, 0, 0, 0, 0, 0, 0]) }
end Go.Proofs.YtbdekdhdkdjejaaDoor
