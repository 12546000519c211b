/- How the end is told; a world in which the library's tables hold what their initialisers lay; the table of tens out of the row's condition. -/
import Derived.Test.YtkmdlpkdoplpdaaDoorOpen
import Derived.Test.YtkmdlpkdoplpdaaDoorShelf
import Derived.Test.YtkmdlpkdoplpdaaDoorCards
import Derived.Test.YtkmdlpkdoplpdaaDoorTie
import Derived.Test.YtkmdlpkdoplpdaaDoorUL1
import Derived.Deep.DeepHandedRow
import Derived.Lib.LaidTab
import Derived.Stop.LaidErr
namespace Go.Proofs.YtkmdlpkdoplpdaaDoor
open Go.ChangeShapes Go.WideShapes Go.ChangeAt Go.RowKit Go.Deep
open Go.ChangeMaps (open_string shut_string)
def layCells (cs : Array Value) : Obj → Obj
  | .cells _ t frozen => .cells cs t frozen
  | o => o
def litCell : DataW Unit → Value
  | .lit (.int k z) => .int k z
  | _ => .int .u8 0
def litCells : DataW Unit → Array Value
  | .agg ps => (ps.map litCell).toArray
  | _ => #[]
/-- a world in which the three tables of the library hold what their initialisers lay -/
noncomputable def laidWorld (os : Os) : World :=
  { World.holding Tryd.prog os ⟨#[], #[], []⟩ with heap := (((World.holding Tryd.prog os ⟨#[], #[], []⟩).heap.modify 2 (layCells (litCells Rows.laid_math_bits_deBruijn32tab))).modify 3 (layCells (litCells Rows.laid_math_bits_deBruijn64tab))).modify 1 (layCells (litCells Rows.laid_internal_strconv_uint64pow10)) }
theorem pow10_is : (Rows.laid_internal_strconv_uint64pow10 : DataW Unit) = Lib.tabData .u64 Lib.pow10Tab := by
  simp [Rows.laid_internal_strconv_uint64pow10, Lib.tabData, Lib.pow10Tab, List.range_succ]
theorem tb_of_laid {W : World} (h : laidMet Tryd.prog [("math/bits.deBruijn32tab", Rows.laid_math_bits_deBruijn32tab), ("math/bits.deBruijn64tab", Rows.laid_math_bits_deBruijn64tab), ("internal/strconv.uint64pow10", Rows.laid_internal_strconv_uint64pow10)] W) : Tb W.heap.size W := by
  have h3 := h.tail.tail
  rw [pow10_is] at h3
  exact Lib.tabBelow_of_tabIs (Lib.tabIs_of_head (g := 1) (by kernel_rfl) (by kernel_rfl) Tryd.underlying120 Tryd.underlying97 (by kernel_rfl) (by kernel_rfl) h3)
end Go.Proofs.YtkmdlpkdoplpdaaDoor
