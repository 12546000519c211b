/- The fixed texts of the law's first question. No program in sight. -/
import Derived.Test.YtfhdecdlkmibmaaDoorC15
namespace Go.Proofs.YtfhdecdlkmibmaaDoor
def fix1 : List UInt8 := [97, 32, 61, 32, 49, 32, 111, 114, 32, 110, 111, 116, 32, 98]
def fixC : CT := .node 8 0 [] [pairC 9 (leaf 5 0 [97]) (leaf 3 1 []), notC (leaf 5 0 [98])]
theorem fix_parse : parseC fix1 = (fixC, 0, 0) := rfl
theorem fix_bad : parseC [49, 32, 43] = (leaf 0 0 [], 3, 9) := rfl
theorem fix_size : fixC.size = 6 := by
  unfold fixC pairC notC leaf
  simp only [size_eq, sizeL_cons, sizeL_nil]
theorem fix_print : printC fixC = (fix1, 0) := by
  have h1 : printP fixC = some [wd [97], none, mk [61], none, some (4, decL 1, false), none, wd orL, none, wd notL, none, wd [98]] := by
    unfold printP
    rw [fix_size]
    rfl
  have h2 : decL 1 = [49] := dd_small (by decide)
  unfold printC
  rw [fix_size, h1, h2]
  rfl
end Go.Proofs.YtfhdecdlkmibmaaDoor
