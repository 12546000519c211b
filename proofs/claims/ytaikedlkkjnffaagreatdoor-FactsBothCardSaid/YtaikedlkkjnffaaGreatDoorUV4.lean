/- Walks: slices.Values, slices.SortedFunc over tuples. -/
import Derived.Test.YtaikedlkkjnffaaGreatDoorUV3
import Derived.Test.YtaikedlkkjnffaaGreatDoorUV6
namespace Go.Proofs.YtaikedlkkjnffaaGreatDoor
open Go.RowKit Go.Shelf
set_option maxHeartbeats 1000000 in
theorem values_calls (p : Option Addr) (n c : Nat) (w : World) :
    Calls Tryz.prog 25 #[.slice p n c] w fun e w' => e = .returned (.func (.func 46) #[] #[.pointer (some ⟨w.heap.size, 0, none⟩)]) ∧ w.alloc (.cells #[.slice p n c] 22) = w' := by
  go_enter Tryz.func25, Tryz.ntmps25
  go_wp2_with fail
  go_ret
  exact ⟨rfl, rfl⟩
set_option maxHeartbeats 1000000 in
set_option maxRecDepth 100000 in
theorem sorted_calls (Bs : Nat) (p : Option Addr) (c : Nat) (ts : List Tup) (hts : ts.length ≤ 900000) (w : World) (hBs : Bs < w.heap.size)
    (hc : w.cell? ⟨Bs, 0, none⟩ = some (.slice p ts.length c)) (hI : TIn w.heap.size w p ts) :
    Calls Tryz.prog 24 #[.func (.func 46) #[] #[.pointer (some ⟨Bs, 0, none⟩)], .func (.func 26) #[] #[]] w fun e W' =>
      ∃ v s, e = .returned v ∧ SortedOf ts s ∧ TOwn w.heap.size W' v s ∧ Below w.heap.size w W' := by
  have hA := collect_calls Bs p c ts hts w hBs hc hI
  have hA' := Lib.hid hA
  clear hA hI hc
  go_enter Tryz.func24, Tryz.ntmps24
  go_wp2_with fail
  refine hA'.out.mono ?_
  rintro e w1 ⟨v, rfl, hT, hB⟩
  obtain ⟨p1, c1, rfl⟩ := hT.slice
  have hS := Lib.hid (sortFunc_calls hT (by omega))
  have hlow := fun j hj => (hT.lt j hj).1
  have hlow' := Lib.hid hlow
  have hB' := Lib.hid hB
  clear hT hlow hA' hB
  go_wp2_with fail
  refine hS.out.mono ?_
  rintro e w2 ⟨rfl, s, hs, hT2, hK2⟩
  have hz := hB'.out.size
  have B2 := Keeps.below_step hB'.out hz hK2 fun j e => hlow'.out j e
  clear hK2 hS
  go_wp2_with fail
  go_ret
  exact ⟨_, s, rfl, hs, hT2, B2⟩
end Go.Proofs.YtaikedlkkjnffaaGreatDoor
