/- The law IndexReads: the walk. -/
import Derived.Test.YtnbalmnpcdnidaaDoorW18
import Derived.Test.YtnbalmnpcdnidaaDoorEql
namespace Go.Proofs.YtnbalmnpcdnidaaDoor
open Go.RowKit
attribute [local go_sem ↓] eql_tup
theorem refTuple_calls (s : ByteArray) (w : World) (hs : s.size ≤ 500) :
    Calls Tryd.prog 18 #[.string s] w fun e w' => e = .returned (iV s) ∧ Below w.heap.size w w' := by
  by_cases h0 : 0 < s.size
  · cases hb : begins1 102 s
    · exact refTuple_r s w hs h0 hb
    · exact refTuple_f s w hs h0 hb
  · have hz : s.size = 0 := by omega
    have e : s = ⟨#[]⟩ := by
      apply bytes_ext
      rw [Lib.size_eq] at hz
      rw [List.length_eq_zero_iff.1 hz]
    rw [e]
    exact refTuple_empty w
set_option maxHeartbeats 4000000 in
set_option maxRecDepth 100000 in
theorem indexReads_calls (s : ByteArray) (m : Int) (w : World) (hs : s.size ≤ maxLen) (hm : w.cell? ⟨0, 0, none⟩ = some (.int .i64 m)) :
    Calls Tryd.prog 4 #[.string s] w fun e w' => e = .returned (.bool true) ∧ Below w.heap.size w w' := by
  have hg : 0 < w.heap.size := World.block_lt_of_cell? w _ hm
  have hm' := Lib.hid hm
  unfold maxLen at hs
  go_enter Tryd.func4, Tryd.ntmps4
  go_wp2_with fail
  refine (fixed24_calls m _ hm).mono ?_
  clear hm
  rintro e w1 ⟨rfl, B1⟩
  by_cases hlen : s.size ≤ 500
  · have q0 : ¬ ((500 : Int) < (s.size : Int)) := by omega
    go_wp2_with fail
    refine (iTuple_calls s m _ hlen ((B1.cell (p := ⟨0, 0, none⟩) hg).trans hm'.out)).mono ?_
    unfold iV Tup.v
    rintro e w2 ⟨rfl, hb2⟩
    have B2 := B1.trans (hb2.mono B1.size)
    have l2 := B2.size
    clear hb2 B1
    go_wp2_with fail
    have k3 := Blk.new w2 28 #[.string (iTup s).a, .string (iTup s).b, .string (iTup s).c, .string (iTup s).d, .string (iTup s).e, .string (iTup s).f]
    have B2a := B2.alloc l2 (.cells #[.string (iTup s).a, .string (iTup s).b, .string (iTup s).c, .string (iTup s).d, .string (iTup s).e, .string (iTup s).f] 28)
    refine (refTuple_calls s _ hlen).mono ?_
    unfold iV Tup.v
    rintro e w4 ⟨rfl, hb4⟩
    have k4 := k3.below hb4 (by simp)
    have B4 := B2a.trans (hb4.mono (by simp; omega))
    have l4 : w2.heap.size < w4.heap.size := by have := hb4.size; simp at this; omega
    clear hb4 k3 B2a B2
    have kc := k4.cell
    have q2 := same_self (iTup s).a (iTup s).b (iTup s).c (iTup s).d (iTup s).e (iTup s).f
    go_wp2
    go_ret
    exact ⟨rfl, B4.alloc (by omega) _⟩
  · have q0 : (500 : Int) < (s.size : Int) := by omega
    go_wp2
    go_ret
    exact ⟨rfl, B1⟩
end Go.Proofs.YtnbalmnpcdnidaaDoor
