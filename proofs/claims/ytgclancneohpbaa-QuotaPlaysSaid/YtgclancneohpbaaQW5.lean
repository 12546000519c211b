/- Walk: the program's quota: Clients. -/
import Derived.Test.YtgclancneohpbaaQW4
import Derived.Test.YtgclancneohpbaaIter
namespace Go.Proofs.Ytgclancneohpbaa
open Go.RowKit Go.Maps Go.Sort Go.Shelf
set_option maxHeartbeats 1000000 in
theorem clients_calls (q : Qt) (g b n : Nat) (w : World) (hq : Qat w g b n q) (hn : n ≤ 100) :
    Calls Try.prog 20 #[.pointer (some ⟨g, 0, none⟩)] w fun e w' => ∃ (v : Value) (ss : List (List UInt8)) (D : DataW Unit), e = .returned v ∧ w.ownsMap Try.prog 9 purseR b n D ∧ mapIs D q.f ∧ ss.Perm (strKeys D) ∧
      w'.ownsRow w.heap.size 9 1 v ss.length ((ss.mergeSort (fun x y => decide (x ≤ y))).map encStr) ∧ Below w.heap.size w w' := by
  refine (callsIn_wide (n := 6)).1 ?_
  obtain ⟨D, h1, h2⟩ := hq.map
  have hc := hq.blk.cell
  have hmax := h1.size_le
  have hfK : Fence.wide.fn 45 := trivial
  have hfS : Fence.wide.fn 44 := trivial
  refine callsIn_of_wp Try.func20 rfl trivial ?_ rfl
  simp only [Try.ntmps20, List.size_toArray, List.length_cons, List.length_nil, Nat.reduceAdd, Nat.reduceSub, Array.replicate_succ, Array.replicate_zero, List.push_toArray, List.append_toArray, List.nil_append, List.cons_append]
  gi_wp2_with (first
    | (gi_at_call 45; refine (Try.maps_Keys_q _ _).mono ?_; rintro e w' ⟨rfl, rfl⟩)
    | (gi_at_call 44; refine (Try.sorted_keys_q b n D purseR w h1 (by unfold maxLen; omega) (by omega)).mono ?_; rintro e w' ⟨v, ss, rfl, hS, hrow, hnil, hb⟩))
  go_ret
  exact ⟨v, ss, D, rfl, h1, h2, hS, ownsRow_base_a hrow (by simp), ((Below.refl _ w).alloc (Nat.le_refl _) _).trans (hb.mono (by simp))⟩
end Go.Proofs.Ytgclancneohpbaa
