/- Plain words on the entries of writes: the cells of each; == of two. -/
import Derived.Test.YtnbalmnpcdnidaaDoorW20
namespace Go.Proofs.YtnbalmnpcdnidaaDoor
open Go.RowKit
theorem ent_at : ∀ (l : List Wr) (k : Nat), k < 2 * l.length → ∃ K D, (entCells l)[k * 3]? = some (.string K) ∧ (entCells l)[k * 3 + 1]? = some (.int .u64 0) ∧ (entCells l)[k * 3 + 2]? = some (.bool D)
  | [], k, h => absurd h (by simp)
  | x :: l, 0, _ => ⟨fKey x.t, x.del, by simp [entCells, fEnt, rEnt], by simp [entCells, fEnt, rEnt], by simp [entCells, fEnt, rEnt]⟩
  | x :: l, 1, _ => ⟨rKey x.t, x.del, by simp [entCells, fEnt, rEnt], by simp [entCells, fEnt, rEnt], by simp [entCells, fEnt, rEnt]⟩
  | x :: l, k + 2, h => by
    obtain ⟨K, D, h0, h1, h2⟩ := ent_at l k (by simp at h; omega)
    have hc : entCells (x :: l) = (fEnt x ++ rEnt x) ++ entCells l := by simp [entCells]
    have hs : (fEnt x ++ rEnt x).length = 6 := rfl
    refine ⟨K, D, ?_, ?_, ?_⟩
    · rw [hc, List.getElem?_append_right (by rw [hs]; omega), hs, show (k + 2) * 3 - 6 = k * 3 by omega]; exact h0
    · rw [hc, List.getElem?_append_right (by rw [hs]; omega), hs, show (k + 2) * 3 + 1 - 6 = k * 3 + 1 by omega]; exact h1
    · rw [hc, List.getElem?_append_right (by rw [hs]; omega), hs, show (k + 2) * 3 + 2 - 6 = k * 3 + 2 by omega]; exact h2
theorem own_shape {w : World} {base size n : Nat} {e : TypeId} {v : Value} {xs : List Value} (h : w.ownsRow base e size v n xs) : ∃ a c, v = .slice a n c := by
  obtain ⟨_, ⟨rfl, rfl⟩ | ⟨g, cap, cur, rfl, _⟩⟩ := h
  · exact ⟨none, 0, rfl⟩
  · exact ⟨_, _, rfl⟩
theorem own_some {w : World} {base size n c : Nat} {e : TypeId} {a : Option Addr} {xs : List Value} (h : w.ownsRow base e size (.slice a n c) n xs) (hn : 0 < n) : ∃ g, a = some ⟨g, 0, none⟩ := by
  obtain ⟨_, ⟨_, rfl⟩ | ⟨g, cap, cur, h1, _⟩⟩ := h
  · omega
  · simp at h1; exact ⟨g, h1.1⟩
set_option maxHeartbeats 2000000 in
theorem neq_ent (K : ByteArray) (D : Bool) (w : World) :
    (binOp .neq 58 (.agg #[.string K, .int .u64 0, .bool D]) (.agg #[.string K, .int .u64 0, .bool D])).run Tryd.prog w = .ok (.bool false) w := by
  simp [go_sem]
end Go.Proofs.YtnbalmnpcdnidaaDoor
