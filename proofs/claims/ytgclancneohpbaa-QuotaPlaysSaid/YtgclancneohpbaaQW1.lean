/- Walks: the program's quota: New, purse, Take, Left. -/
import Derived.Test.YtgclancneohpbaaQm
import Derived.Maps.Own
import Derived.Carry
namespace Go.Proofs.Ytgclancneohpbaa
open Go.RowKit Go.Maps
theorem qnew_at (w : World) (rate most : Nat) (r m : Int) (hr : r = ((min rate 4294967296 : Nat) : Int)) (hm : m = ((min most 4294967296 : Nat) : Int)) :
    Qat ((w.alloc (.map #[] 0)).alloc (.cells #[.int .u64 r, .int .u64 m, .int .u64 0, .map (some w.heap.size)] 74)) (w.heap.size + 1) w.heap.size 0 (Qt.new rate most) := by
  subst hr hm
  have hb := Blk.new (w.alloc (.map #[] 0)) 74 #[.int .u64 ((min rate 4294967296 : Nat) : Int), .int .u64 ((min most 4294967296 : Nat) : Int), .int .u64 0, .map (some w.heap.size)]
  rw [World.size_alloc] at hb
  exact ⟨hb, ⟨.map [], (World.ownsMap_made w _ _ _).alloc _, mapIs_nil⟩, Qt.new_ok _ _⟩
set_option maxHeartbeats 1000000 in
theorem qnew_calls (rate most : Nat) (w : World) (h1 : rate < 18446744073709551616) (h2 : most < 18446744073709551616) :
    Calls Try.prog 14 #[.int .u64 rate, .int .u64 most] w fun e w' => e = .returned (.pointer (some ⟨w.heap.size + 1, 0, none⟩)) ∧ Qat w' (w.heap.size + 1) w.heap.size 0 (Qt.new rate most) ∧ Below w.heap.size w w' ∧ w'.heap.size = w.heap.size + 2 := by
  have hmm := @run_makeMap Try.prog
  go_enter Try.func14, Try.ntmps14
  go_wp2
  all_goals
    go_ret
    exact ⟨rfl, qnew_at w rate most _ _ (by omega) (by omega), ((Below.refl w.heap.size w).alloc (Nat.le_refl _) _).alloc (by simp) _, by simp⟩
end Go.Proofs.Ytgclancneohpbaa
