/- The law QuotaNil: the walk. -/
import Derived.Test.YtgclancneohpbaaQW6
namespace Go.Proofs.Ytgclancneohpbaa
open Go.RowKit
set_option maxHeartbeats 2000000 in
theorem quotaNil_calls (n t : Int) (w : World) : Calls Try.prog 6 #[.int .u64 n, .int .u64 t] w fun e w' => e = .returned (.bool true) ∧ Below w.heap.size w w' := by
  go_enter Try.func6, Try.ntmps6
  go_wp2_with fail
  refine (fixed38_calls w).mono ?_
  rintro e w1 ⟨rfl, B1⟩
  go_wp2_with fail
  refine (take_nil ⟨#[97]⟩ n t w1).mono ?_
  rintro e w2 ⟨rfl, rfl⟩
  go_wp2_with fail
  refine (take_nil ⟨#[97]⟩ 0 t _).mono ?_
  rintro e w3 ⟨rfl, rfl⟩
  go_wp2_with fail
  refine (left_nil ⟨#[97]⟩ t _).mono ?_
  rintro e w4 ⟨rfl, rfl⟩
  go_wp2_with fail
  refine (clients_nil _).mono ?_
  rintro e w5 ⟨rfl, rfl⟩
  go_wp2
  go_ret
  exact ⟨rfl, B1⟩
end Go.Proofs.Ytgclancneohpbaa
