/- Walks: a nil disk is down. -/
import Derived.Test.YtgclancneohpbaaDW14
import Derived.WalkKit
namespace Go.Proofs.Ytgclancneohpbaa
open Go.RowKit
theorem dfuse_nil (n : Int) (w : World) : Calls Try.prog 24 #[.pointer none, .int .i64 n] w fun e w' => e = .returned (.tuple #[]) ∧ w = w' := by
  go_enter Try.func24, Try.ntmps24
  go_wp2
  go_end0
  exact ⟨rfl, rfl⟩
theorem dused_nil (w : World) : Calls Try.prog 26 #[.pointer none] w fun e w' => e = .returned (.int .i64 0) ∧ w = w' := by
  go_enter Try.func26, Try.ntmps26
  go_wp2
  go_ret
  exact ⟨rfl, rfl⟩
theorem dlist_nil (w : World) : Calls Try.prog 27 #[.pointer none] w fun e w' => e = .returned (.slice none 0 0) ∧ w = w' := by
  go_enter Try.func27, Try.ntmps27
  go_wp2
  go_ret
  exact ⟨rfl, rfl⟩
theorem dcrash_nil (p : Option Addr) (n c : Nat) (w : World) : Calls Try.prog 28 #[.pointer none, .slice p n c] w fun e w' => e = .returned (.tuple #[]) ∧ Below w.heap.size w w' := by
  have B0 := (Below.refl w.heap.size w).alloc (Nat.le_refl _) (.cells #[.slice p n c] 51)
  go_enter Try.func28, Try.ntmps28
  go_wp2
  refine bodyPost_ret (results_none rfl _ _ _) rfl ?_
  exact ⟨rfl, B0⟩
theorem dread_nil (s : ByteArray) (w : World) : Calls Try.prog 29 #[.pointer none, .string s] w fun e w' => e = .returned (.tuple #[.slice none 0 0, .int .i64 6]) ∧ Below w.heap.size w w' := by
  go_enter Try.func29, Try.ntmps29
  go_wp2_with fail
  refine (find_nil s w).mono ?_
  rintro e w1 ⟨rfl, B1⟩
  go_wp2
  go_ret2
  exact ⟨rfl, B1⟩
theorem dcreate_nil (s : ByteArray) (w : World) : Calls Try.prog 23 #[.pointer none, .string s] w fun e w' => e = .returned (.int .i64 6) ∧ Below w.heap.size w w' := by
  go_enter Try.func23, Try.ntmps23
  go_wp2_with fail
  refine (find_nil s w).mono ?_
  rintro e w1 ⟨rfl, B1⟩
  go_wp2
  go_ret
  exact ⟨rfl, B1⟩
theorem dappend_nil (s : ByteArray) (v : Value) (w : World) : Calls Try.prog 25 #[.pointer none, .string s, v] w fun e w' => e = .returned (.int .i64 6) ∧ Below w.heap.size w w' := by
  go_enter Try.func25, Try.ntmps25
  go_wp2_with fail
  refine (find_nil s w).mono ?_
  rintro e w1 ⟨rfl, B1⟩
  go_wp2
  go_ret
  exact ⟨rfl, B1⟩
theorem dsync_nil (s : ByteArray) (w : World) : Calls Try.prog 38 #[.pointer none, .string s] w fun e w' => e = .returned (.int .i64 6) ∧ Below w.heap.size w w' := by
  go_enter Try.func38, Try.ntmps38
  go_wp2_with fail
  refine (find_nil s w).mono ?_
  rintro e w1 ⟨rfl, B1⟩
  go_wp2
  go_ret
  exact ⟨rfl, B1⟩
theorem dsyncDir_nil (w : World) : Calls Try.prog 39 #[.pointer none] w fun e w' => e = .returned (.int .i64 6) ∧ w = w' := by
  go_enter Try.func39, Try.ntmps39
  go_wp2_with fail
  refine (dmay_nil _ _).mono ?_
  rintro e w1 ⟨rfl, rfl⟩
  go_wp2
  go_ret
  exact ⟨rfl, rfl⟩
theorem drename_nil (s t : ByteArray) (w : World) : Calls Try.prog 40 #[.pointer none, .string s, .string t] w fun e w' => e = .returned (.int .i64 6) ∧ Below w.heap.size w w' := by
  have B0 := (Below.refl w.heap.size w).alloc (Nat.le_refl _) (.cells #[.string s, .string t] 9)
  go_enter Try.func40, Try.ntmps40
  go_wp2_with fail
  refine (dmay_nil _ _).mono ?_
  rintro e w1 ⟨rfl, rfl⟩
  go_wp2
  go_ret
  exact ⟨rfl, B0⟩
theorem dremove_nil (s : ByteArray) (w : World) : Calls Try.prog 30 #[.pointer none, .string s] w fun e w' => e = .returned (.int .i64 6) ∧ Below w.heap.size w w' := by
  go_enter Try.func30, Try.ntmps30
  go_wp2_with fail
  refine (find_nil s w).mono ?_
  rintro e w1 ⟨rfl, B1⟩
  go_wp2
  go_ret
  exact ⟨rfl, B1⟩
end Go.Proofs.Ytgclancneohpbaa
