/- The law DiskNil: the walk. -/
import Derived.Test.YtgclancneohpbaaDL1
import Derived.Test.YtgclancneohpbaaDNil
namespace Go.Proofs.Ytgclancneohpbaa
open Go.RowKit
set_option maxHeartbeats 2000000 in
set_option maxRecDepth 100000 in
theorem diskNil_calls (s : ByteArray) (p : Option Addr) (n c : Nat) (w : World) : Calls Try.prog 11 #[.string s, .slice p n c] w fun e w' => e = .returned (.bool true) ∧ Below w.heap.size w w' := by
  go_enter Try.func11, Try.ntmps11
  go_wp2_with fail
  refine (fixed01_calls w).mono ?_
  rintro e w1 ⟨rfl, B⟩
  go_wp2_with fail
  refine (dfuse_nil n w1).mono ?_
  rintro e w2 ⟨rfl, rfl⟩
  go_wp2_with fail
  refine (dcrash_nil p n c w1).mono ?_
  rintro e w2 ⟨rfl, b⟩
  replace B := B.trans (b.mono B.size)
  clear b
  go_wp2_with fail
  refine (dread_nil s _).mono ?_
  rintro e w3 ⟨rfl, b⟩
  replace B := B.trans (b.mono B.size)
  clear b
  go_wp2_with fail
  refine (dcreate_nil s _).mono ?_
  rintro e w4 ⟨rfl, b⟩
  replace B := B.trans (b.mono B.size)
  clear b
  go_wp2_with fail
  refine (dappend_nil s _ _).mono ?_
  rintro e w5 ⟨rfl, b⟩
  replace B := B.trans (b.mono B.size)
  clear b
  go_wp2_with fail
  refine (dsync_nil s _).mono ?_
  rintro e w6 ⟨rfl, b⟩
  replace B := B.trans (b.mono B.size)
  clear b
  go_wp2_with fail
  refine (dsyncDir_nil _).mono ?_
  rintro e w7 ⟨rfl, rfl⟩
  go_wp2_with fail
  refine (drename_nil s s _).mono ?_
  rintro e w8 ⟨rfl, b⟩
  replace B := B.trans (b.mono B.size)
  clear b
  go_wp2_with fail
  refine (dremove_nil s _).mono ?_
  rintro e w9 ⟨rfl, b⟩
  replace B := B.trans (b.mono B.size)
  clear b
  go_wp2_with fail
  refine (dlist_nil _).mono ?_
  rintro e w10 ⟨rfl, rfl⟩
  go_wp2_with fail
  refine (dused_nil _).mono ?_
  rintro e w11 ⟨rfl, rfl⟩
  go_wp2
  go_ret
  exact ⟨rfl, B⟩
end Go.Proofs.Ytgclancneohpbaa
