/- Walks: tuple.of, tuple.Check. -/
import Derived.Test.YtaikedlkkjnffaaGreatDoorW1
import Derived.Test.YtaikedlkkjnffaaGreatDoorTup
namespace Go.Proofs.YtaikedlkkjnffaaGreatDoor
open Go.RowKit
theorem of_calls (t : Tup) (w : World) :
    Calls Tryz.prog 47 #[t.v] w fun e w' => e = .returned t.v ∧ Below w.heap.size w w' := by
  unfold Tup.v
  go_enter Tryz.func47, Tryz.ntmps47
  go_wp2
  exact bodyPost_ret (v := t.v) (by simp [results, Tryz.results47, go_sem, Tup.v]) rfl ⟨rfl, ((Below.refl _ _).alloc (Nat.le_refl _) _).alloc (by simp) _⟩

theorem index_parts (t : Tup) (k : Nat) (h : k < 6) (w : World) : (Instr.index 113 t.v (.int .i64 k)).run Tryz.prog w = .ok (.string (t.part k)) w := by
  rcases k with _ | _ | _ | _ | _ | _ | k <;> first | omega | kernel_rfl

set_option maxHeartbeats 400000 in
theorem check_calls (t : Tup) (w : World) (hs : t.fits) :
    Calls Tryz.prog 28 #[t.v] w fun e w' => e = .returned (.int .i64 t.check) ∧ Below w.heap.size w w' := by
  have hv : t.v = .agg #[.string t.a, .string t.b, .string t.c, .string t.d, .string t.e, .string t.f] := rfl
  rw [hv]
  go_enter Tryz.func28, Tryz.ntmps28
  go_wp2_with (go_at_call 47; refine (of_calls t _).mono ?_; rintro e w1 ⟨rfl, hb⟩)
  go_loop [7] (fun i => ∃ k : Nat, k ≤ 6 ∧ i = .int .i64 k ∧ ∀ j, j < k → partOk j (t.part j) = true) (fun i => 6 - (intOf i).toNat)
  case atStart => exact ⟨0, by omega, rfl, fun j hj => absurd hj (by omega)⟩
  case round =>
    obtain ⟨k, hk, rfl, hall⟩ := hrel
    have hall' := Lib.hid hall
    clear hall
    by_cases hlt : k < 6
    · have hi := fun w => index_parts t k hlt w
      rw [hv] at hi
      have hsz := hs _ (t.part_mem k hlt)
      go_wp2_with (go_at_call 49; refine (isName_calls _ _ hsz).mono ?_; rintro e w1 ⟨rfl, rfl⟩)
      all_goals first
        | (go_round
           case rel => exact ⟨k + 1, by omega, by go_num, ok_step t k hall'.out (by first | exact partOk_T1 (by assumption) | exact partOk_T2 (by assumption) (by assumption))⟩
           case measure => simp [intOf]; omega)
        | (go_ret
           exact ⟨ret_int (t.not_ok k hlt (by first | exact partOk_F1 (by assumption) (by assumption) | exact partOk_F2 (by assumption) (by assumption) (by assumption))).symm, ((Below.refl _ _).alloc (Nat.le_refl _) _).trans (hb.mono (by simp))⟩)
    · have hn := t.all_ok (fun j hj => hall'.out j (by omega))
      have hn' := Lib.hid hn
      clear hn
      go_wp2
      go_ret
      exact ⟨ret_int hn'.out.symm, ((Below.refl _ _).alloc (Nat.le_refl _) _).trans (hb.mono (by simp))⟩
end Go.Proofs.YtaikedlkkjnffaaGreatDoor
