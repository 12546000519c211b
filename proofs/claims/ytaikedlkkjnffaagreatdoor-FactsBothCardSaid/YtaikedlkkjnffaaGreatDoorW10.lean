/- Walks: the reference's IsName, Check, upTo. -/
import Derived.Test.YtaikedlkkjnffaaGreatDoorW5
namespace Go.Proofs.YtaikedlkkjnffaaGreatDoor
open Go.RowKit
theorem isName_len (s : ByteArray) (h : s.data.toList.all nameByte = true) : isName s.data.toList = (decide (1 ≤ (s.size : Int)) && decide ((s.size : Int) ≤ 32)) := by
  unfold isName
  rw [h, Lib.size_eq]
  rw [Bool.eq_iff_iff]
  simp
  omega
set_option maxHeartbeats 400000 in
theorem refIsName_calls (s : ByteArray) (w : World) (hs : s.size ≤ maxLen) :
    Calls Tryz.prog 50 #[.string s] w fun e w' => e = .returned (.bool (isName s.data.toList)) ∧ w = w' := by
  unfold maxLen at hs
  go_enter Tryz.func50, Tryz.ntmps50
  go_wp2
  go_loop [3] (fun i => ∃ k : Nat, k ≤ s.size ∧ i = .int .i64 k ∧ (s.data.toList.take k).all nameByte = true) (fun i => s.size - (intOf i).toNat)
  case atStart => exact ⟨0, Nat.zero_le _, rfl, by simp⟩
  case round =>
    obtain ⟨k, hk, rfl, hall⟩ := hrel
    have hall' := Lib.hid hall
    clear hall
    by_cases hlt : k < s.size
    · go_wp2
      all_goals first
        | (go_round
           case rel => exact ⟨k + 1, by omega, by go_num, all_step s k hlt hall'.out (by rw [nameByte_int]; grind)⟩
           case measure => simp [intOf]; omega)
        | (go_ret
           exact ⟨ret_bool (not_all s k hlt (by rw [nameByte_int]; grind)).symm, rfl⟩)
    · have hn := isName_len s (by have h := hall'.out; rwa [List.take_of_length_le (by rw [← Lib.size_eq]; omega)] at h)
      have hn' := Lib.hid hn
      clear hn
      go_wp2
      all_goals (go_ret; refine ⟨ret_bool ?_, rfl⟩; rw [hn'.out]; grind)
set_option maxHeartbeats 400000 in
theorem refCheck_calls (t : Tup) (w : World) (hs : t.fits) :
    Calls Tryz.prog 29 #[t.v] w fun e w' => e = .returned (.int .i64 t.check) ∧ Below w.heap.size w w' := by
  unfold Tup.v
  go_enter Tryz.func29, Tryz.ntmps29
  go_wp2_with fail
  refine (parts_below t _).mono ?_
  rintro e w1 ⟨g, rfl, hk, hg, hb⟩
  have B1 : Below w.heap.size w w1 := ((Below.refl _ _).alloc (Nat.le_refl _) _).trans (hb.mono (by simp))
  have hk' := Lib.hid hk
  clear hk hg hb
  go_wp2
  go_loop [8] (fun i => ∃ k : Nat, k ≤ 6 ∧ i = .int .i64 k ∧ ∀ j, j < k → partOk j (t.part j) = true) (fun i => 6 - (intOf i).toNat)
  case atStart => exact ⟨0, by omega, rfl, fun j hj => absurd hj (by omega)⟩
  case round =>
    obtain ⟨k, hk, rfl, hall⟩ := hrel
    have hall' := Lib.hid hall
    clear hall
    by_cases hlt : k < 6
    · have q1 : w1.cell? ⟨g, k, none⟩ = some (.string (t.part k)) := (hk'.out.cell k).trans (cells_part t k hlt)
      have hsz := hs _ (t.part_mem k hlt)
      go_wp2_with (go_at_call 50; refine (refIsName_calls _ _ hsz).mono ?_; rintro e w2 ⟨rfl, rfl⟩)
      all_goals first
        | (go_round
           case rel => exact ⟨k + 1, by omega, by go_num, ok_step t k hall'.out (by unfold partOk; grind)⟩
           case measure => simp [intOf]; omega)
        | (go_ret
           exact ⟨ret_int (t.not_ok k hlt (by unfold partOk; grind)).symm, B1⟩)
    · have hn := t.all_ok (fun j hj => hall'.out j (by omega))
      have hn' := Lib.hid hn
      clear hn
      go_wp2
      go_ret
      exact ⟨ret_int hn'.out.symm, B1⟩
end Go.Proofs.YtaikedlkkjnffaaGreatDoor
