/- Walks: tuple.IsName. -/
import Derived.Test.YtaikedlkkjnffaaGreatDoorRows
import Derived.Test.YtaikedlkkjnffaaGreatDoorStr
import Derived.WalkLawsBesides
import Derived.Lib.Hide
import Derived.Outline
import Derived.BigQuiet
import Derived.Deep.QuietTactic
namespace Go.Proofs.YtaikedlkkjnffaaGreatDoor
open Go.RowKit
set_option maxHeartbeats 400000 in
theorem isName_calls (s : ByteArray) (w : World) (hs : s.size ≤ maxLen) :
    Calls Tryz.prog 49 #[.string s] w fun e w' => e = .returned (.bool (isName s.data.toList)) ∧ w = w' := by
  unfold maxLen at hs
  go_enter Tryz.func49, Tryz.ntmps49
  go_wp2
  go_loop [7] (fun i => ∃ k : Nat, k ≤ s.size ∧ i = .int .i64 k ∧ (s.data.toList.take k).all nameByte = true) (fun i => s.size - (intOf i).toNat)
  case atStart => exact ⟨0, Nat.zero_le _, rfl, by simp⟩
  case round =>
    obtain ⟨k, hk, rfl, hall⟩ := hrel
    have hall' := Lib.hid hall
    clear hall
    by_cases hlt : k < s.size
    · go_wp2
      all_goals first
        | (go_round
           case rel => exact ⟨k + 1, by omega, by go_num, all_step s k hlt hall'.out (by first | exact nbT1 _ (by assumption) (by assumption) | exact nbT2 _ (by assumption) (by assumption) | exact nbT3 _ (by assumption) | exact nbT4 _ (by assumption))⟩
           case measure => simp [intOf]; omega)
        | (go_ret
           exact ⟨ret_bool (not_all s k hlt (nbF _ (by omega) (by omega) (by assumption) (by assumption))).symm, rfl⟩)
    · have hn := isName_all s (by have h := hall'.out; rwa [List.take_of_length_le (by rw [← Lib.size_eq]; omega)] at h)
      have hn' := Lib.hid hn
      clear hn
      go_wp2
      all_goals (go_ret; refine ⟨ret_bool ?_, rfl⟩; rw [hn'.out]; try simp_all)
end Go.Proofs.YtaikedlkkjnffaaGreatDoor
