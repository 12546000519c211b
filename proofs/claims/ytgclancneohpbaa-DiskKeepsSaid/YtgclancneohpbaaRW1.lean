/- Walks: the document's disk: IsName, find. -/
import Derived.Test.YtgclancneohpbaaRM
import Derived.WalkLawsBesides
namespace Go.Proofs.Ytgclancneohpbaa
open Go.RowKit Go.Maps Go.Shelf
set_option maxHeartbeats 1000000 in
theorem risName_calls (s : ByteArray) (w : World) (hs : s.size ≤ maxLen) :
    Calls Try.prog 74 #[.string s] w fun e w' => e = .returned (.bool (dName s.data.toList)) ∧ w = w' := by
  unfold maxLen at hs
  go_enter Try.func74, Try.ntmps74
  go_wp2
  go_loop [3] (fun i => ∃ k : Nat, k ≤ s.size ∧ i = .int .i64 k ∧ (s.data.toList.take k).all dByte = true) (fun i => s.size - (intOf i).toNat)
  case atStart => exact ⟨0, Nat.zero_le _, rfl, by simp⟩
  case round =>
    obtain ⟨k, hk, rfl, hall⟩ := hrel
    have hall' := Lib.hid hall
    clear hall
    by_cases hlt : k < s.size
    · go_wp2
      all_goals first
        | (go_round
           case rel => exact ⟨k + 1, by omega, by go_num, dall_step s k hlt hall'.out (by rw [dByte_int]; grind)⟩
           case measure => simp [intOf]; omega)
        | (go_ret
           exact ⟨ret_bool (dnot_all s k hlt (by rw [dByte_int]; grind)).symm, rfl⟩)
    · have hn : dName s.data.toList = (decide (1 ≤ (s.size : Int)) && decide ((s.size : Int) ≤ 32)) := by
        have h := hall'.out
        rw [List.take_of_length_le (by rw [← Lib.size_eq]; omega)] at h
        unfold dName
        rw [h, ← Lib.size_eq, Bool.true_and]
        congr 1 <;> (rw [Bool.eq_iff_iff]; simp; try omega)
      have hn' := Lib.hid hn
      clear hn
      go_wp2
      all_goals (go_ret; refine ⟨ret_bool ?_, rfl⟩; rw [hn'.out]; grind)
set_option maxHeartbeats 1000000 in
theorem rfind_calls (v : Value) (d : RDir) (s : ByteArray) (w : World) (h : DirAt w v d) (hd : d.length ≤ 100000) :
    Calls Try.prog 63 #[v, .string s] w fun e w' => e = .returned (.int .i64 (numI (rfind d s.data.toList))) ∧ Below w.heap.size w w' := by
  obtain ⟨p, c, rfl⟩ := h.slice
  have h' := Lib.hid h
  clear h
  go_enter Try.func63, Try.ntmps63
  go_wp2_with fail
  go_loopw [9] (fun i wr => ∃ k : Nat, k ≤ d.length ∧ i = .int .i64 k ∧ rfind (d.take k) s.data.toList = none ∧ Below w.heap.size w wr) (fun i _ => d.length - (intOf i).toNat)
  case atStart => exact ⟨0, Nat.zero_le _, rfl, rfl, Below.refl _ _⟩
  case round =>
    obtain ⟨k, hk, rfl, hn, hB⟩ := hrel
    have hn' := Lib.hid hn
    clear hn
    by_cases hlt : k < d.length
    · obtain ⟨g, c', n, t, hv, hc, hg, hdk, ht, q0, q1⟩ := (h'.out.later hB).name hlt
      obtain ⟨rfl, rfl⟩ : p = some ⟨g, 0, none⟩ ∧ c = c' := by simpa using hv
      have hdk' := Lib.hid hdk
      have ht' := Lib.hid ht
      have hz := hB.size
      have hse := str_eq t s
      have hBn := hB.alloc hz (.cells #[.string t, .int .i64 n.2] 108)
      clear hdk ht hv
      cases he : decide (t.data.toList = s.data.toList)
      · rw [he] at hse
        have he' := Lib.hid he
        clear he
        go_wp2_with fail
        go_roundw
        case rel => exact ⟨k + 1, by omega, by go_num, rfind_take_succ hdk'.out hn'.out (by rw [← ht'.out]; exact of_decide_eq_false he'.out), hBn⟩
        case measure => simp [intOf]; omega
      · rw [he] at hse
        have he' := Lib.hid he
        clear he
        go_wp2_with fail
        go_ret
        refine ⟨?_, hBn⟩
        rw [rfind_take hdk'.out hn'.out, if_pos (by rw [← ht'.out]; exact of_decide_eq_true he'.out)]
        rfl
    · go_wp2_with fail
      go_ret
      refine ⟨?_, hB⟩
      have := hn'.out
      rw [List.take_of_length_le (by omega)] at this
      rw [this]
      rfl
end Go.Proofs.Ytgclancneohpbaa
