/- Walks: the reference's IsName, Check, upTo. -/
import Derived.Test.YtkmdlpkdoplpdaaDoorW5
import Derived.Test.YtkmdlpkdoplpdaaDoorParse
namespace Go.Proofs.YtkmdlpkdoplpdaaDoor
open Go.RowKit
theorem isName_len (s : ByteArray) (h : s.data.toList.all nameByte = true) : isName s.data.toList = (decide (1 ≤ (s.size : Int)) && decide ((s.size : Int) ≤ 32)) := by
  unfold isName
  rw [h, Lib.size_eq]
  rw [Bool.eq_iff_iff]
  simp
  omega
set_option maxHeartbeats 400000 in
theorem refIsName_calls (s : ByteArray) (w : World) (hs : s.size ≤ maxLen) :
    Calls Tryd.prog 40 #[.string s] w fun e w' => e = .returned (.bool (isName s.data.toList)) ∧ w = w' := by
  unfold maxLen at hs
  go_enter Tryd.func40, Tryd.ntmps40
  go_wp2
  go_loop [3] (fun i => ∃ k : Nat, k ≤ s.size ∧ i = .int .i64 k ∧ (s.data.toList.take k).all nameByte = true) (fun i => s.size - (intOf i).toNat)
  case atStart => exact ⟨0, Nat.zero_le _, rfl, by simp⟩
  case round =>
    obtain ⟨k, hk, rfl, hall⟩ := hrel
    have hall' := Lib.hid hall
    clear hall
    by_cases hlt : k < s.size
    · go_wp2
      all_goals first
        | (go_round
           case rel => exact ⟨k + 1, by omega, by go_num, all_step s k hlt hall'.out (by rw [nameByte_int]; grind)⟩
           case measure => simp [intOf]; omega)
        | (go_ret
           exact ⟨ret_bool (not_all s k hlt (by rw [nameByte_int]; grind)).symm, rfl⟩)
    · have hn := isName_len s (by have h := hall'.out; rwa [List.take_of_length_le (by rw [← Lib.size_eq]; omega)] at h)
      have hn' := Lib.hid hn
      clear hn
      go_wp2
      all_goals (go_ret; refine ⟨ret_bool ?_, rfl⟩; rw [hn'.out]; grind)
theorem upTo_hit {s : ByteArray} {c : UInt8} {k : Nat} (h : k < s.size) (hn : c ∉ s.data.toList.take k) (hc : s[k] = c) : cA c s = s.extract 0 k ∧ cB c s = s.extract (k + 1) s.size ∧ cH c s = true := by
  have hl : k < s.data.toList.length := by rw [← Lib.size_eq]; exact h
  have e : s.data.toList = s.data.toList.take k ++ c :: s.data.toList.drop (k + 1) := by
    have h1 : s.data.toList[k] = c := by rw [← hc]; rfl
    conv => lhs; rw [← List.take_append_drop k s.data.toList, List.drop_eq_getElem_cons hl, h1]
  have hcut := cut1_app c _ (s.data.toList.drop (k + 1)) hn
  rw [← e] at hcut
  have ht : List.take (s.size - (k + 1)) (List.drop (k + 1) s.data.toList) = List.drop (k + 1) s.data.toList :=
    List.take_of_length_le (by rw [List.length_drop, ← Lib.size_eq]; exact Nat.le_refl _)
  refine ⟨?_, ?_, ?_⟩
  · unfold cA; rw [hcut, Lib.extract_eq]; simp
  · unfold cB; rw [hcut, Lib.extract_eq, ht]
  · unfold cH; rw [hcut]
theorem upTo_miss {s : ByteArray} {c : UInt8} (hn : c ∉ s.data.toList) : cA c s = s ∧ cB c s = ⟨#[]⟩ ∧ cH c s = false := by
  have hcut := cut1_none c _ hn
  refine ⟨?_, ?_, ?_⟩
  · unfold cA; rw [hcut]
  · unfold cB; rw [hcut]
  · unfold cH; rw [hcut]
theorem upTo_next {s : ByteArray} {c : UInt8} {k : Nat} (h : k < s.size) (hn : c ∉ s.data.toList.take k) (hc : ((s[k].toNat : Int) == (c.toNat : Int)) = false) : c ∉ s.data.toList.take (k + 1) := by
  rw [take_snoc s k h]
  simp only [List.mem_append, List.mem_singleton, not_or]
  refine ⟨hn, fun e => ?_⟩
  rw [e] at hc
  simp at hc
theorem ret_ssb {a a' b b' : ByteArray} {x x' : Bool} (h1 : a = a') (h2 : b = b') (h3 : x = x') : Ending.returned (.tuple #[.string a, .string b, .bool x]) = .returned (.tuple #[.string a', .string b', .bool x']) := by rw [h1, h2, h3]
set_option maxHeartbeats 400000 in
theorem upTo_calls (s : ByteArray) (c : UInt8) (w : World) (hs : s.size ≤ maxLen) :
    Calls Tryd.prog 41 #[.string s, .int .u8 c.toNat] w fun e w' => e = .returned (.tuple #[.string (cA c s), .string (cB c s), .bool (cH c s)]) ∧ Below w.heap.size w w' := by
  unfold maxLen at hs
  go_enter Tryd.func41, Tryd.ntmps41
  go_wp2
  go_loop [7] (fun i => ∃ k : Nat, k ≤ s.size ∧ i = .int .i64 k ∧ c ∉ s.data.toList.take k) (fun i => s.size - (intOf i).toNat)
  case atStart => exact ⟨0, Nat.zero_le _, rfl, by simp⟩
  case round =>
    obtain ⟨k, hk, rfl, hall⟩ := hrel
    have hall' := Lib.hid hall
    clear hall
    by_cases hlt : k < s.size
    · by_cases hc : s[k] = c
      · obtain ⟨e1, e2, e3⟩ := upTo_hit hlt hall'.out hc
        have e1' := Lib.hid e1
        have e2' := Lib.hid e2
        have e3' := Lib.hid e3
        clear e1 e2 e3
        have c1 : ((s[k].toNat : Int) == (c.toNat : Int)) = true := by rw [hc]; simp
        have c2 : (0 : Int) ≤ ↑k := by omega
        have c3 : (↑k : Int) ≤ ↑s.size := by omega
        have c4 : (0 : Int) ≤ ↑k + 1 := by omega
        have c5 : (↑k + 1 : Int) ≤ ↑s.size := by omega
        clear hc
        go_wp2_with fail
        go_quiet (fail)
        go_wp2
        go_ret3
        exact ⟨ret_ssb e1'.out.symm e2'.out.symm e3'.out.symm, bdrewN (Below.refl _ _) _⟩
      · have c1 : ((s[k].toNat : Int) == (c.toNat : Int)) = false := by
          rw [beq_eq_false_iff_ne]
          intro e
          exact hc (UInt8.toNat_inj.1 (by omega))
        clear hc
        go_wp2
        go_round
        case rel => exact ⟨k + 1, by omega, by go_num, upTo_next hlt hall'.out c1⟩
        case measure => simp [intOf]; omega
    · obtain ⟨e1, e2, e3⟩ := upTo_miss (by have h := hall'.out; rwa [List.take_of_length_le (by rw [← Lib.size_eq]; omega)] at h)
      have e1' := Lib.hid e1
      have e2' := Lib.hid e2
      have e3' := Lib.hid e3
      clear e1 e2 e3
      go_wp2
      go_ret3
      exact ⟨ret_ssb e1'.out.symm e2'.out.symm e3'.out.symm, Below.refl _ _⟩
set_option maxHeartbeats 400000 in
theorem refCheck_calls (t : Tup) (w : World) (hs : t.fits) :
    Calls Tryd.prog 25 #[t.v] w fun e w' => e = .returned (.int .i64 t.check) ∧ Below w.heap.size w w' := by
  unfold Tup.v
  go_enter Tryd.func25, Tryd.ntmps25
  go_wp2_with fail
  refine (parts_below t _).mono ?_
  rintro e w1 ⟨g, rfl, hk, hg, hb⟩
  have B1 : Below w.heap.size w w1 := ((Below.refl _ _).alloc (Nat.le_refl _) _).trans (hb.mono (by simp))
  have hk' := Lib.hid hk
  clear hk hg hb
  go_wp2
  go_loop [8] (fun i => ∃ k : Nat, k ≤ 6 ∧ i = .int .i64 k ∧ ∀ j, j < k → partOk j (t.part j) = true) (fun i => 6 - (intOf i).toNat)
  case atStart => exact ⟨0, by omega, rfl, fun j hj => absurd hj (by omega)⟩
  case round =>
    obtain ⟨k, hk, rfl, hall⟩ := hrel
    have hall' := Lib.hid hall
    clear hall
    by_cases hlt : k < 6
    · have q1 : w1.cell? ⟨g, k, none⟩ = some (.string (t.part k)) := (hk'.out.cell k).trans (cells_part t k hlt)
      have hsz := hs _ (t.part_mem k hlt)
      go_wp2_with (go_at_call 40; refine (refIsName_calls _ _ hsz).mono ?_; rintro e w2 ⟨rfl, rfl⟩)
      all_goals first
        | (go_round
           case rel => exact ⟨k + 1, by omega, by go_num, ok_step t k hall'.out (by unfold partOk; grind)⟩
           case measure => simp [intOf]; omega)
        | (go_ret
           exact ⟨ret_int (t.not_ok k hlt (by unfold partOk; grind)).symm, B1⟩)
    · have hn := t.all_ok (fun j hj => hall'.out j (by omega))
      have hn' := Lib.hid hn
      clear hn
      go_wp2
      go_ret
      exact ⟨ret_int hn'.out.symm, B1⟩
end Go.Proofs.YtkmdlpkdoplpdaaDoor
