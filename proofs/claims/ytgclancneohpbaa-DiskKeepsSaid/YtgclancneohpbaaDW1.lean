/- Walks: the program's disk: isName. -/
import Derived.Test.YtgclancneohpbaaProg
import Derived.Test.YtgclancneohpbaaStr
import Derived.WalkLawsBesides
import Derived.Outline
namespace Go.Proofs.Ytgclancneohpbaa
open Go.RowKit
/-- a byte of a file's name -/
def dByte (c : UInt8) : Bool := (97 ≤ c && c ≤ 122) || (48 ≤ c && c ≤ 57) || c == 46 || c == 45
def dName (l : List UInt8) : Bool := l.all dByte && decide (1 ≤ l.length) && decide (l.length ≤ 32)
theorem dByte_int (c : UInt8) : dByte c = (decide (97 ≤ (c.toNat : Int)) && decide ((c.toNat : Int) ≤ 122) || decide (48 ≤ (c.toNat : Int)) && decide ((c.toNat : Int) ≤ 57) || decide ((c.toNat : Int) = 46) || decide ((c.toNat : Int) = 45)) := by
  unfold dByte
  have e1 : (c == 46) = decide ((c.toNat : Int) = 46) := by
    rw [Bool.eq_iff_iff]; simp [← UInt8.toNat_inj]; omega
  have e2 : (c == 45) = decide ((c.toNat : Int) = 45) := by
    rw [Bool.eq_iff_iff]; simp [← UInt8.toNat_inj]; omega
  rw [e1, e2]
  simp only [UInt8.le_iff_toNat_le]
  rw [Bool.eq_iff_iff]
  simp
  omega
theorem dnot_all (s : ByteArray) (k : Nat) (h : k < s.size) (hn : dByte s[k] = false) : dName s.data.toList = false := by
  unfold dName
  have : s.data.toList.all dByte = false := by
    rw [List.all_eq_false]
    exact ⟨s[k], by simp [ByteArray.getElem_eq_getElem_data], by simp [hn]⟩
  simp [this]
theorem dall_step (s : ByteArray) (k : Nat) (h : k < s.size) (h0 : (s.data.toList.take k).all dByte = true) (h1 : dByte s[k] = true) : (s.data.toList.take (k + 1)).all dByte = true := by
  rw [take_snoc s k h]; simp only [List.all_append, h0, List.all_cons, List.all_nil, Bool.and_true, h1]
theorem dName_all (s : ByteArray) (h : s.data.toList.all dByte = true) : dName s.data.toList = (!s.toList.isEmpty && decide ((s.size : Int) ≤ 32)) := by
  unfold dName
  rw [h, Lib.toList_data, Lib.size_eq]
  cases hl : s.data.toList <;> simp
  omega
theorem dbT1 (c : UInt8) (h : 97 ≤ (c.toNat : Int)) (h2 : (c.toNat : Int) ≤ 122) : dByte c = true := by rw [dByte_int]; simp; omega
theorem dbT2 (c : UInt8) (h : 48 ≤ (c.toNat : Int)) (h2 : (c.toNat : Int) ≤ 57) : dByte c = true := by rw [dByte_int]; simp; omega
theorem dbT3 (c : UInt8) (h : ((c.toNat : Int) == 46) = true) : dByte c = true := by rw [dByte_int]; simp at h; simp; omega
theorem dbT4 (c : UInt8) (h : ((c.toNat : Int) == 45) = true) : dByte c = true := by rw [dByte_int]; simp at h; simp; omega
theorem dbF (c : UInt8) (h1 : ¬ (97 ≤ (c.toNat : Int) ∧ (c.toNat : Int) ≤ 122)) (h2 : ¬ (48 ≤ (c.toNat : Int) ∧ (c.toNat : Int) ≤ 57)) (h3 : ((c.toNat : Int) == 46) = false) (h4 : ((c.toNat : Int) == 45) = false) : dByte c = false := by
  rw [dByte_int]; simp at h3 h4; simp; omega
set_option maxHeartbeats 1000000 in
theorem disName_calls (s : ByteArray) (w : World) (hs : s.size ≤ maxLen) :
    Calls Try.prog 77 #[.string s] w fun e w' => e = .returned (.bool (dName s.data.toList)) ∧ w = w' := by
  unfold maxLen at hs
  go_enter Try.func77, Try.ntmps77
  go_wp2
  go_loop [7] (fun i => ∃ k : Nat, k ≤ s.size ∧ i = .int .i64 k ∧ (s.data.toList.take k).all dByte = true) (fun i => s.size - (intOf i).toNat)
  case atStart => exact ⟨0, Nat.zero_le _, rfl, by simp⟩
  case round =>
    obtain ⟨k, hk, rfl, hall⟩ := hrel
    have hall' := Lib.hid hall
    clear hall
    by_cases hlt : k < s.size
    · go_wp2
      all_goals first
        | (go_round
           case rel => exact ⟨k + 1, by omega, by go_num, dall_step s k hlt hall'.out (by first | exact dbT1 _ (by assumption) (by assumption) | exact dbT2 _ (by assumption) (by assumption) | exact dbT3 _ (by assumption) | exact dbT4 _ (by assumption))⟩
           case measure => simp [intOf]; omega)
        | (go_ret
           exact ⟨ret_bool (dnot_all s k hlt (dbF _ (by omega) (by omega) (by assumption) (by assumption))).symm, rfl⟩)
    · have hn := dName_all s (by have h := hall'.out; rwa [List.take_of_length_le (by rw [← Lib.size_eq]; omega)] at h)
      have hn' := Lib.hid hn
      clear hn
      go_wp2
      all_goals (go_ret; refine ⟨ret_bool ?_, rfl⟩; rw [hn'.out]; try simp_all)
end Go.Proofs.Ytgclancneohpbaa
