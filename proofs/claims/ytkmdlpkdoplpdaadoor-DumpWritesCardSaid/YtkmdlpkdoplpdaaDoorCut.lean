/- Walks: strings.Cut at a text of one byte. -/
import Derived.Test.YtkmdlpkdoplpdaaDoorShelf
import Derived.Test.YtkmdlpkdoplpdaaDoorStr
import Derived.Lib.CutLaws
import Derived.RegionTactic
namespace Go.Proofs.YtkmdlpkdoplpdaaDoor
open Go.RowKit

/-- what stands ahead of a byte, and behind it; false: it is not there -/
def cut1 (c : UInt8) : List UInt8 → List UInt8 × List UInt8 × Bool
  | [] => ([], [], false)
  | b :: l => if b == c then ([], l, true) else (b :: (cut1 c l).1, (cut1 c l).2.1, (cut1 c l).2.2)
def cA (c : UInt8) (s : ByteArray) : ByteArray := ⟨(cut1 c s.data.toList).1.toArray⟩
def cB (c : UInt8) (s : ByteArray) : ByteArray := ⟨(cut1 c s.data.toList).2.1.toArray⟩
def cH (c : UInt8) (s : ByteArray) : Bool := (cut1 c s.data.toList).2.2
def cutB (c : UInt8) (s : ByteArray) : Value := .tuple #[.string (cA c s), .string (cB c s), .bool (cH c s)]
theorem cut1_le (c : UInt8) : ∀ (l : List UInt8), (cut1 c l).1.length ≤ l.length ∧ (cut1 c l).2.1.length ≤ l.length
  | [] => by simp [cut1]
  | b :: l => by
    have := cut1_le c l
    unfold cut1
    split <;> simp <;> omega
theorem cA_le (c : UInt8) (s : ByteArray) : (cA c s).size ≤ s.size := by
  rw [Lib.size_eq, Lib.size_eq]; exact (cut1_le c _).1
theorem cB_le (c : UInt8) (s : ByteArray) : (cB c s).size ≤ s.size := by
  rw [Lib.size_eq, Lib.size_eq]; exact (cut1_le c _).2

theorem cut1_miss (c : UInt8) : ∀ (l : List UInt8), Lib.indexByte l c = -1 → cut1 c l = (l, [], false)
  | [], _ => rfl
  | b :: l, h => by
    unfold Lib.indexByte at h
    by_cases hb : (b == c) = true
    · rw [if_pos hb] at h; omega
    · rw [if_neg hb] at h
      have hge := Lib.indexByte_ge l c
      by_cases hi : (Lib.indexByte l c == -1) = true
      · rw [cut1, if_neg hb, cut1_miss c l (by simpa using hi)]
      · rw [if_neg hi] at h
        simp at hi; omega
theorem cut1_hit (c : UInt8) : ∀ (l : List UInt8) (i : Nat), Lib.indexByte l c = i → cut1 c l = (l.take i, l.drop (i + 1), true) ∧ i < l.length
  | [], i, h => by unfold Lib.indexByte at h; omega
  | b :: l, i, h => by
    unfold Lib.indexByte at h
    by_cases hb : (b == c) = true
    · rw [if_pos hb] at h
      obtain rfl : i = 0 := by omega
      rw [cut1, if_pos hb]; simp
    · rw [if_neg hb] at h
      have hge := Lib.indexByte_ge l c
      by_cases hi : (Lib.indexByte l c == -1) = true
      · rw [if_pos hi] at h; omega
      · rw [if_neg hi] at h
        simp at hi
        obtain ⟨e, hl⟩ := cut1_hit c l (i - 1) (by omega)
        obtain ⟨j, rfl⟩ : ∃ j, i = j + 1 := ⟨i - 1, by omega⟩
        rw [cut1, if_neg hb, e]
        simp at hl ⊢
        omega
theorem cutB_miss (c : UInt8) (s : ByteArray) (h : Lib.indexByte s.data.toList c = -1) : cutB c s = .tuple #[.string s, .string ⟨#[]⟩, .bool false] := by
  unfold cutB cA cB cH; rw [cut1_miss c _ h]
theorem cutB_hit (c : UInt8) (s : ByteArray) (i : Nat) (h : Lib.indexByte s.data.toList c = i) : cutB c s = .tuple #[.string (s.extract 0 i), .string (s.extract (i + 1) s.size), .bool true] ∧ i < s.size := by
  obtain ⟨e, hl⟩ := cut1_hit c _ i h
  rw [← Lib.size_eq] at hl
  have ht : List.take (s.size - (i + 1)) (List.drop (i + 1) s.data.toList) = List.drop (i + 1) s.data.toList :=
    List.take_of_length_le (by rw [List.length_drop, ← Lib.size_eq]; exact Nat.le_refl _)
  unfold cutB cA cB cH; rw [e, Lib.extract_eq, Lib.extract_eq, ht]
  exact ⟨by simp, hl⟩

set_option maxHeartbeats 1000000 in
theorem slCut_calls (s : ByteArray) (c : UInt8) (w : World) (hs : s.size ≤ maxLen) :
    Calls Tryd.prog 38 #[.string s, .string ⟨#[c]⟩] w fun e w' => e = .returned (cutB c s) ∧ Below w.heap.size w w' := by
  unfold maxLen at hs
  have hge := Lib.indexByte_ge s.data.toList c
  by_cases hi : Lib.indexByte s.data.toList c = -1
  · rw [cutB_miss c s hi]
    go_enter Tryd.func38, Tryd.ntmps38
    go_wp2_with (go_at_call 51; refine (Tryd.stringslite_Index_one _ _ _).mono ?_; rintro e w' ⟨rfl, rfl⟩; rw [hi])
    go_ret3
    exact ⟨rfl, Below.refl _ _⟩
  · obtain ⟨i, hi'⟩ : ∃ i : Nat, Lib.indexByte s.data.toList c = i := ⟨(Lib.indexByte s.data.toList c).toNat, by omega⟩
    obtain ⟨e, hl⟩ := cutB_hit c s i hi'
    rw [e]
    have c1 : (0 : Int) ≤ ↑i := by omega
    have c2 : (↑i : Int) ≤ ↑s.size := by omega
    have c3 : (0 : Int) ≤ ↑i + 1 := by omega
    have c4 : (↑i + 1 : Int) ≤ ↑s.size := by omega
    clear hge hi
    have hi2 := Lib.hid hi'
    clear hi' e
    go_enter Tryd.func38, Tryd.ntmps38
    go_wp2_with (go_at_call 51; refine (Tryd.stringslite_Index_one _ _ _).mono ?_; rintro e w' ⟨rfl, rfl⟩; rw [hi2.out])
    go_region
    go_wp2
    go_ret3
    exact ⟨rfl, (Below.refl _ _).drew⟩
theorem cut_calls (s : ByteArray) (c : UInt8) (w : World) (hs : s.size ≤ maxLen) :
    Calls Tryd.prog 21 #[.string s, .string ⟨#[c]⟩] w fun e w' => e = .returned (.tuple #[.string (cA c s), .string (cB c s), .bool (cH c s)]) ∧ Below w.heap.size w w' := by
  go_enter Tryd.func21, Tryd.ntmps21
  go_wp2_with (go_at_call 38; refine (slCut_calls _ _ _ hs).mono ?_; rintro e w' ⟨rfl, hb⟩; unfold cutB)
  go_ret3
  exact ⟨rfl, hb⟩
end Go.Proofs.YtkmdlpkdoplpdaaDoor
