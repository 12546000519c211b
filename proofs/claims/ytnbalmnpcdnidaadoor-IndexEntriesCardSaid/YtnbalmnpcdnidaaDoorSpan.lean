/- Pieces of a text behind its first byte, one byte at a time. No program in sight. -/
import Derived.Test.YtnbalmnpcdnidaaDoorIdx
import Derived.Test.YtnbalmnpcdnidaaDoorW11
namespace Go.Proofs.YtnbalmnpcdnidaaDoor
open Go.RowKit
def spF (s : ByteArray) : Nat → List ByteArray × ByteArray
  | 0 => ([], nilB)
  | j + 1 => if j = 0 then ([], nilB) else if h : j < s.size then (if s[j] = 0 then ((spF s j).1 ++ [(spF s j).2], nilB) else ((spF s j).1, (spF s j).2 ++ s.extract j (j + 1))) else spF s j
theorem spF_one (s : ByteArray) : spF s 1 = ([], nilB) := rfl
theorem spF_cut {s : ByteArray} {j : Nat} (h1 : 1 ≤ j) (h : j < s.size) (hz : s[j] = 0) : spF s (j + 1) = ((spF s j).1 ++ [(spF s j).2], nilB) := by
  rw [spF, if_neg (by omega), dif_pos h, if_pos hz]
theorem spF_part {s : ByteArray} {j : Nat} (h1 : 1 ≤ j) (h : j < s.size) (hz : s[j] ≠ 0) : spF s (j + 1) = ((spF s j).1, (spF s j).2 ++ s.extract j (j + 1)) := by
  rw [spF, if_neg (by omega), dif_pos h, if_neg hz]
theorem extract_one (s : ByteArray) (j : Nat) (h : j < s.size) : (s.extract j (j + 1)).data.toList = [s[j]] := by
  rw [Lib.extract_eq]
  have hl : j < s.data.toList.length := by rw [← Lib.size_eq]; exact h
  rw [List.drop_eq_getElem_cons hl]
  simp
  rfl
theorem app_toList (a b : ByteArray) : (a ++ b).data.toList = a.data.toList ++ b.data.toList := by simp
def bl (l : List ByteArray) : List (List UInt8) := l.map fun p => p.data.toList
theorem bl_snoc (l : List ByteArray) (p : ByteArray) : bl (l ++ [p]) = bl l ++ [p.data.toList] := by simp [bl]
/-- what the pieces are of -/
theorem spF_said (s : ByteArray) : ∀ j, 1 ≤ j → j ≤ s.size → (s.data.toList.take j).drop 1 = keyL (bl (spF s j).1) ++ (spF s j).2.data.toList ∧ (∀ p ∈ bl (spF s j).1, NoZero p) ∧ NoZero (spF s j).2.data.toList ∧ (spF s j).2.size ≤ j ∧ (spF s j).1.length ≤ j
  | 0, h, _ => by omega
  | j + 1, _, h => by
    by_cases h0 : j = 0
    · subst h0
      rw [spF_one]
      refine ⟨?_, by simp [bl], by simp [nilB, NoZero], Nat.zero_le _, by simp⟩
      simp [bl, keyL, nilB]
    · obtain ⟨i1, i2, i3, i4, i5⟩ := spF_said s j (by omega) (by omega)
      have hj : j < s.size := by omega
      have hd : (s.data.toList.take (j + 1)).drop 1 = (s.data.toList.take j).drop 1 ++ [s[j]] := by
        rw [take_snoc s j hj, List.drop_append_of_le_length]
        rw [List.length_take, ← Lib.size_eq]; omega
      rw [hd, i1]
      by_cases hz : s[j] = 0
      · rw [spF_cut (by omega) hj hz, hz]
        refine ⟨?_, ?_, by simp [nilB, NoZero], Nat.zero_le _, by simp; omega⟩
        · rw [bl_snoc, keyL_app]; simp [nilB]
        · rw [bl_snoc]
          intro p hp
          rcases List.mem_append.1 hp with hp | hp
          · exact i2 p hp
          · rw [List.mem_singleton.1 hp]; exact i3
      · rw [spF_part (by omega) hj hz]
        refine ⟨?_, i2, ?_, ?_, by simp; omega⟩
        · show _ = _ ++ ((spF s j).2 ++ s.extract j (j + 1)).data.toList
          rw [app_toList, extract_one s j hj, List.append_assoc]
        · show NoZero ((spF s j).2 ++ s.extract j (j + 1)).data.toList
          have : ((spF s j).2 ++ s.extract j (j + 1)).data.toList = (spF s j).2.data.toList ++ [s[j]] := by rw [app_toList, extract_one s j hj]
          rw [this]
          intro h0
          rcases List.mem_append.1 h0 with h0 | h0
          · exact i3 h0
          · exact hz (List.mem_singleton.1 h0).symm
        · show ((spF s j).2 ++ s.extract j (j + 1)).size ≤ _
          rw [ByteArray.size_append, Lib.size_eq (s.extract j (j + 1)), extract_one s j hj]
          simp; omega
theorem split1_keyz : ∀ (l : List (List UInt8)) (z : List UInt8), (∀ p ∈ l, NoZero p) → NoZero z → split1 0 (keyL l ++ z) = l ++ [z]
  | [], z, _, hz => by simpa [keyL] using split1_none 0 z hz
  | p :: l, z, hl, hz => by
    have ih := split1_keyz l z (fun q hq => hl q (List.mem_cons_of_mem _ hq)) hz
    have e : keyL (p :: l) ++ z = p ++ 0 :: (keyL l ++ z) := by simp [keyL]
    rw [e, split1_app 0 p _ (hl p List.mem_cons_self), ih]
    rfl
theorem spF_split {s : ByteArray} (h : 1 ≤ s.size) : splitB1 0 (rest1 s) = (spF s s.size).1 ++ [(spF s s.size).2] := by
  obtain ⟨i1, i2, i3, _, _⟩ := spF_said s s.size h (Nat.le_refl _)
  rw [List.take_of_length_le (by rw [← Lib.size_eq]; exact Nat.le_refl _)] at i1
  unfold splitB1
  have e : (rest1 s).data.toList = keyL (bl (spF s s.size).1) ++ (spF s s.size).2.data.toList := i1
  rw [e, split1_keyz _ _ i2 i3, List.map_append, bl, List.map_map]
  congr 1
  · exact (List.map_congr_left fun p _ => rfl).trans (List.map_id _)
end Go.Proofs.YtnbalmnpcdnidaaDoor
