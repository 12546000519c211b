/- Keys: the program's way (a split) and the document's way are one. No program in sight. -/
import Derived.Test.YtkmdlpkdoplpdaaDoorParse
import Derived.Lib.Split
import Derived.Lib.IndexBytes
namespace Go.Proofs.YtkmdlpkdoplpdaaDoor
open Go.RowKit

/-- the pieces between the instances of a byte -/
def split1 (c : UInt8) : List UInt8 → List (List UInt8)
  | [] => [[]]
  | b :: l => if b == c then [] :: split1 c l else
    match split1 c l with
    | [] => [[b]]
    | p :: ps => (b :: p) :: ps
theorem split1_ne (c : UInt8) : ∀ l, split1 c l ≠ []
  | [] => by simp [split1]
  | b :: l => by
    unfold split1
    split
    · simp
    · split <;> simp
theorem split1_app (c : UInt8) : ∀ (p x : List UInt8), c ∉ p → split1 c (p ++ c :: x) = p :: split1 c x
  | [], x, _ => by simp [split1]
  | b :: p, x, h => by
    have hb : ¬ (b == c) = true := fun e => h (by rw [beq_iff_eq] at e; rw [e]; exact List.mem_cons_self)
    rw [List.cons_append, split1, if_neg hb, split1_app c p x fun h' => h (List.mem_cons_of_mem _ h')]
theorem split1_none (c : UInt8) : ∀ (p : List UInt8), c ∉ p → split1 c p = [p]
  | [], _ => rfl
  | b :: p, h => by
    have hb : ¬ (b == c) = true := fun e => h (by rw [beq_iff_eq] at e; rw [e]; exact List.mem_cons_self)
    rw [split1, if_neg hb, split1_none c p fun h' => h (List.mem_cons_of_mem _ h')]
theorem splitK_one (c : UInt8) : ∀ (n : Nat) (s : List UInt8), Lib.count s [c] = n → Lib.splitK [c] 0 n s = split1 c s
  | 0, s, h => by
    have hi : Lib.index s [c] = -1 := by
      have hge := Lib.index_ge s [c]
      rcases Int.lt_or_le (Lib.index s [c]) 0 with h1 | h1
      · omega
      · obtain ⟨i, hi⟩ : ∃ i : Nat, Lib.index s [c] = i := ⟨(Lib.index s [c]).toNat, by omega⟩
        have := Lib.count_hit (by simp) hi
        omega
    rw [Lib.index_one] at hi
    have hc : c ∉ s := by
      intro hm
      obtain ⟨k, hk⟩ := List.getElem?_of_mem hm
      exact Lib.indexByte_none hi k hk
    rw [Lib.splitK, split1_none c s hc]
  | n + 1, s, h => by
    have hge := Lib.index_ge s [c]
    by_cases hi : Lib.index s [c] = -1
    · have := Lib.count_miss hi
      omega
    obtain ⟨i, hi'⟩ : ∃ i : Nat, Lib.index s [c] = i := ⟨(Lib.index s [c]).toNat, by omega⟩
    have hcnt := Lib.count_hit (by simp) hi'
    have hib : Lib.indexByte s c = i := by rw [← Lib.index_one]; exact hi'
    obtain ⟨hcut, hlt⟩ := cut1_hit c s i hib
    have hnot : c ∉ s.take i := by
      intro hm
      obtain ⟨k, hk⟩ := List.getElem?_of_mem hm
      have hk2 : k < i := by
        have := (List.getElem?_eq_some_iff.1 hk).1
        simp at this; omega
      rw [List.getElem?_take_of_lt hk2] at hk
      exact (Lib.indexByte_some hib).2 k hk2 hk
    have hs : s = s.take i ++ c :: s.drop (i + 1) := by
      have h1 := cut1_true c s (by rw [hcut])
      rw [hcut] at h1
      exact h1
    rw [Lib.splitK, if_neg (by simpa using hi), hi']
    simp only [Int.toNat_natCast, Nat.add_zero, List.length_cons, List.length_nil, Nat.zero_add] at hcnt ⊢
    rw [splitK_one c n (s.drop (i + 1)) (by omega)]
    conv => rhs; rw [hs, split1_app c _ _ hnot]
def splitB1 (c : UInt8) (s : ByteArray) : List ByteArray := (split1 c s.data.toList).map fun p => ⟨p.toArray⟩
theorem splitB_one (c : UInt8) (s : ByteArray) : Lib.splitB ⟨#[c]⟩ 0 (Lib.countB s ⟨#[c]⟩) s = splitB1 c s := by
  have h := Lib.splitB_data ⟨#[c]⟩ 0 (Lib.countB s ⟨#[c]⟩) s
  have h2 := splitK_one c (Lib.countB s ⟨#[c]⟩) s.data.toList rfl
  have h3 : (Lib.splitB ⟨#[c]⟩ 0 (Lib.countB s ⟨#[c]⟩) s).map (·.data.toList) = split1 c s.data.toList := by rw [h]; exact h2
  unfold splitB1
  rw [← h3, List.map_map]
  conv => lhs; rw [← List.map_id (Lib.splitB _ _ _ _)]
  exact List.map_congr_left fun x _ => (Lib.mk_data x).symm
theorem splitB1_length (c : UInt8) (s : ByteArray) : Lib.countB s ⟨#[c]⟩ + 1 = (splitB1 c s).length := by
  rw [← splitB_one]
  have : ∀ (n : Nat) (l : List UInt8), Lib.count l [c] = n → (split1 c l).length = n + 1 := by
    intro n
    induction n with
    | zero => intro l h; rw [← splitK_one c 0 l h]; rfl
    | succ n ih =>
      intro l h
      have hge := Lib.index_ge l [c]
      by_cases hi : Lib.index l [c] = -1
      · have := Lib.count_miss hi
        omega
      obtain ⟨i, hi'⟩ : ∃ i : Nat, Lib.index l [c] = i := ⟨(Lib.index l [c]).toNat, by omega⟩
      have hcnt := Lib.count_hit (by simp) hi'
      rw [← splitK_one c (n + 1) l h, Lib.splitK, if_neg (by simpa using hi), hi']
      simp only [Int.toNat_natCast, Nat.add_zero, List.length_cons, List.length_nil, Nat.zero_add] at hcnt ⊢
      rw [splitK_one c n _ (by omega), ih _ (by omega)]
  rw [splitB_one]
  unfold splitB1
  rw [List.length_map, this _ _ rfl]
theorem split1_key : ∀ (l : List (List UInt8)), (∀ p ∈ l, NoZero p) → split1 0 (keyL l) = l ++ [[]]
  | [], _ => rfl
  | p :: l, h => by
    rw [keyL, split1_app 0 p _ (h p List.mem_cons_self), split1_key l fun q hq => h q (List.mem_cons_of_mem _ hq)]
    rfl
/-- the pieces, each with the byte behind it but for the last -/
theorem split1_join : ∀ (s : List UInt8), ∃ (l : List (List UInt8)) (z : List UInt8), split1 0 s = l ++ [z] ∧ s = keyL l ++ z
  | [] => ⟨[], [], rfl, rfl⟩
  | b :: s => by
    obtain ⟨l, z, h1, h2⟩ := split1_join s
    by_cases hb : (b == 0) = true
    · refine ⟨[] :: l, z, ?_, ?_⟩
      · rw [split1, if_pos hb, h1]; rfl
      · rw [beq_iff_eq] at hb
        rw [keyL, hb]; simp [← h2]
    · rw [split1, if_neg hb, h1]
      cases l with
      | nil => exact ⟨[], b :: z, rfl, by rw [h2]; rfl⟩
      | cons p l => exact ⟨(b :: p) :: l, z, rfl, by rw [h2]; rfl⟩
end Go.Proofs.YtkmdlpkdoplpdaaDoor
