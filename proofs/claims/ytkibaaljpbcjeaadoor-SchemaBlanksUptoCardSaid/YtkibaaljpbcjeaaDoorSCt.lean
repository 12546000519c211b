/- Walk: schema: Parse, its lines split. A text's lines, split: the same pieces. No program in sight. The tokens of a line, from its left end on. No program in sight. -/
import Derived.Test.YtkibaaljpbcjeaaDoorSBl
import Derived.Lib.SplitLaws
import Derived.Test.YtkibaaljpbcjeaaDoorSLn
import Derived.Lib.IndexBytes
import Derived.Test.YtkibaaljpbcjeaaDoorSLe
namespace Go.Proofs.YtkibaaljpbcjeaaDoor
open Go.RowKit
theorem piece_le (sep : ByteArray) : ∀ (k : Nat) (s : ByteArray), ∀ p ∈ Lib.splitB sep 0 k s, p.size ≤ s.size
  | 0, s, p, h => by
    rw [Lib.splitB_zero] at h
    rw [List.mem_singleton.1 h]; exact Nat.le_refl _
  | k + 1, s, p, h => by
    unfold Lib.splitB at h
    split at h
    · rw [List.mem_singleton.1 h]; exact Nat.le_refl _
    · rcases List.mem_cons.1 h with rfl | h
      · rw [ByteArray.size_extract]; omega
      · have := piece_le sep k _ p h
        rw [ByteArray.size_extract] at this; omega
/-- the lines of a text -/
def linesB (s : ByteArray) : List ByteArray := Lib.splitB ⟨#[10]⟩ 0 (Lib.countB s ⟨#[10]⟩) s
theorem parse_calls (s : ByteArray) (m : Int) (w : World) (hs : s.size ≤ 65536) (hg : 0 < w.heap.size) (hm : w.cell? ⟨0, 0, none⟩ = some (.int .i64 m)) :
    Calls Tryd.prog 8 #[.string s] w (ParseSaid w ((linesB s).map (·.data.toList))) := by
  have h1 : 1 ≤ (⟨#[10]⟩ : ByteArray).size := by decide
  have hlen : (linesB s).length = Lib.countB s ⟨#[10]⟩ + 1 := Lib.splitB_all ⟨#[10]⟩ h1 0 _ s rfl
  have hc := Lib.countB_le ⟨#[10]⟩ h1 s.size s (Nat.le_refl _)
  refine parse_of s (linesB s) w hs (by omega) (fun l hl => Nat.le_trans (piece_le _ _ _ l hl) hs) fun W hW => ?_
  refine (Tryd.strings_Split s ⟨#[10]⟩ m W (by omega) (by rw [hW.cell (p := ⟨0, 0, none⟩) hg]; exact hm) h1).mono ?_
  rintro e w' ⟨he, hw⟩
  rw [hlen]
  exact ⟨he, hw.symm⟩
end Go.Proofs.YtkibaaljpbcjeaaDoor
namespace Go.Proofs.YtkibaaljpbcjeaaDoor
theorem cutL_app : ∀ (p x : List UInt8), (10 : UInt8) ∉ p → cutL (p ++ 10 :: x) = p :: cutL x
  | [], x, _ => by simp [cutL]
  | b :: p, x, h => by
    have hb : ¬ (b == 10) = true := fun e => h (by rw [beq_iff_eq] at e; rw [e]; exact List.mem_cons_self)
    rw [List.cons_append, cutL, if_neg hb, cutL_app p x fun h' => h (List.mem_cons_of_mem _ h')]
theorem cutL_none : ∀ (p : List UInt8), (10 : UInt8) ∉ p → cutL p = [p]
  | [], _ => rfl
  | b :: p, h => by
    have hb : ¬ (b == 10) = true := fun e => h (by rw [beq_iff_eq] at e; rw [e]; exact List.mem_cons_self)
    rw [cutL, if_neg hb, cutL_none p fun h' => h (List.mem_cons_of_mem _ h')]
theorem splitK_cut : ∀ (n : Nat) (s : List UInt8), Lib.count s [10] = n → Lib.splitK [10] 0 n s = cutL s
  | 0, s, h => by
    have hi : Lib.index s [10] = -1 := by
      have hge := Lib.index_ge s [10]
      rcases Int.lt_or_le (Lib.index s [10]) 0 with h1 | h1
      · omega
      · obtain ⟨i, hi⟩ : ∃ i : Nat, Lib.index s [10] = i := ⟨(Lib.index s [10]).toNat, by omega⟩
        have := Lib.count_hit (by simp) hi
        omega
    rw [Lib.index_one] at hi
    have hc : (10 : UInt8) ∉ s := by
      intro hm
      obtain ⟨k, hk⟩ := List.getElem?_of_mem hm
      exact Lib.indexByte_none hi k hk
    rw [Lib.splitK, cutL_none s hc]
  | n + 1, s, h => by
    have hge := Lib.index_ge s [10]
    by_cases hi : Lib.index s [10] = -1
    · have := Lib.count_miss hi
      omega
    obtain ⟨i, hi'⟩ : ∃ i : Nat, Lib.index s [10] = i := ⟨(Lib.index s [10]).toNat, by omega⟩
    have hcnt := Lib.count_hit (by simp) hi'
    have hib : Lib.indexByte s 10 = i := by rw [← Lib.index_one]; exact hi'
    have hsi := (Lib.indexByte_some hib).1
    have hnot : (10 : UInt8) ∉ s.take i := by
      intro hm
      obtain ⟨k, hk⟩ := List.getElem?_of_mem hm
      have hk2 : k < i := by
        have := (List.getElem?_eq_some_iff.1 hk).1
        simp at this; omega
      rw [List.getElem?_take_of_lt hk2] at hk
      exact (Lib.indexByte_some hib).2 k hk2 hk
    have hs : s = s.take i ++ 10 :: s.drop (i + 1) := by
      obtain ⟨hlt, hv⟩ := List.getElem?_eq_some_iff.1 hsi
      conv => lhs; rw [← List.take_append_drop i s, List.drop_eq_getElem_cons hlt, hv]
    rw [Lib.splitK, if_neg (by simpa using hi), hi']
    simp only [Int.toNat_natCast, Nat.add_zero, List.length_cons, List.length_nil, Nat.zero_add] at hcnt ⊢
    rw [splitK_cut n (s.drop (i + 1)) (by omega)]
    conv => rhs; rw [hs, cutL_app _ _ hnot]
theorem linesB_cut (s : ByteArray) : (linesB s).map (·.data.toList) = linesG s.data.toList := by
  unfold linesB
  rw [Lib.splitB_data, linesG_cut]
  exact splitK_cut _ _ rfl
end Go.Proofs.YtkibaaljpbcjeaaDoor
namespace Go.Proofs.YtkibaaljpbcjeaaDoor
open Go.RowKit
def isBl (c : UInt8) : Bool := c == 32 || c == 9
section
variable {c : UInt8} {u : List UInt8}
theorem trim_no (h : isBl c = false) : trimL (c :: u) = c :: u := by rw [trimL_cons, show (c == 32 || c == 9) = false from h]; rfl
theorem tk_nil : toks [] = [] := rfl
theorem tk_blank (h : isBl c = true) : toks (c :: u) = toks u := by
  have e : trimL (c :: u) = trimL u := by rw [trimL_cons, show (c == 32 || c == 9) = true from h]; rfl
  have e2 : pk (c :: u) = pk u := by unfold pk; rw [e]
  have e3 : rest (c :: u) = rest u := by unfold rest; rw [e, e2]
  rw [toks_eq (c :: u), toks_eq u, e, e2, e3]
theorem op_no (h : isOp c = true) : isBl c = false ∧ arrow (c :: u) = false := by
  unfold isOp at h
  simp only [Bool.or_eq_true, beq_iff_eq] at h
  rcases h with (((rfl | rfl) | rfl) | rfl) | rfl <;> exact ⟨rfl, rfl⟩
theorem tk_op (h : isOp c = true) : toks (c :: u) = [c] :: toks u := by
  obtain ⟨hb, ha⟩ := op_no (u := u) h
  have e := trim_no (u := u) hb
  have e2 : pk (c :: u) = [c] := by unfold pk tok1; rw [e, ha]; simp [h]
  have e3 : rest (c :: u) = u := by unfold rest; rw [e, e2]; rfl
  rw [toks_cons (by rw [e2]; simp), e2, e3]
theorem arrow_head (h : arrow (c :: u) = true) : c = 45 ∧ isBl c = false ∧ isOp c = false := by
  unfold arrow Lib.hasPrefix at h
  have : c = 45 := by
    simp only [List.isPrefixOf, Bool.and_eq_true, beq_iff_eq] at h
    exact h.1.symm
  subst this
  exact ⟨rfl, rfl, rfl⟩
theorem tk_arrow (h : arrow (c :: u) = true) : toks (c :: u) = arL :: toks ((c :: u).drop 2) := by
  have hb := (arrow_head h).2.1
  have e := trim_no (u := u) hb
  have e2 : pk (c :: u) = arL := by unfold pk tok1; rw [e, h]; rfl
  have e3 : rest (c :: u) = (c :: u).drop 2 := by unfold rest; rw [e, e2]; rfl
  rw [toks_cons (by rw [e2]; decide), e2, e3]
theorem name_no (h : nameByte c = true) : isBl c = false ∧ isOp c = false := by
  cases hb : isBl c
  · cases ho : isOp c
    · exact ⟨rfl, rfl⟩
    · unfold isOp at ho
      simp only [Bool.or_eq_true, beq_iff_eq] at ho
      rcases ho with (((rfl | rfl) | rfl) | rfl) | rfl <;> cases h
  · unfold isBl at hb
    simp only [Bool.or_eq_true, beq_iff_eq] at hb
    rcases hb with rfl | rfl <;> cases h
theorem tk_word (h : nameByte c = true) (ha : arrow (c :: u) = false) : toks (c :: u) = word (c :: u) :: toks ((c :: u).drop (word (c :: u)).length) := by
  obtain ⟨hb, ho⟩ := name_no h
  have e := trim_no (u := u) hb
  have e2 : pk (c :: u) = word (c :: u) := by unfold pk tok1; rw [e, ha]; simp [ho]
  have e3 : rest (c :: u) = (c :: u).drop (word (c :: u)).length := by unfold rest; rw [e, e2]
  have e4 : word (c :: u) ≠ [] := by unfold word; rw [h, ha]; simp
  rw [toks_cons (by rw [e2]; exact e4), e2, e3]
theorem tk_bad (h1 : isBl c = false) (h2 : isOp c = false) (h3 : arrow (c :: u) = false) (h4 : nameByte c = false) : toks (c :: u) = [[]] := by
  have e := trim_no (u := u) h1
  have e2 : pk (c :: u) = [] := by unfold pk tok1; rw [e, h3]; simp [h2]; unfold word; rw [h4]; rfl
  have hb : pbad (c :: u) = true := by rw [pbad_of e2, e]; rfl
  exact toks_bad hb
theorem word_ne (h : nameByte c = true) (ha : arrow (c :: u) = false) : word (c :: u) ≠ [] := by unfold word; rw [h, ha]; simp
end
theorem arrow_at (s : ByteArray) (k : Nat) (h : k < s.size) : arrow (s.data.toList.drop k) = true ↔ s[k] = 45 ∧ ∃ h2 : k + 1 < s.size, s[k + 1] = 62 := by
  have hl : s.data.toList.length = s.size := by rw [Lib.size_eq]
  by_cases h2 : k + 1 < s.size
  · have e : s.data.toList.drop k = s[k] :: s[k + 1] :: s.data.toList.drop (k + 2) := by
      rw [List.drop_eq_getElem_cons (by omega), List.drop_eq_getElem_cons (i := k + 1) (by omega)]; rfl
    rw [e]
    unfold arrow Lib.hasPrefix
    simp only [List.isPrefixOf, Bool.and_eq_true, beq_iff_eq, Bool.and_true]
    exact ⟨fun ⟨a, b⟩ => ⟨a.symm, h2, b.symm⟩, fun ⟨a, _, b⟩ => ⟨a.symm, b.symm⟩⟩
  · have e : s.data.toList.drop k = [s[k]] := by
      rw [List.drop_eq_getElem_cons (by omega), List.drop_eq_nil_of_le (by omega)]; rfl
    rw [e]
    unfold arrow Lib.hasPrefix
    simp only [List.isPrefixOf, Bool.and_false]
    exact ⟨fun e => (by cases e), fun ⟨_, h3, _⟩ => absurd h3 h2⟩
end Go.Proofs.YtkibaaljpbcjeaaDoor
