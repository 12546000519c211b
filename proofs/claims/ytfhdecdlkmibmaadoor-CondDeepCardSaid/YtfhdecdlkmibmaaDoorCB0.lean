/- Tokens: what is left behind a token. No program in sight. -/
import Derived.Test.YtfhdecdlkmibmaaDoorC16
namespace Go.Proofs.YtfhdecdlkmibmaaDoor
theorem tokN_pos {p : Nat} {t : List UInt8} (h : 2 ≤ (tokAt p t).sort) : 1 ≤ tokN t := by
  have := (tokH_facts (t.drop (blankN t))).2.2.2.2 h
  unfold tokN; omega
theorem lexF_more : ∀ (f g p : Nat) (t : List UInt8), t.length < f → t.length < g → lexF f p t = lexF g p t
  | 0, _, _, _, h, _ => by omega
  | _ + 1, 0, _, _, _, h => by omega
  | f + 1, g + 1, p, t, hf, hg => by
    show (tokAt p t :: if (tokAt p t).sort ≤ 1 then [] else lexF f (p + tokN t) (t.drop (tokN t))) = (tokAt p t :: if (tokAt p t).sort ≤ 1 then [] else lexF g (p + tokN t) (t.drop (tokN t)))
    by_cases h : (tokAt p t).sort ≤ 1
    · rw [if_pos h, if_pos h]
    · have hpos := tokN_pos (p := p) (t := t) (by omega)
      have := tokN_le t
      rw [if_neg h, if_neg h, lexF_more f g _ _ (by rw [List.length_drop]; omega) (by rw [List.length_drop]; omega)]
theorem lex_next {p : Nat} {t : List UInt8} (h : 2 ≤ (tokAt p t).sort) : lex p t = tokAt p t :: lex (p + tokN t) (t.drop (tokN t)) := by
  have hpos := tokN_pos h
  have := tokN_le t
  show (tokAt p t :: if (tokAt p t).sort ≤ 1 then [] else lexF t.length (p + tokN t) (t.drop (tokN t))) = _
  rw [if_neg (by omega), lexF_more t.length _ _ _ (by rw [List.length_drop]; omega) (Nat.lt_succ_self _)]; rfl
theorem lex_end {p : Nat} {t : List UInt8} (h : (tokAt p t).sort ≤ 1) : lex p t = [tokAt p t] := by
  show (tokAt p t :: if (tokAt p t).sort ≤ 1 then [] else lexF t.length (p + tokN t) (t.drop (tokN t))) = _
  rw [if_pos h]
theorem lex_head (p : Nat) (t : List UInt8) : ∃ r, lex p t = tokAt p t :: r := ⟨_, rfl⟩
theorem lexF_len : ∀ (f p : Nat) (t : List UInt8), t.length < f → (lexF f p t).length ≤ t.length + 1
  | 0, _, _, h => by omega
  | f + 1, p, t, hf => by
    show (tokAt p t :: if (tokAt p t).sort ≤ 1 then [] else lexF f (p + tokN t) (t.drop (tokN t))).length ≤ _
    by_cases h : (tokAt p t).sort ≤ 1
    · rw [if_pos h]; simp
    · have hpos := tokN_pos (p := p) (t := t) (by omega)
      have := tokN_le t
      have := lexF_len f (p + tokN t) (t.drop (tokN t)) (by rw [List.length_drop]; omega)
      rw [if_neg h, List.length_cons]
      rw [List.length_drop] at this; omega
theorem lex_len (p : Nat) (t : List UInt8) : (lex p t).length ≤ t.length + 1 := lexF_len _ _ _ (Nat.lt_succ_self _)
theorem lex_wf (p : Nat) (t : List UInt8) : WF (lex p t) := (lexF_facts _ _ _ (Nat.lt_succ_self _)).1
/-- which token comes, by the text's first bytes -/
theorem tokH_nil : tokH [] = (1, [], 0) := rfl
theorem tokH_dig {c : UInt8} {r : List UInt8} (h : isDig c = true) : tokH (c :: r) = (4, (c :: r).take (spanN isDig (c :: r)), spanN isDig (c :: r)) := by
  unfold tokH; simp only; rw [if_pos h]
theorem tokH_let {c : UInt8} {r : List UInt8} (h0 : isDig c = false) (h : isLet c = true) : tokH (c :: r) = (3, (c :: r).take (spanN isWrd (c :: r)), spanN isWrd (c :: r)) := by
  unfold tokH; simp only; rw [if_neg (by rw [h0]; decide), if_pos h]
theorem tokH_quo {r : List UInt8} (h : r[spanN isQuo r]? = some 39) : tokH (39 :: r) = (5, r.take (spanN isQuo r), spanN isQuo r + 2) := by
  unfold tokH; simp only; rw [if_neg (by decide), if_neg (by decide), if_pos (by decide), if_pos h]
theorem tokH_odd {r : List UInt8} (h : r[spanN isQuo r]? ≠ some 39) : tokH (39 :: r) = (0, [], 1) := by
  unfold tokH; simp only; rw [if_neg (by decide), if_neg (by decide), if_pos (by decide), if_neg h]
theorem tokH_two {c : UInt8} {r : List UInt8} (h0 : isDig c = false) (h1 : isLet c = false) (h2 : c ≠ 39) (h : two (c :: r) = true) : tokH (c :: r) = (2, (c :: r).take 2, 2) := by
  unfold tokH; simp only; rw [if_neg (by rw [h0]; decide), if_neg (by rw [h1]; decide), if_neg (by simpa using h2), if_pos h]
theorem tokH_mark {c : UInt8} {r : List UInt8} (h0 : isDig c = false) (h1 : isLet c = false) (h2 : c ≠ 39) (h3 : two (c :: r) = false) (h : marks1.contains c = true) : tokH (c :: r) = (2, [c], 1) := by
  unfold tokH; simp only; rw [if_neg (by rw [h0]; decide), if_neg (by rw [h1]; decide), if_neg (by simpa using h2), if_neg (by rw [h3]; decide), if_pos h]
theorem tokH_none {c : UInt8} {r : List UInt8} (h0 : isDig c = false) (h1 : isLet c = false) (h2 : c ≠ 39) (h3 : two (c :: r) = false) (h : marks1.contains c = false) : tokH (c :: r) = (0, [], 1) := by
  unfold tokH; simp only; rw [if_neg (by rw [h0]; decide), if_neg (by rw [h1]; decide), if_neg (by simpa using h2), if_neg (by rw [h3]; decide), if_neg (by rw [h]; decide)]
end Go.Proofs.YtfhdecdlkmibmaaDoor
