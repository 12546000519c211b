/- Numerals, and the tokens of pieces: what is written is split as it was meant. No program in sight. -/
import Derived.Test.YtfhdecdlkmibmaaDoorC8
namespace Go.Proofs.YtfhdecdlkmibmaaDoor
theorem decVal_app (t : List UInt8) (c : UInt8) : decVal (t ++ [c]) = decVal t * 10 + (c.toNat - 48) := by unfold decVal; rw [List.foldl_append]; rfl
theorem dd_small {n : Nat} (h : n < 10) : Lib.decDigits n = [UInt8.ofNat (48 + n)] := by rw [Lib.decDigits, dif_pos h]
theorem dd_big {n : Nat} (h : ¬ n < 10) : Lib.decDigits n = Lib.decDigits (n / 10) ++ [UInt8.ofNat (48 + n % 10)] := by
  conv => lhs; rw [Lib.decDigits, dif_neg h]
theorem u8_digit {k : Nat} (h : k < 10) : (UInt8.ofNat (48 + k)).toNat = 48 + k := by
  rw [UInt8.toNat_ofNat']; omega
theorem isDig_nat (c : UInt8) : isDig c = true ↔ 48 ≤ c.toNat ∧ c.toNat ≤ 57 := by
  simp [isDig, UInt8.le_iff_toNat_le]
theorem dd_val : ∀ (b n : Nat), n ≤ b → decVal (Lib.decDigits n) = n
  | 0, n, h => by
    obtain rfl : n = 0 := by omega
    rw [dd_small (by omega)]; rfl
  | b + 1, n, h => by
    by_cases h10 : n < 10
    · rw [dd_small h10, show ([UInt8.ofNat (48 + n)] : List UInt8) = [] ++ [UInt8.ofNat (48 + n)] from rfl, decVal_app, u8_digit h10]
      show 0 * 10 + (48 + n - 48) = n
      omega
    · rw [dd_big h10, decVal_app, dd_val b (n / 10) (by omega), u8_digit (Nat.mod_lt _ (by decide))]
      omega
theorem dd_dig : ∀ (b n : Nat), n ≤ b → (Lib.decDigits n).all isDig = true
  | 0, n, h => by
    obtain rfl : n = 0 := by omega
    rw [dd_small (by omega)]; rfl
  | b + 1, n, h => by
    by_cases h10 : n < 10
    · rw [dd_small h10]
      simp only [List.all_cons, List.all_nil, Bool.and_true]
      rw [isDig_nat, u8_digit h10]; omega
    · have h9 : n % 10 < 10 := Nat.mod_lt _ (by decide)
      rw [dd_big h10, List.all_append, dd_dig b (n / 10) (by omega)]
      simp only [List.all_cons, List.all_nil, Bool.and_true, Bool.true_and]
      rw [isDig_nat, u8_digit h9]; omega
theorem dd_head : ∀ (b n : Nat), n ≤ b → 1 ≤ n → ∃ c r, Lib.decDigits n = c :: r ∧ c ≠ 48
  | 0, n, h, h1 => by omega
  | b + 1, n, h, h1 => by
    by_cases h10 : n < 10
    · refine ⟨_, [], dd_small h10, fun e => ?_⟩
      have := congrArg UInt8.toNat e
      rw [u8_digit h10] at this
      have e48 : (48 : UInt8).toNat = 48 := rfl
      omega
    · obtain ⟨c, r, h2, h3⟩ := dd_head b (n / 10) (by omega) (by omega)
      exact ⟨c, r ++ [UInt8.ofNat (48 + n % 10)], by rw [dd_big h10, h2]; rfl, h3⟩
theorem dd_ne (n : Nat) : Lib.decDigits n ≠ [] := by
  by_cases h10 : n < 10
  · rw [dd_small h10]; simp
  · rw [dd_big h10]; simp
theorem num_ok : NumOk := by
  have hv : ∀ n least : Nat, n ≤ mostN → least ≤ n → numG (decL n) least = some n := by
    intro n least h1 h2
    unfold numG decL
    rw [dd_val n n (Nat.le_refl _)]
    rw [if_pos]
    refine ⟨h2, h1, ?_⟩
    by_cases h0 : n = 0
    · left; rw [h0, dd_small (by omega)]; rfl
    · obtain ⟨c, r, h3, h4⟩ := dd_head n n (Nat.le_refl _) (by omega)
      right; rw [h3]; intro e; exact h4 (Option.some.inj e)
  exact fun n h => ⟨hv n 0 h (by omega), fun h1 => hv n 1 h h1⟩
/-- how long a numeral is, against what was read -/
theorem fold_lt : ∀ (t : List UInt8) (a : Nat), t.all isDig = true → t.foldl (fun a c => a * 10 + (c.toNat - 48)) a < (a + 1) * 10 ^ t.length
  | [], a, _ => by simp
  | c :: t, a, h => by
    simp only [List.all_cons, Bool.and_eq_true] at h
    have h1 := (isDig_nat c).1 h.1
    have h2 := fold_lt t (a * 10 + (c.toNat - 48)) h.2
    have h3 : (a * 10 + (c.toNat - 48) + 1) * 10 ^ t.length ≤ ((a + 1) * 10) * 10 ^ t.length := Nat.mul_le_mul_right _ (by omega)
    rw [List.foldl_cons, List.length_cons, Nat.pow_succ, Nat.mul_comm (10 ^ t.length) 10, ← Nat.mul_assoc]
    omega
theorem val_lt (t : List UInt8) (h : t.all isDig = true) : decVal t < 10 ^ t.length := by
  have := fold_lt t 0 h
  unfold decVal
  omega
theorem dd_len : ∀ (k n : Nat), n < 10 ^ (k + 1) → (Lib.decDigits n).length ≤ k + 1
  | 0, n, h => by rw [dd_small (by simpa using h)]; simp
  | k + 1, n, h => by
    by_cases h10 : n < 10
    · rw [dd_small h10]; simp
    · rw [dd_big h10, List.length_append]
      have := dd_len k (n / 10) (by rw [Nat.pow_succ] at h; omega)
      simp; omega
theorem dd_short {t : List UInt8} (h : t.all isDig = true) (hne : t ≠ []) : (Lib.decDigits (decVal t)).length ≤ t.length := by
  have h1 := val_lt t h
  have h2 : 0 < t.length := List.length_pos_iff.2 hne
  have h3 := dd_len (t.length - 1) (decVal t) (by rw [show t.length - 1 + 1 = t.length by omega]; exact h1)
  omega
/-- what may stand behind a token -/
def twosL : List (List UInt8) := [[60, 61], [62, 61], [33, 61]]
def nextD (nx : Option UInt8) : Bool := match nx with | some c => isDig c | none => false
def tokOk (k : Nat) (x : List UInt8) (b : Bool) (nx : Option UInt8) : Prop :=
  (k = 4 ∧ x ≠ [] ∧ x.all isDig = true ∧ b = false ∧ ∀ c, nx = some c → isDig c = false) ∨
  (k = 3 ∧ (∃ c y, x = c :: y ∧ isLet c = true ∧ y.all isWrd = true) ∧ b = false ∧ ∀ c, nx = some c → isWrd c = false) ∨
  (k = 5 ∧ x.all isQuo = true ∧ b = false) ∨
  (k = 2 ∧ x ∈ twosL ∧ b = false) ∨
  (k = 2 ∧ (∃ c ∈ marks1, x = [c]) ∧ nx ≠ some 61 ∧ b = (x == minusL && nextD nx))
def goodP : List Piece → Prop
  | [] => True
  | none :: r => goodP r
  | some (k, x, b) :: r => tokOk k x b (textP r).head? ∧ goodP r
theorem span_all {p : UInt8 → Bool} : ∀ (x t : List UInt8), x.all p = true → (∀ c, t.head? = some c → p c = false) → spanN p (x ++ t) = x.length
  | [], t, _, h => by
    cases t with
    | nil => rfl
    | cons c t => unfold spanN; rw [List.nil_append, List.takeWhile_cons, h c rfl]; rfl
  | c :: x, t, hx, h => by
    simp only [List.all_cons, Bool.and_eq_true] at hx
    have := span_all x t hx.2 h
    unfold spanN at this ⊢
    rw [List.cons_append, List.takeWhile_cons, hx.1]
    simpa using this
theorem let_dig {c : UInt8} (h : isLet c = true) : isDig c = false := by
  cases hd : isDig c
  · rfl
  · exfalso
    rw [isDig_nat] at hd
    simp only [isLet, Bool.or_eq_true, Bool.and_eq_true, beq_iff_eq, decide_eq_true_eq, UInt8.le_iff_toNat_le] at h
    rcases h with rfl | h
    · have e : (95 : UInt8).toNat = 95 := rfl
      omega
    · have e : (97 : UInt8).toNat = 97 := rfl
      omega
/-- a token's head -/
theorem tok_head {k : Nat} {x : List UInt8} {b : Bool} {t : List UInt8} (h : tokOk k x b t.head?) : tokH (pieceT (some (k, x, b)) ++ t) = (k, x, (pieceT (some (k, x, b))).length) ∧ blankN (pieceT (some (k, x, b)) ++ t) = 0 ∧ b = (k == 2 && x == minusL && digAt t) := by
  rcases h with ⟨rfl, hx, hd, rfl, hn⟩ | ⟨rfl, ⟨c, y, rfl, hc, hy⟩, rfl, hn⟩ | ⟨rfl, hq, rfl⟩ | ⟨rfl, hm, rfl⟩ | ⟨rfl, ⟨c, hc, rfl⟩, hn, hb⟩
  · cases x with
    | nil => exact absurd rfl hx
    | cons c y =>
      have hs := span_all (c :: y) t hd hn
      have hc : isDig c = true := by simp only [List.all_cons, Bool.and_eq_true] at hd; exact hd.1
      have hc32 : (c == 32) = false := by
        cases he : c == 32
        · rfl
        · rw [beq_iff_eq] at he; subst he; exact absurd hc (by decide)
      refine ⟨?_, ?_, rfl⟩
      · show tokH (c :: (y ++ t)) = _
        unfold tokH
        simp only [hc, if_true]
        rw [show c :: (y ++ t) = c :: y ++ t from rfl, hs]
        simp [pieceT]
      · show spanN _ (c :: (y ++ t)) = 0
        unfold spanN; rw [List.takeWhile_cons, hc32]; rfl
  · have hw : (c :: y).all isWrd = true := by
      simp only [List.all_cons, Bool.and_eq_true]
      exact ⟨by simp [isWrd, hc], hy⟩
    have hs := span_all (c :: y) t hw hn
    have hc32 : (c == 32) = false := by
      cases he : c == 32
      · rfl
      · rw [beq_iff_eq] at he; subst he; exact absurd hc (by decide)
    refine ⟨?_, ?_, rfl⟩
    · show tokH (c :: (y ++ t)) = _
      unfold tokH
      simp only [let_dig hc, hc, if_true, Bool.false_eq_true, if_false]
      rw [show c :: (y ++ t) = c :: y ++ t from rfl, hs]
      simp [pieceT]
    · show spanN _ (c :: (y ++ t)) = 0
      unfold spanN; rw [List.takeWhile_cons, hc32]; rfl
  · have hs := span_all x (39 :: t) hq (fun c e => by obtain rfl := Option.some.inj e; decide)
    refine ⟨?_, ?_, rfl⟩
    · show tokH (39 :: x ++ [39] ++ t) = _
      rw [show (39 :: x ++ [39] ++ t : List UInt8) = 39 :: (x ++ 39 :: t) by simp]
      unfold tokH
      simp only [show isDig 39 = false from rfl, show isLet 39 = false from rfl, Bool.false_eq_true, if_false, show ((39 : UInt8) == 39) = true from rfl, if_true]
      rw [hs, if_pos (by simp)]
      simp [pieceT]
    · show spanN _ (39 :: x ++ [39] ++ t) = 0
      rfl
  · simp only [twosL, List.mem_cons, List.not_mem_nil, or_false] at hm
    rcases hm with rfl | rfl | rfl <;> exact ⟨rfl, rfl, rfl⟩
  · have htw : two ([c] ++ t) = false := by
      cases t with
      | nil => simp [two]
      | cons a t =>
        have : a ≠ 61 := fun e => hn (by rw [e]; rfl)
        simp [two, this]
    simp only [marks1, List.mem_cons, List.not_mem_nil, or_false] at hc
    refine ⟨?_, ?_, ?_⟩
    · show tokH ([c] ++ t) = _
      rcases hc with rfl | rfl | rfl | rfl | rfl | rfl | rfl | rfl | rfl | rfl | rfl <;>
      · show tokH (_ :: t) = _
        unfold tokH
        rw [show ∀ a : UInt8, a :: t = [a] ++ t from fun _ => rfl, htw]
        rfl
    · rcases hc with rfl | rfl | rfl | rfl | rfl | rfl | rfl | rfl | rfl | rfl | rfl <;> rfl
    · rw [hb]
      cases t <;> rfl
theorem textP_cons (a : Piece) (r : List Piece) : textP (a :: r) = pieceT a ++ textP r := rfl
theorem lexF_blank (f p : Nat) (t : List UInt8) : lexF f p (32 :: t) = lexF f (p + 1) t := by
  have hb : blankN (32 :: t) = blankN t + 1 := by
    unfold blankN spanN; rw [List.takeWhile_cons]; rfl
  have h1 : tokAt p (32 :: t) = tokAt (p + 1) t := by
    unfold tokAt
    rw [hb, List.drop_succ_cons, show p + (blankN t + 1) = p + 1 + blankN t by omega]
  have h2 : tokN (32 :: t) = tokN t + 1 := by
    unfold tokN
    rw [hb, List.drop_succ_cons]; omega
  cases f with
  | zero => rfl
  | succ f =>
    show (tokAt p (32 :: t) :: if (tokAt p (32 :: t)).sort ≤ 1 then [] else lexF f (p + tokN (32 :: t)) ((32 :: t).drop (tokN (32 :: t)))) = tokAt (p + 1) t :: if (tokAt (p + 1) t).sort ≤ 1 then [] else lexF f (p + 1 + tokN t) (t.drop (tokN t))
    rw [h1, h2, List.drop_succ_cons, show p + (tokN t + 1) = p + 1 + tokN t by omega]
/-- pieces that stand well are split as they were meant -/
theorem lex_pieces : ∀ (ps : List Piece), goodP ps → ∀ f p, (textP ps).length < f → ∃ lx t, lexF f p (textP ps) = lx ++ [t] ∧ lx.map Tok.key = keysP ps ∧ t.sort = 1
  | [], _, f, p, h => by
    obtain ⟨f, rfl⟩ : ∃ q, f = q + 1 := ⟨f - 1, by omega⟩
    exact ⟨[], _, rfl, rfl, rfl⟩
  | none :: r, hg, f, p, h => by
    rw [textP_cons, show pieceT none ++ textP r = 32 :: textP r from rfl, lexF_blank]
    rw [textP_cons, show pieceT none ++ textP r = 32 :: textP r from rfl] at h
    exact lex_pieces r hg f (p + 1) (by simp at h; omega)
  | some (k, x, b) :: r, hg, f, p, h => by
    obtain ⟨hk, hr⟩ := hg
    obtain ⟨f, rfl⟩ : ∃ q, f = q + 1 := ⟨f - 1, by omega⟩
    obtain ⟨h1, h2, h3⟩ := tok_head (t := textP r) hk
    rw [textP_cons] at h ⊢
    generalize hT : pieceT (some (k, x, b)) = T at h h1 h2 ⊢
    have ht : tokAt p (T ++ textP r) = ⟨k, x, p, b⟩ := by
      unfold tokAt
      rw [h2, List.drop_zero, h1, h3]
      simp
    have hn : tokN (T ++ textP r) = T.length := by
      unfold tokN
      rw [h2, List.drop_zero, h1]; simp
    have hk1 : ¬ k ≤ 1 := by
      rcases hk with ⟨e, _⟩ | ⟨e, _⟩ | ⟨e, _⟩ | ⟨e, _⟩ | ⟨e, _⟩ <;> omega
    have hlen : 0 < T.length := by
      rw [← hT]
      rcases hk with ⟨rfl, hx, _⟩ | ⟨rfl, ⟨c, y, rfl, _⟩, _⟩ | ⟨rfl, _⟩ | ⟨rfl, hm, _⟩ | ⟨rfl, ⟨c, _, rfl⟩, _⟩
      · exact List.length_pos_iff.2 hx
      · simp [pieceT]
      · simp [pieceT]
      · simp only [twosL, List.mem_cons, List.not_mem_nil, or_false] at hm
        rcases hm with rfl | rfl | rfl <;> simp [pieceT]
      · simp [pieceT]
    obtain ⟨lx, t, h4, h5, h6⟩ := lex_pieces r hr f (p + T.length) (by simp at h; omega)
    refine ⟨⟨k, x, p, b⟩ :: lx, t, ?_, ?_, h6⟩
    · show (tokAt p (T ++ textP r) :: if (tokAt p (T ++ textP r)).sort ≤ 1 then [] else lexF f (p + tokN (T ++ textP r)) ((T ++ textP r).drop (tokN (T ++ textP r)))) = _
      rw [ht, hn, if_neg hk1, List.drop_left, h4]
      rfl
    · show (k, x, b) :: lx.map Tok.key = _
      rw [h5]; rfl
end Go.Proofs.YtfhdecdlkmibmaaDoor
