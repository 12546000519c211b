/- The document's Parse: what a line's tokens come to, in memory. -/
import Derived.Test.YtkibaaljpbcjeaaDoorSPp
import Derived.Test.YtkibaaljpbcjeaaDoorSW19
import Derived.Test.YtkibaaljpbcjeaaDoorSD5
namespace Go.Proofs.YtkibaaljpbcjeaaDoor
open Go.RowKit
theorem pk_len (s : List UInt8) : (pk s).length ≤ s.length := Nat.le_trans (pk_le s) (trimL_le s)
theorem toks_le : ∀ (n : Nat) (s : List UInt8), s.length ≤ n → (toks s).length ≤ s.length ∧ ∀ x ∈ toks s, x.length ≤ s.length
  | n, s, hn => by
    by_cases hp : pk s = []
    · cases he : (trimL s).isEmpty
      · have hb : pbad s = true := by rw [pbad_of hp, he]; rfl
        rw [toks_bad hb]
        refine ⟨?_, fun x hx => by rw [List.mem_singleton.1 hx]; simp⟩
        have := trimL_le s
        cases ht : trimL s with
        | nil => rw [ht] at he; cases he
        | cons a l => rw [ht] at this; simp at this ⊢; omega
      · rw [toks_end he]; exact ⟨by simp, fun x hx => by simp at hx⟩
    · have hlt : (rest s).length < s.length := rest_lt (by cases hh : pk s with
        | nil => exact absurd hh hp
        | cons _ _ => rfl) (by
        cases ht : (trimL s).isEmpty
        · rfl
        · exact absurd (pk_trim ht) hp)
      rw [toks_cons hp]
      match n, hn with
      | 0, hn => omega
      | n + 1, hn =>
        obtain ⟨h1, h2⟩ := toks_le n (rest s) (by omega)
        refine ⟨by rw [List.length_cons]; omega, fun x hx => ?_⟩
        rcases List.mem_cons.1 hx with rfl | hx
        · exact pk_len s
        · have := h2 x hx; omega
theorem lat_of_own {w : World} {B c : Nat} {p : Option Addr} {t : Toks} (h : w.ownsRow B 9 1 (.slice p t.length c) t.length (t.map strV)) (hn : t ≠ []) (hsz : ∀ x ∈ t, x.length ≤ 100000) : ∃ g, p = some ⟨g, 0, none⟩ ∧ LAt w g (.slice p t.length c) t := by
  have hpos : 0 < t.length := by cases t with
    | nil => exact absurd rfl hn
    | cons _ _ => simp
  rcases RowAt.of_own h with ⟨_, h0⟩ | ⟨g, c', cur, hv, hc, hb, hcell⟩
  · omega
  · injection hv with h1 h2 h3
    subst h1 h3
    exact ⟨g, rfl, 0, c, cur, rfl, hc, hb, fun i x hi => by rw [Nat.zero_add]; exact hcell i _ (by rw [List.getElem?_map, hi]; rfl), hsz⟩
/-- a line's tokens that say nothing that may stand there, whatever a rule's are -/
def LineNo (w : World) (g n tl : Nat) : Prop :=
  n < 2 ∨ (n = 2 ∧ ∃ A, w.cell? ⟨g, 0, none⟩ = some (.string A) ∧ (A.toList == [116, 121, 112, 101]) = false) ∨
  (n = 2 ∧ ∃ A B, w.cell? ⟨g, 0, none⟩ = some (.string A) ∧ (A.toList == [116, 121, 112, 101]) = true ∧ w.cell? ⟨g, 1, none⟩ = some (.string B) ∧ isNameSaid B false) ∨
  (n = 2 ∧ ∃ A B, w.cell? ⟨g, 0, none⟩ = some (.string A) ∧ (A.toList == [116, 121, 112, 101]) = true ∧ w.cell? ⟨g, 1, none⟩ = some (.string B) ∧ isNameSaid B true ∧ (B.toList == [116, 104, 105, 115]) = true) ∨
  (3 ≤ n ∧ tl = 0) ∨
  (3 ≤ n ∧ 0 < tl ∧ ∃ A, w.cell? ⟨g, 0, none⟩ = some (.string A) ∧ isNameSaid A false) ∨
  (3 ≤ n ∧ 0 < tl ∧ ∃ A, w.cell? ⟨g, 0, none⟩ = some (.string A) ∧ isNameSaid A true ∧ (A.toList == [116, 104, 105, 115]) = true) ∨
  (3 ≤ n ∧ 0 < tl ∧ ∃ A, w.cell? ⟨g, 0, none⟩ = some (.string A) ∧ isNameSaid A true ∧ (A.toList == [116, 104, 105, 115]) = false ∧ (A.toList == [116, 121, 112, 101]) = true) ∨
  (3 ≤ n ∧ 0 < tl ∧ ∃ A E, w.cell? ⟨g, 0, none⟩ = some (.string A) ∧ isNameSaid A true ∧ (A.toList == [116, 104, 105, 115]) = false ∧ (A.toList == [116, 121, 112, 101]) = false ∧ w.cell? ⟨g, 1, none⟩ = some (.string E) ∧ (E.toList == [61]) = false)
theorem tysaid (s : ByteArray) : (s.toList == [116, 121, 112, 101]) = (s.data.toList == typeL) := by rw [Lib.toList_data]; rfl
theorem eqsaid (s : ByteArray) : (s.toList == [61]) = (s.data.toList == eqL) := by rw [Lib.toList_data]; rfl
theorem name_said {A : ByteArray} {a : List UInt8} {b : Bool} (dA : A.data.toList = a) (h : a.length ≤ 100000) (hb : isName a = b) : isNameSaid A b := fun w => by
  have := refIsName_calls A w (by rw [Lib.size_eq, dA]; unfold maxLen; omega)
  rw [dA, hb] at this
  exact this
theorem good_and {a : List UInt8} (h : good a = true) : isName a = true ∧ a ≠ thisL := by
  unfold good at h
  rw [Bool.and_eq_true, Bool.not_eq_true'] at h
  exact ⟨h.1, fun e => by rw [e] at h; cases h.2⟩
theorem lineD_two (ts : List TyD) (a b : List UInt8) : lineD ts [a, b] = if a = typeL ∧ good b = true then some (ts ++ [(b, [])]) else none := rfl
theorem lineD_more (ts : List TyD) (a e c : List UInt8) (l2 : Toks) : lineD ts (a :: e :: c :: l2) = if ts ≠ [] ∧ good a = true ∧ a ≠ typeL ∧ e = eqL then match dRule 8 (c :: l2) with
      | some (r, []) => some (addRel ts a r)
      | _ => none
    else none := rfl
theorem line_cases {w : World} {g : Nat} (ts : List TyD) (l : Toks) (hcell : ∀ i x, l[i]? = some x → w.cell? ⟨g, i, none⟩ = some (strV x)) (hsz : ∀ x ∈ l, x.length ≤ 100000) :
    (LineNo w g l.length ts.length ∧ lineD ts l = none) ∨ (∃ b, l = [typeL, b] ∧ good b = true) ∨ (∃ a c l2, l = a :: eqL :: c :: l2 ∧ ts ≠ [] ∧ good a = true ∧ a ≠ typeL) := by
  match l, hcell, hsz with
  | [], _, _ => exact .inl ⟨.inl (by simp), rfl⟩
  | [a], _, _ => exact .inl ⟨.inl (by simp), rfl⟩
  | [a, b], hcell, hsz =>
    obtain ⟨A, eA, dA⟩ := str_of a
    obtain ⟨B, eB, dB⟩ := str_of b
    have c0 := hcell 0 a rfl
    have c1 := hcell 1 b rfl
    rw [eA] at c0
    rw [eB] at c1
    have h1 : lineD ts [a, b] = if a = typeL ∧ good b = true then some (ts ++ [(b, [])]) else none := rfl
    by_cases ha : a = typeL
    · have e1 : (A.toList == [116, 121, 112, 101]) = true := by rw [tysaid, dA, ha]; rfl
      cases hn : isName b
      · exact .inl ⟨.inr (.inr (.inl ⟨rfl, A, B, c0, e1, c1, name_said dB (hsz b (by simp)) hn⟩)), by rw [h1, if_neg fun e => by rw [(good_and e.2).1] at hn; cases hn]⟩
      · by_cases ht : b = thisL
        · exact .inl ⟨.inr (.inr (.inr (.inl ⟨rfl, A, B, c0, e1, c1, name_said dB (hsz b (by simp)) hn, by rw [this_eq, dB, ht]; rfl⟩))), by rw [h1, if_neg fun e => (good_and e.2).2 ht]⟩
        · exact .inr (.inl ⟨b, by rw [ha], by unfold good; rw [hn, beq_false_of_ne ht]; rfl⟩)
    · exact .inl ⟨.inr (.inl ⟨rfl, A, c0, by rw [tysaid, dA]; exact beq_false_of_ne ha⟩), by rw [h1, if_neg fun e => ha e.1]⟩
  | a :: e :: c :: l2, hcell, hsz =>
    obtain ⟨A, eA, dA⟩ := str_of a
    obtain ⟨E, eE, dE⟩ := str_of e
    have c0 := hcell 0 a rfl
    have c1 := hcell 1 e rfl
    rw [eA] at c0
    rw [eE] at c1
    have h1 := lineD_more ts a e c l2
    have h3 : 3 ≤ (a :: e :: c :: l2).length := by simp
    by_cases ht : ts = []
    · exact .inl ⟨.inr (.inr (.inr (.inr (.inl ⟨h3, by rw [ht]; rfl⟩)))), by rw [h1, if_neg fun e => e.1 ht]⟩
    · have hpos : 0 < ts.length := by cases ts with
        | nil => exact absurd rfl ht
        | cons _ _ => simp
      cases hn : isName a
      · exact .inl ⟨.inr (.inr (.inr (.inr (.inr (.inl ⟨h3, hpos, A, c0, name_said dA (hsz a (by simp)) hn⟩))))), by rw [h1, if_neg fun e => by rw [(good_and e.2.1).1] at hn; cases hn]⟩
      · have hN := name_said dA (hsz a (by simp)) hn
        by_cases hth : a = thisL
        · exact .inl ⟨.inr (.inr (.inr (.inr (.inr (.inr (.inl ⟨h3, hpos, A, c0, hN, by rw [this_eq, dA, hth]; rfl⟩)))))), by rw [h1, if_neg fun e => (good_and e.2.1).2 hth]⟩
        · have et : (A.toList == [116, 104, 105, 115]) = false := by rw [this_eq, dA]; exact beq_false_of_ne hth
          by_cases hty : a = typeL
          · exact .inl ⟨.inr (.inr (.inr (.inr (.inr (.inr (.inr (.inl ⟨h3, hpos, A, c0, hN, et, by rw [tysaid, dA, hty]; rfl⟩))))))), by rw [h1, if_neg fun e => e.2.2.1 hty]⟩
          · have ey : (A.toList == [116, 121, 112, 101]) = false := by rw [tysaid, dA]; exact beq_false_of_ne hty
            by_cases heq : e = eqL
            · exact .inr (.inr ⟨a, c, l2, by rw [heq], ht, by unfold good; rw [hn, beq_false_of_ne hth]; rfl, hty⟩)
            · exact .inl ⟨.inr (.inr (.inr (.inr (.inr (.inr (.inr (.inr ⟨h3, hpos, A, E, c0, hN, et, ey, c1, by rw [eqsaid, dE]; exact beq_false_of_ne heq⟩))))))), by rw [h1, if_neg fun e => heq e.2.2.2]⟩
def DParseSaid (w : World) (ls : List (List UInt8)) (e : Ending) (w' : World) : Prop :=
  Below w.heap.size w w' ∧ ((∃ k, parseD ls 0 [] = (none, k) ∧ e = .returned (.tuple #[.agg #[.slice none 0 0], .int .i64 k, .int .i64 9])) ∨ ∃ ts v us, parseD ls 0 [] = (some ts, 0) ∧ e = .returned (.tuple #[.agg #[v], .int .i64 0, .int .i64 0]) ∧ Sch (w.heap.size + 2) w' v us ts)
end Go.Proofs.YtkibaaljpbcjeaaDoor
