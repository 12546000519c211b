/- Walk: slices.Compact over tuples. -/
import Derived.Test.YtaikedlkkjnffaaGreatDoorUS1
import Derived.Test.YtaikedlkkjnffaaGreatDoorUQ2
import Derived.Test.YtaikedlkkjnffaaGreatDoorW7
import Derived.Lib.SliceRun
namespace Go.Proofs.YtaikedlkkjnffaaGreatDoor
open Go.RowKit
theorem tcells_set : ∀ (r : List Tup) (k : Nat) (t : Tup), k < r.length → ((((((tcells r).set (k * 6) (.string t.a)).set (k * 6 + 1) (.string t.b)).set (k * 6 + 2) (.string t.c)).set (k * 6 + 3) (.string t.d)).set (k * 6 + 4) (.string t.e)).set (k * 6 + 5) (.string t.f) = tcells (r.set k t)
  | [], _, _, h => by simp at h
  | x :: r, 0, t, _ => rfl
  | x :: r, k + 1, t, h => by
    have ih := tcells_set r k t (by simpa using h)
    have e : ∀ j, (k + 1) * 6 + j = (k * 6 + j) + 1 + 1 + 1 + 1 + 1 + 1 := fun j => by omega
    have e0 : (k + 1) * 6 = (k * 6) + 1 + 1 + 1 + 1 + 1 + 1 := by omega
    show (((((((.string x.a :: .string x.b :: .string x.c :: .string x.d :: .string x.e :: .string x.f :: tcells r : List Value).set _ _).set _ _).set _ _).set _ _).set _ _).set _ _) = .string x.a :: .string x.b :: .string x.c :: .string x.d :: .string x.e :: .string x.f :: tcells (r.set k t)
    rw [e 1, e 2, e 3, e 4, e 5, e0]
    simp only [List.set_cons_succ]
    rw [ih]
section
variable {B : Nat} {w : World} {g n c k : Nat} {r : List Tup}
theorem TOwn.set (h : TOwn B w (.slice (some ⟨g, 0, none⟩) n c) r) (hn : r.length = n) (t : Tup) (hk : k < n) :
    TOwn B (((((((w.setCell ⟨g, k * 6, none⟩ (.string t.a)).setCell ⟨g, k * 6 + 1, none⟩ (.string t.b)).setCell ⟨g, k * 6 + 2, none⟩ (.string t.c)).setCell ⟨g, k * 6 + 3, none⟩ (.string t.d)).setCell ⟨g, k * 6 + 4, none⟩ (.string t.e)).setCell ⟨g, k * 6 + 5, none⟩ (.string t.f))) (.slice (some ⟨g, 0, none⟩) n c) (r.set k t) := by
  subst hn
  unfold TOwn at h ⊢
  have h6 := (((((((h.stored (k * 6) (.string t.a)).1.stored (k * 6 + 1) (.string t.b)).1.stored (k * 6 + 2) (.string t.c)).1.stored (k * 6 + 3) (.string t.d)).1.stored (k * 6 + 4) (.string t.e)).1.stored (k * 6 + 5) (.string t.f)).1)
  rw [tcells_set r k t hk] at h6
  rw [List.length_set]
  exact h6
theorem TOwn.short (h : TOwn B w (.slice (some ⟨g, 0, none⟩) n c) r) (hn : r.length = n) (hk : k ≤ n) : TOwn B w (.slice (some ⟨g, 0, none⟩) k c) (r.take k) := by
  subst hn
  have hl : (r.take k).length = k := by rw [List.length_take]; omega
  have ht : tcells (r.take k) = (tcells r).take (k * 6) := by
    have e : tcells r = tcells (r.take k) ++ tcells (r.drop k) := by rw [← tcells_app, List.take_append_drop]
    rw [e, List.take_append_of_le_length (by rw [tcells_len, hl]; exact Nat.le_refl _)]
    exact (List.take_of_length_le (by rw [tcells_len, hl]; exact Nat.le_refl _)).symm
  unfold TOwn at h ⊢
  obtain ⟨_, ⟨h, _⟩ | ⟨g', cap, cur, h, h1, h2, h3, h4, h5, h6⟩⟩ := h
  · cases h
  · injection h with e1 e2 e3
    injection e1 with e1
    injection e1 with e1
    subst e1 e3
    rw [hl]
    refine ⟨by rw [tcells_len, hl], .inr ⟨g, c, cur, rfl, h1, h2, by omega, h4, h5, ?_⟩⟩
    rw [ht, ← h6, List.take_take, Nat.min_eq_left (by omega)]
theorem TOwn.past (L : List Value) : ∀ {o : Nat} {w : World}, TOwn B w (.slice (some ⟨g, 0, none⟩) n c) r → r.length = n → n * 6 ≤ o → TOwn B (w.setCells g o L) (.slice (some ⟨g, 0, none⟩) n c) r ∧ Keeps (fun j => j = g) w (w.setCells g o L) := by
  induction L with
  | nil => intro o w h _ _; exact ⟨h, Keeps.refl _ _⟩
  | cons v L ih =>
    intro o w h hn ho
    have h1 : TOwn B (w.setCell ⟨g, o, none⟩ v) (.slice (some ⟨g, 0, none⟩) n c) r := by
      unfold TOwn at h ⊢
      rw [hn] at h ⊢
      have := (h.stored o v).1
      rwa [List.set_eq_of_length_le (by rw [tcells_len, hn]; exact ho)] at this
    obtain ⟨h2, h3⟩ := ih h1 hn (o := o + 1) (by omega)
    exact ⟨h2, ((Keeps.refl (fun j => j = g) w).setCell (p := ⟨g, o, none⟩) (.inl rfl) v).trans h3⟩
end
/-- neighbours that are the same, once: one more -/
theorem compactT_snoc : ∀ (l : List Tup) (x : Tup), compactT (l ++ [x]) = if l.getLast? = some x then compactT l else compactT l ++ [x]
  | [], x => rfl
  | [t], x => by
    show (if t = x then compactT [x] else t :: compactT [x]) = _
    by_cases h : t = x
    · subst h; simp [compactT]
    · rw [if_neg h, if_neg (by simpa using h)]; rfl
  | t :: u :: l, x => by
    have ih := compactT_snoc (u :: l) x
    have e : (t :: u :: l).getLast? = (u :: l).getLast? := by simp [List.getLast?_cons]
    rw [e]
    show (if t = u then compactT (u :: l ++ [x]) else t :: compactT (u :: l ++ [x])) = if _ then (if t = u then compactT (u :: l) else t :: compactT (u :: l)) else (if t = u then compactT (u :: l) else t :: compactT (u :: l)) ++ [x]
    rw [ih]
    by_cases h1 : t = u
    · rw [if_pos h1, if_pos h1]
    · rw [if_neg h1, if_neg h1]
      by_cases h2 : (u :: l).getLast? = some x
      · rw [if_pos h2, if_pos h2]
      · rw [if_neg h2, if_neg h2]; rfl
theorem take_last {s : List Tup} {k : Nat} {x : Tup} (h : s[k]? = some x) : (s.take (k + 1)).getLast? = some x := by
  rw [List.getLast?_eq_getElem?, List.length_take, List.getElem?_take]
  have := (List.getElem?_eq_some_iff.1 h).1
  rw [show min (k + 1) s.length - 1 = k by omega, if_pos (by omega)]
  exact h
theorem take_succ' {s : List Tup} {k : Nat} {x : Tup} (h : s[k]? = some x) : s.take (k + 1) = s.take k ++ [x] := by
  obtain ⟨hlt, he⟩ := List.getElem?_eq_some_iff.1 h
  rw [List.take_succ_eq_append_getElem hlt, he]
theorem compact_new {s : List Tup} {k : Nat} {x y : Tup} (hy : s[k]? = some y) (hx : s[k + 1]? = some x) (hne : ¬ y = x) : compactT (s.take (k + 1 + 1)) = compactT (s.take (k + 1)) ++ [x] := by
  rw [take_succ' hx, compactT_snoc, take_last hy, if_neg (by intro e; exact hne (Option.some.inj e))]
theorem compact_same {s : List Tup} {k : Nat} {x : Tup} (hy : s[k]? = some x) (hx : s[k + 1]? = some x) : compactT (s.take (k + 1 + 1)) = compactT (s.take (k + 1)) := by
  rw [take_succ' hx, compactT_snoc, take_last hy, if_pos rfl]
/-- amid the second loop: m of s are looked at, k of r are written -/
structure CInv (s r : List Tup) (m k : Nat) : Prop where
  len : r.length = s.length
  lt : k < m
  le : m ≤ s.length
  one : 1 ≤ k
  low : r.take k = compactT (s.take m)
  high : ∀ j, k ≤ j → r[j]? = s[j]?
theorem CInv.skip {s r : List Tup} {m k : Nat} {x : Tup} (h : CInv s r m k) (hy : s[m - 1]? = some x) (hx : s[m]? = some x) : CInv s r (m + 1) k := by
  have h1 := h.lt
  have hlt := (List.getElem?_eq_some_iff.1 hx).1
  obtain ⟨q, rfl⟩ : ∃ q, m = q + 1 := ⟨m - 1, by omega⟩
  exact ⟨h.len, by omega, by omega, h.one, by rw [h.low, compact_same (by simpa using hy) hx], h.high⟩
theorem CInv.keep {s r : List Tup} {m k : Nat} {x y : Tup} (h : CInv s r m k) (hy : s[m - 1]? = some y) (hx : s[m]? = some x) (hne : ¬ y = x) : CInv s (r.set k x) (m + 1) (k + 1) := by
  have h1 := h.lt
  have h2 := h.len
  have hlt := (List.getElem?_eq_some_iff.1 hx).1
  obtain ⟨q, rfl⟩ : ∃ q, m = q + 1 := ⟨m - 1, by omega⟩
  refine ⟨by rw [List.length_set]; exact h.len, by omega, by omega, by omega, ?_, fun j hj => by rw [List.getElem?_set_ne (by omega)]; exact h.high j (by omega)⟩
  rw [compact_new (by simpa using hy) hx hne, ← h.low]
  have hk : (r.set k x)[k]? = some x := by rw [List.getElem?_set_self (by omega)]
  rw [take_succ' hk, List.take_set_of_le (Nat.le_refl _)]
/-- so far each differs from the one ahead of it -/
theorem compact_all {s : List Tup} : ∀ k, k < s.length → (∀ j, j < k → s[j]? ≠ s[j + 1]?) → compactT (s.take (k + 1)) = s.take (k + 1)
  | 0, hk, _ => by
    cases s with
    | nil => simp at hk
    | cons x s => rfl
  | k + 1, hk, h => by
    have hy : s[k]? = some s[k] := List.getElem?_eq_getElem (by omega)
    have hx : s[k + 1]? = some s[k + 1] := List.getElem?_eq_getElem hk
    rw [compact_new hy hx (by
      intro e
      have := h k (by omega)
      rw [hy, hx, e] at this
      exact this rfl), compact_all k (by omega) fun j hj => h j (by omega), take_succ' hx]
theorem CInv.start {s : List Tup} {k : Nat} {x : Tup} (hk : 1 ≤ k) (h : ∀ j, j + 1 < k → s[j]? ≠ s[j + 1]?) (hy : s[k - 1]? = some x) (hx : s[k]? = some x) : CInv s s (k + 1) k := by
  have hlt := (List.getElem?_eq_some_iff.1 hx).1
  obtain ⟨q, rfl⟩ : ∃ q, k = q + 1 := ⟨k - 1, by omega⟩
  refine ⟨rfl, by omega, by omega, by omega, ?_, fun _ _ => rfl⟩
  rw [compact_same (by simpa using hy) hx, compact_all q (by omega) fun j hj => h j (by omega)]
end Go.Proofs.YtaikedlkkjnffaaGreatDoor
