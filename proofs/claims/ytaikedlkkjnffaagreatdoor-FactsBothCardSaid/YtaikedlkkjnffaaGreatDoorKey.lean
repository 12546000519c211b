/- Keys of tuples, plainly: their text, their order. No program in sight. -/
import Derived.Test.YtaikedlkkjnffaaGreatDoorCmp
namespace Go.Proofs.YtaikedlkkjnffaaGreatDoor
open Go.RowKit
/-- each part with a byte 0 behind it -/
def keyL : List (List UInt8) → List UInt8
  | [] => []
  | p :: ps => p ++ 0 :: keyL ps
def Tup.key (t : Tup) : ByteArray := ⟨(keyL t.ls).toArray⟩
theorem join_key : ∀ (p : List UInt8) (ps : List (List UInt8)), Lib.join (p :: ps) [0] ++ [0] = keyL (p :: ps)
  | p, [] => by simp [Lib.join_one, keyL]
  | p, q :: ps => by
    have h := join_key q ps
    rw [Lib.join_cons] at h ⊢
    have e : Lib.joinTail [0] (q :: ps) = 0 :: (q ++ Lib.joinTail [0] ps) := by simp [Lib.joinTail]
    rw [e, keyL, ← h]
    simp
theorem key_join (t : Tup) : (⟨(Lib.join t.ls [0]).toArray⟩ : ByteArray) ++ ⟨#[0]⟩ = t.key := by
  apply bytes_ext
  have h := join_key t.a.data.toList [t.b.data.toList, t.c.data.toList, t.d.data.toList, t.e.data.toList, t.f.data.toList]
  have e : t.ls = t.a.data.toList :: [t.b.data.toList, t.c.data.toList, t.d.data.toList, t.e.data.toList, t.f.data.toList] := rfl
  rw [← e] at h
  have h2 : t.key.data.toList = keyL t.ls := rfl
  rw [h2, ← h]
  simp
theorem keyL_length : ∀ l : List (List UInt8), (keyL l).length = (l.map List.length).sum + l.length
  | [] => rfl
  | p :: l => by rw [keyL, List.length_append, List.length_cons, keyL_length l]; simp; omega

/-- no part holds a byte 0 -/
def NoZero (l : List UInt8) : Prop := (0 : UInt8) ∉ l
theorem name_noZero {l : List UInt8} (h : isName l = true) : NoZero l := by
  intro h0
  simp only [isName, Bool.and_eq_true, List.all_eq_true] at h
  have := h.1.1 0 h0
  simp [nameByte] at this
theorem partOk_noZero {k : Nat} {p : ByteArray} (h : partOk k p = true) : NoZero p.data.toList := by
  unfold partOk at h
  rw [Lib.toList_data] at h
  simp only [Bool.or_eq_true, Bool.and_eq_true] at h
  rcases h with h | ⟨_, h⟩
  · exact name_noZero h
  · have : p.data.toList = [] := by simpa using h
    rw [this]; simp [NoZero]
theorem Tup.ok_noZero {t : Tup} (h : t.ok = true) : ∀ p ∈ t.ls, NoZero p := by
  simp only [Tup.ok, Bool.and_eq_true] at h
  obtain ⟨⟨⟨⟨⟨h0, h1⟩, h2⟩, h3⟩, h4⟩, h5⟩ := h
  intro p hp
  simp [Tup.ls, Tup.l] at hp
  rcases hp with rfl | rfl | rfl | rfl | rfl | rfl
  · exact partOk_noZero h0
  · exact partOk_noZero h1
  · exact partOk_noZero h2
  · exact partOk_noZero h3
  · exact partOk_noZero h4
  · exact partOk_noZero h5
theorem cb_append_same (p x y : List UInt8) : Lib.compareBytes (p ++ x) (p ++ y) = Lib.compareBytes x y := by
  induction p with
  | nil => rfl
  | cons a p ih => simp [Lib.compareBytes, ih]
/-- a text with a byte 0 behind it: the texts decide, where neither holds a byte 0 -/
theorem cb_zero : ∀ (p q x y : List UInt8), NoZero p → NoZero q → ¬ Lib.compareBytes p q = 0 → Lib.compareBytes (p ++ 0 :: x) (q ++ 0 :: y) = Lib.compareBytes p q
  | [], [], _, _, _, _, h => absurd rfl h
  | [], b :: q, x, y, _, hq, _ => by
    have hb : b ≠ 0 := fun e => hq (by rw [e]; exact List.mem_cons_self)
    have h1 : (0 : UInt8) < b := by
      rcases UInt8.lt_or_eq_of_le (UInt8.zero_le : (0 : UInt8) ≤ b) with h | h
      · exact h
      · exact absurd h.symm hb
    simp [Lib.compareBytes, h1]
  | a :: p, [], x, y, hp, _, _ => by
    have ha : a ≠ 0 := fun e => hp (by rw [e]; exact List.mem_cons_self)
    have h1 : (0 : UInt8) < a := by
      rcases UInt8.lt_or_eq_of_le (UInt8.zero_le : (0 : UInt8) ≤ a) with h | h
      · exact h
      · exact absurd h.symm ha
    have h2 : ¬ a < 0 := by simp
    simp [Lib.compareBytes, h1]
  | a :: p, b :: q, x, y, hp, hq, h => by
    simp only [List.cons_append, Lib.compareBytes] at h ⊢
    by_cases h1 : a < b
    · rw [if_pos h1, if_pos h1]
    · rw [if_neg h1] at h ⊢
      rw [if_neg h1]
      by_cases h2 : b < a
      · rw [if_pos h2, if_pos h2]
      · rw [if_neg h2] at h ⊢
        rw [if_neg h2]
        exact cb_zero p q x y (fun h0 => hp (List.mem_cons_of_mem _ h0)) (fun h0 => hq (List.mem_cons_of_mem _ h0)) h
theorem cb_key : ∀ (l m : List (List UInt8)), l.length = m.length → (∀ p ∈ l, NoZero p) → (∀ p ∈ m, NoZero p) → Lib.compareBytes (keyL l) (keyL m) = cmpL l m
  | [], [], _, _, _ => rfl
  | p :: l, q :: m, hl, hp, hq => by
    simp only [keyL, cmpL]
    have ih := cb_key l m (by simpa using hl) (fun x hx => hp x (List.mem_cons_of_mem _ hx)) (fun x hx => hq x (List.mem_cons_of_mem _ hx))
    by_cases h : Lib.compareBytes p q = 0
    · rw [if_pos h, cb_eq _ _ h, cb_append_same]
      simp only [Lib.compareBytes]
      rw [if_neg (by simp), if_neg (by simp), ih]
    · rw [if_neg h]
      exact cb_zero p q _ _ (hp p List.mem_cons_self) (hq q List.mem_cons_self) h
/-- a key is no beginning of another one's -/
theorem key_begins : ∀ (l m : List (List UInt8)), l.length = m.length → (∀ p ∈ l, NoZero p) → (∀ p ∈ m, NoZero p) → keyL l <+: keyL m → keyL l = keyL m
  | [], [], _, _, _, _ => rfl
  | p :: l, q :: m, hl, hp, hq, h => by
    simp only [keyL] at h ⊢
    obtain ⟨r, hr⟩ := h
    have hpq : ∀ (p q x y : List UInt8), NoZero p → NoZero q → p ++ 0 :: x = q ++ 0 :: y → p = q ∧ x = y := by
      intro p
      induction p with
      | nil =>
        intro q x y _ hq he
        cases q with
        | nil => simp at he; exact ⟨rfl, he⟩
        | cons b q => simp at he; exact absurd (by rw [← he.1]; exact List.mem_cons_self) hq
      | cons a p ih =>
        intro q x y hp hq he
        cases q with
        | nil => simp at he; exact absurd (by rw [he.1]; exact List.mem_cons_self) hp
        | cons b q =>
          simp at he
          obtain ⟨h1, h2⟩ := ih q x y (fun h0 => hp (List.mem_cons_of_mem _ h0)) (fun h0 => hq (List.mem_cons_of_mem _ h0)) he.2
          exact ⟨by rw [he.1, h1], h2⟩
    obtain ⟨h1, h2⟩ := hpq p q (keyL l ++ r) (keyL m) (hp p List.mem_cons_self) (hq q List.mem_cons_self) (by rw [← hr]; simp)
    rw [h1, key_begins l m (by simpa using hl) (fun x hx => hp x (List.mem_cons_of_mem _ hx)) (fun x hx => hq x (List.mem_cons_of_mem _ hx)) ⟨r, h2⟩]
theorem cmp_key {t u : Tup} (ht : t.ok = true) (hu : u.ok = true) : Lib.compareBytes t.key.data.toList u.key.data.toList = cmpT t u :=
  cb_key t.ls u.ls rfl (Tup.ok_noZero ht) (Tup.ok_noZero hu)
theorem ls_le {t : Tup} (h : t.ok = true) : (t.ls.map List.length).sum ≤ 192 := by
  obtain ⟨h0, h1, h2, h3, h4, h5⟩ := Tup.ok_le h
  rw [Lib.size_eq] at h0 h1 h2 h3 h4 h5
  simp only [Tup.ls, Tup.l, List.map_cons, List.map_nil, List.sum_cons, List.sum_nil]
  omega
theorem key_len {t : Tup} (h : t.ok = true) : t.key.size ≤ 198 := by
  have := ls_le h
  rw [Lib.size_eq]
  show (keyL t.ls).length ≤ 198
  rw [keyL_length]
  have : t.ls.length = 6 := rfl
  omega
theorem join_len {t : Tup} (h : t.ok = true) : (Lib.join t.ls [0]).length ≤ 198 := by
  have h1 := key_len h
  rw [← key_join, Lib.size_eq] at h1
  simp at h1
  omega
end Go.Proofs.YtaikedlkkjnffaaGreatDoor
