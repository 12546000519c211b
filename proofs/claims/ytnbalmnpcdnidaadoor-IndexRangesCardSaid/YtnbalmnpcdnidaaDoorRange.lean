/- Keys within a span, plainly. No program in sight. -/
import Derived.Test.YtnbalmnpcdnidaaDoorSpan
import Derived.Test.YtnbalmnpcdnidaaDoorW14
namespace Go.Proofs.YtnbalmnpcdnidaaDoor
open Go.RowKit
theorem u8_lt_one (x : UInt8) : x < 1 ↔ x = 0 := by
  constructor
  · intro h
    have : x.toNat < 1 := h
    exact UInt8.toNat_inj.1 (by simp; omega)
  · rintro rfl; decide
theorem u8_not_neg (x : UInt8) : ¬ x < 0 := by
  intro h
  have : x.toNat < 0 := h
  omega
/-- from p 0 on, below p 1: what begins with p 0 -/
theorem in_span : ∀ (p k : List UInt8), (!Op.bytesLess k (p ++ [0]) && Op.bytesLess k (p ++ [1])) = (p ++ [0]).isPrefixOf k
  | [], [] => by simp [Op.bytesLess]
  | [], x :: k => by
    by_cases h : x = 0
    · subst h; cases k <;> simp [Op.bytesLess, List.isPrefixOf]
    · have h1 : ¬ x < 1 := fun h' => h ((u8_lt_one x).1 h')
      have h2 : (0 == x) = false := by rw [beq_eq_false_iff_ne]; exact fun e => h e.symm
      cases k <;> simp [Op.bytesLess, List.isPrefixOf, h1, h2]
  | a :: p, [] => by simp [Op.bytesLess]
  | a :: p, x :: k => by
    have ih := in_span p k
    by_cases h : x = a
    · subst h
      simpa [Op.bytesLess, List.isPrefixOf] using ih
    · have h2 : (a == x) = false := by rw [beq_eq_false_iff_ne]; exact fun e => h e.symm
      by_cases hl : x < a
      · simp [Op.bytesLess, List.isPrefixOf, hl, h2]
      · have hg : a < x := by
          rcases UInt8.lt_or_lt_of_ne h with h' | h'
          · exact absurd h' hl
          · exact h'
        simp [Op.bytesLess, List.isPrefixOf, hl, h2, h]
/-- parts without 0: one list's key is the beginning of another one's just if its parts are -/
theorem keyL_prefix : ∀ (l m : List (List UInt8)), (∀ p ∈ l, NoZero p) → (∀ p ∈ m, NoZero p) → (keyL l).isPrefixOf (keyL m) = l.isPrefixOf m
  | [], m, _, _ => by simp [keyL]
  | p :: l, [], _, _ => by
    cases p <;> simp [keyL]
  | p :: l, q :: m, hl, hm => by
    have ih := keyL_prefix l m (fun x hx => hl x (List.mem_cons_of_mem _ hx)) (fun x hx => hm x (List.mem_cons_of_mem _ hx))
    have hp := hl p List.mem_cons_self
    have hq := hm q List.mem_cons_self
    clear hl hm
    have e1 : keyL (p :: l) = p ++ 0 :: keyL l := by simp [keyL]
    have e2 : keyL (q :: m) = q ++ 0 :: keyL m := by simp [keyL]
    rw [e1, e2, List.isPrefixOf, ← ih]
    clear e1 e2 ih
    induction p generalizing q with
    | nil =>
      cases q with
      | nil => simp
      | cons y q =>
        have : (0 == y) = false := by rw [beq_eq_false_iff_ne]; intro e; exact hq (by rw [← e]; exact List.mem_cons_self)
        simp [List.isPrefixOf, this]
    | cons x p ihp =>
      cases q with
      | nil =>
        have : (x == 0) = false := by rw [beq_eq_false_iff_ne]; intro e; exact hp (by rw [e]; exact List.mem_cons_self)
        simp [List.isPrefixOf, this]
      | cons y q =>
        have := ihp q (fun h => hp (List.mem_cons_of_mem _ h)) (fun h => hq (List.mem_cons_of_mem _ h))
        simp only [List.cons_append, List.isPrefixOf, this]
        cases h : x == y <;> simp_all
theorem keyL_ends : ∀ (l : List (List UInt8)), l ≠ [] → ∃ p, keyL l = p ++ [0]
  | [], h => absurd rfl h
  | [q], _ => ⟨q, by simp [keyL]⟩
  | q :: r :: l, _ => by
    obtain ⟨p, hp⟩ := keyL_ends (r :: l) (by simp)
    exact ⟨q ++ 0 :: p, by rw [show keyL (q :: r :: l) = q ++ 0 :: keyL (r :: l) by simp [keyL], hp]; simp⟩
theorem endB_data {s : ByteArray} {p : List UInt8} (h : s.data.toList = p ++ [0]) : (endB s).data.toList = p ++ [1] := by
  unfold endB
  rw [app_toList, Lib.extract_eq]
  have hz : s.size = p.length + 1 := by rw [Lib.size_eq, h]; simp
  rw [h, hz]
  simp
/-- a span's keys: of the same first byte, and the parts begin the same -/
theorem span_said {s k : ByteArray} {c c' : UInt8} {l m : List (List UInt8)} (hs : s.data.toList = c :: keyL l) (hk : k.data.toList = c' :: keyL m) (h0 : l ≠ [])
    (hl : ∀ p ∈ l, NoZero p) (hm : ∀ p ∈ m, NoZero p) : (!Op.bytesLess k.toList s.toList && Op.bytesLess k.toList (endB s).toList) = (c == c' && l.isPrefixOf m) := by
  obtain ⟨p, hp⟩ := keyL_ends l h0
  have e1 : s.data.toList = (c :: p) ++ [0] := by rw [hs, hp]; rfl
  rw [Lib.toList_data, Lib.toList_data, Lib.toList_data, endB_data e1, e1, in_span, ← e1, hs, hk, List.isPrefixOf, keyL_prefix l m hl hm]
def ptB (c : UInt8) (a b r : ByteArray) : ByteArray := ⟨#[c]⟩ ++ a ++ ⟨#[0]⟩ ++ b ++ ⟨#[0]⟩ ++ r ++ ⟨#[0]⟩
def tyB (a : ByteArray) : ByteArray := ⟨#[102]⟩ ++ a ++ ⟨#[0]⟩
theorem ptB_data (c : UInt8) (a b r : ByteArray) : (ptB c a b r).data.toList = c :: keyL [a.data.toList, b.data.toList, r.data.toList] := by
  simp [ptB, keyL]
theorem tyB_data (a : ByteArray) : (tyB a).data.toList = 102 :: keyL [a.data.toList] := by
  simp [tyB, keyL]
theorem fKey_data (t : Tup) : (fKey t).data.toList = 102 :: keyL t.ls := by
  show (⟨#[102]⟩ ++ t.key : ByteArray).data.toList = _
  rw [app_toList]; rfl
theorem rKey_data (t : Tup) : (rKey t).data.toList = 114 :: keyL t.turned.ls := by
  show (⟨#[114]⟩ ++ t.turned.key : ByteArray).data.toList = _
  rw [app_toList]; rfl
theorem le_not : ∀ (a b : List UInt8), (Op.bytesLess a b || a == b) = !Op.bytesLess b a
  | [], [] => by simp [Op.bytesLess]
  | [], _ :: _ => by simp [Op.bytesLess]
  | _ :: _, [] => by simp [Op.bytesLess]
  | a :: x, b :: y => by
    have ih := le_not x y
    by_cases h : a = b
    · subst h
      simpa [Op.bytesLess] using ih
    · have h' : ¬ b = a := fun e => h e.symm
      by_cases hl : a < b
      · have hn : ¬ b < a := fun h2 => absurd (UInt8.lt_trans hl h2) (UInt8.lt_irrefl a)
        simp [Op.bytesLess, hl, hn, h']
      · have hg : b < a := by
          rcases UInt8.lt_or_lt_of_ne h with h2 | h2
          · exact absurd h2 hl
          · exact h2
        simp [Op.bytesLess, hl, hg, h]
def inS (k s : ByteArray) : Bool := (Op.bytesLess s.toList k.toList || s.toList == k.toList) && Op.bytesLess k.toList (endB s).toList
theorem beq_data (a b : ByteArray) : (a.data.toList == b.data.toList) = (a.toList == b.toList) := by rw [Lib.toList_data, Lib.toList_data]
theorem pre3 (a b c d e f g h i : ByteArray) : [a.data.toList, b.data.toList, c.data.toList].isPrefixOf [d.data.toList, e.data.toList, f.data.toList, g.data.toList, h.data.toList, i.data.toList] = ((a.toList == d.toList) && (b.toList == e.toList) && (c.toList == f.toList)) := by
  rw [← beq_data, ← beq_data, ← beq_data]
  simp only [List.isPrefixOf, Bool.and_true, Bool.and_assoc]
theorem pre1 (a d e f g h i : ByteArray) : [a.data.toList].isPrefixOf [d.data.toList, e.data.toList, f.data.toList, g.data.toList, h.data.toList, i.data.toList] = (a.toList == d.toList) := by
  rw [← beq_data]
  simp only [List.isPrefixOf, Bool.and_true]
theorem nz3 {t : Tup} (ht : t.ok = true) : ∀ p ∈ [t.a.data.toList, t.b.data.toList, t.c.data.toList], NoZero p := fun p hp => Tup.ok_noZero ht p (by simp [Tup.ls, Tup.l] at hp ⊢; rcases hp with rfl | rfl | rfl <;> simp)
theorem nz3' {t : Tup} (ht : t.ok = true) : ∀ p ∈ [t.d.data.toList, t.e.data.toList, t.f.data.toList], NoZero p := fun p hp => Tup.ok_noZero ht p (by simp [Tup.ls, Tup.l] at hp ⊢; rcases hp with rfl | rfl | rfl <;> simp)
theorem nz1 {t : Tup} (ht : t.ok = true) : ∀ p ∈ [t.a.data.toList], NoZero p := fun p hp => nz3 ht p (by simp at hp ⊢; exact .inl hp)
theorem in_one {t u : Tup} (ht : t.ok = true) (hu : u.ok = true) : inS (fKey u) (ptB 102 t.a t.b t.c) = ((t.a.toList == u.a.toList) && (t.b.toList == u.b.toList) && (t.c.toList == u.c.toList)) := by
  unfold inS
  rw [le_not, span_said (ptB_data 102 _ _ _) (fKey_data u) (by simp) (nz3 ht) (Tup.ok_noZero hu)]
  exact (Bool.true_and _).trans (pre3 _ _ _ _ _ _ _ _ _)
theorem in_two {t u : Tup} (ht : t.ok = true) (hu : u.ok = true) : inS (rKey u) (ptB 114 t.d t.e t.f) = ((t.d.toList == u.d.toList) && (t.e.toList == u.e.toList) && (t.f.toList == u.f.toList)) := by
  unfold inS
  rw [le_not, span_said (ptB_data 114 _ _ _) (rKey_data u) (by simp) (nz3' ht) (turned_ok hu)]
  exact (Bool.true_and _).trans (pre3 _ _ _ _ _ _ _ _ _)
theorem in_three {t u : Tup} (ht : t.ok = true) (hu : u.ok = true) : inS (fKey u) (tyB t.a) = (t.a.toList == u.a.toList) := by
  unfold inS
  rw [le_not, span_said (tyB_data _) (fKey_data u) (by simp) (nz1 ht) (Tup.ok_noZero hu)]
  exact (Bool.true_and _).trans (pre1 _ _ _ _ _ _ _)
theorem out_one {t u : Tup} (ht : t.ok = true) (hu : u.ok = true) : inS (rKey u) (ptB 102 t.a t.b t.c) = false := by
  unfold inS
  rw [le_not, span_said (ptB_data 102 _ _ _) (rKey_data u) (by simp) (nz3 ht) (turned_ok hu)]; rfl
theorem out_two {t u : Tup} (ht : t.ok = true) (hu : u.ok = true) : inS (fKey u) (ptB 114 t.d t.e t.f) = false := by
  unfold inS
  rw [le_not, span_said (ptB_data 114 _ _ _) (fKey_data u) (by simp) (nz3' ht) (Tup.ok_noZero hu)]; rfl
theorem out_three {t u : Tup} (ht : t.ok = true) (hu : u.ok = true) : inS (rKey u) (tyB t.a) = false := by
  unfold inS
  rw [le_not, span_said (tyB_data _) (rKey_data u) (by simp) (nz1 ht) (turned_ok hu)]; rfl
theorem inS_out {k s : ByteArray} (h : inS k s = false) : ((Op.bytesLess s.toList k.toList || s.toList == k.toList) = false) ∨ ((Op.bytesLess s.toList k.toList || s.toList == k.toList) = true ∧ Op.bytesLess k.toList (endB s).toList = false) := by
  unfold inS at h
  cases hc : (Op.bytesLess s.toList k.toList || s.toList == k.toList)
  · exact .inl rfl
  · rw [hc, Bool.true_and] at h
    exact .inr ⟨rfl, h⟩
end Go.Proofs.YtnbalmnpcdnidaaDoor
