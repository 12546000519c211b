/- The order of tuples, plainly: no program in sight. -/
import Derived.Test.YtaikedlkkjnffaaGreatDoorTup
import Derived.Lib.Bytealg
import Derived.Lib.Join
namespace Go.Proofs.YtaikedlkkjnffaaGreatDoor
open Go.RowKit

/-- the first parts that are not the same decide -/
def cmpL : List (List UInt8) → List (List UInt8) → Int
  | p :: ps, q :: qs => if Lib.compareBytes p q = 0 then cmpL ps qs else Lib.compareBytes p q
  | _, _ => 0
def Tup.ls (t : Tup) : List (List UInt8) := t.l.map fun p => p.data.toList
def cmpT (t u : Tup) : Int := cmpL t.ls u.ls
def same6 (a b c d e f a' b' c' d' e' f' : ByteArray) : Bool :=
  a.toList == a'.toList && (b.toList == b'.toList && (c.toList == c'.toList && (d.toList == d'.toList && (e.toList == e'.toList && f.toList == f'.toList))))
def Tup.same (t u : Tup) : Bool := same6 t.a t.b t.c t.d t.e t.f u.a u.b u.c u.d u.e u.f
theorem bytes_ext {a b : ByteArray} (h : a.data.toList = b.data.toList) : a = b := by
  rw [← Lib.mk_data a, h, Lib.mk_data]
theorem same_eq {t u : Tup} : t.same u = true ↔ t = u := by
  constructor
  · intro h
    simp only [Tup.same, same6, Bool.and_eq_true, beq_iff_eq, Lib.toList_data] at h
    obtain ⟨h0, h1, h2, h3, h4, h5⟩ := h
    cases t; cases u
    simp only at h0 h1 h2 h3 h4 h5
    rw [bytes_ext h0, bytes_ext h1, bytes_ext h2, bytes_ext h3, bytes_ext h4, bytes_ext h5]
  · rintro rfl; simp [Tup.same, same6]
theorem cb_self : ∀ l : List UInt8, Lib.compareBytes l l = 0
  | [] => rfl
  | a :: l => by unfold Lib.compareBytes; rw [if_neg (by simp), if_neg (by simp)]; exact cb_self l
theorem cb_eq : ∀ a b : List UInt8, Lib.compareBytes a b = 0 → a = b
  | [], [], _ => rfl
  | [], _ :: _, h => by simp [Lib.compareBytes] at h
  | _ :: _, [], h => by simp [Lib.compareBytes] at h
  | a :: x, b :: y, h => by
    unfold Lib.compareBytes at h
    split at h
    · simp at h
    · split at h
      · simp at h
      · rename_i h1 h2
        have e : a = b := by
          have := UInt8.le_antisymm (UInt8.not_lt.1 h2) (UInt8.not_lt.1 h1)
          exact this
        rw [e, cb_eq x y h]
theorem cb_three : ∀ a b : List UInt8, Lib.compareBytes a b = 0 ∨ Lib.compareBytes a b = -1 ∨ Lib.compareBytes a b = 1
  | [], [] => .inl rfl
  | [], _ :: _ => .inr (.inl rfl)
  | _ :: _, [] => .inr (.inr rfl)
  | a :: x, b :: y => by
    unfold Lib.compareBytes
    split
    · exact .inr (.inl rfl)
    · split
      · exact .inr (.inr rfl)
      · exact cb_three x y
theorem cb_less : ∀ a b : List UInt8, Op.bytesLess a b = decide (Lib.compareBytes a b = -1)
  | [], [] => rfl
  | [], _ :: _ => rfl
  | _ :: _, [] => by simp [Op.bytesLess, Lib.compareBytes]
  | a :: x, b :: y => by
    unfold Op.bytesLess Lib.compareBytes
    by_cases h1 : a < b
    · simp [h1]
    · by_cases h2 : b < a
      · have h3 : ¬ a = b := by rintro rfl; exact h1 h2
        simp [h1, h2, h3]
      · have e : a = b := UInt8.le_antisymm (UInt8.not_lt.1 h2) (UInt8.not_lt.1 h1)
        subst e
        simp [cb_less x y]
theorem cmpL_self : ∀ l, cmpL l l = 0
  | [] => rfl
  | p :: l => by unfold cmpL; rw [if_pos (cb_self p)]; exact cmpL_self l
theorem cmpT_same {t u : Tup} (h : t.same u = true) : cmpT t u = 0 := by
  rw [same_eq.1 h]; exact cmpL_self _
theorem part_ls (t : Tup) (k : Nat) (h : k < 6) : t.ls[k]? = some (t.part k).data.toList := by
  rcases k with _ | _ | _ | _ | _ | _ | k <;> first | omega | rfl
/-- so far they are the same -/
theorem cmpL_drop : ∀ (k : Nat) (a b : List (List UInt8)), (∀ j, j < k → ∃ x, a[j]? = some x ∧ b[j]? = some x) → cmpL a b = cmpL (a.drop k) (b.drop k)
  | 0, _, _, _ => rfl
  | k + 1, a, b, h => by
    obtain ⟨x, h0, h1⟩ := h 0 (by omega)
    match a, b, h0, h1 with
    | p :: ps, q :: qs, h0, h1 =>
      simp at h0 h1; subst h0 h1
      rw [cmpL, if_pos (cb_self _)]
      simp only [List.drop_succ_cons]
      exact cmpL_drop k ps qs fun j hj => by simpa using h (j + 1) (by omega)
theorem cmpT_at (t u : Tup) (k : Nat) (h : k < 6) (hs : ∀ j, j < k → Lib.compareBytes (t.part j).data.toList (u.part j).data.toList = 0)
    (hn : ¬ Lib.compareBytes (t.part k).data.toList (u.part k).data.toList = 0) : cmpT t u = Lib.compareBytes (t.part k).data.toList (u.part k).data.toList := by
  unfold cmpT
  rw [cmpL_drop k]
  · have e1 := part_ls t k h
    have e2 := part_ls u k h
    rw [List.getElem?_eq_some_iff] at e1 e2
    obtain ⟨l1, e1⟩ := e1
    obtain ⟨l2, e2⟩ := e2
    rw [List.drop_eq_getElem_cons l1, List.drop_eq_getElem_cons l2, e1, e2, cmpL, if_neg hn]
  · intro j hj
    exact ⟨_, part_ls t j (by omega), by rw [part_ls u j (by omega), cb_eq _ _ (hs j hj)]⟩
theorem cmpT_all (t u : Tup) (hs : ∀ j, j < 6 → Lib.compareBytes (t.part j).data.toList (u.part j).data.toList = 0) : cmpT t u = 0 := by
  unfold cmpT
  rw [cmpL_drop 6]
  · simp [Tup.ls, Tup.l, cmpL]
  · intro j hj
    exact ⟨_, part_ls t j (by omega), by rw [part_ls u j (by omega), cb_eq _ _ (hs j hj)]⟩
theorem cb_next {t u : Tup} {k : Nat} (h : ∀ j, j < k → Lib.compareBytes (t.part j).data.toList (u.part j).data.toList = 0) (hk : Lib.compareBytes (t.part k).data.toList (u.part k).data.toList = 0) :
    ∀ j, j < k + 1 → Lib.compareBytes (t.part j).data.toList (u.part j).data.toList = 0 := by
  intro j hj
  by_cases e : j = k
  · subst e; exact hk
  · exact h j (by omega)
theorem less_m {a b : ByteArray} (h : Lib.compareBytes a.data.toList b.data.toList = -1) : Op.bytesLess a.toList b.toList = true := by
  rw [Lib.toList_data, Lib.toList_data, cb_less, h]; rfl
theorem less_n {a b : ByteArray} (h : ¬ Lib.compareBytes a.data.toList b.data.toList = -1) : Op.bytesLess a.toList b.toList = false := by
  rw [Lib.toList_data, Lib.toList_data, cb_less]; simpa using h
theorem eq_y {a b : ByteArray} (h : Lib.compareBytes a.data.toList b.data.toList = 0) : (a.toList == b.toList) = true := by
  rw [Lib.toList_data, Lib.toList_data, cb_eq _ _ h]; simp
theorem eq_n {a b : ByteArray} (h : ¬ Lib.compareBytes a.data.toList b.data.toList = 0) : (a.toList == b.toList) = false := by
  rw [Lib.toList_data, Lib.toList_data]
  cases he : a.data.toList == b.data.toList with
  | false => rfl
  | true => rw [beq_iff_eq] at he; exact absurd (by rw [he]; exact cb_self _) h
end Go.Proofs.YtaikedlkkjnffaaGreatDoor
