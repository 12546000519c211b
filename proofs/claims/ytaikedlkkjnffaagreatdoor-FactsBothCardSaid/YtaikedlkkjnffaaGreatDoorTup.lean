/- Plain words on tuples. No program in sight. -/
import Derived.Test.YtaikedlkkjnffaaGreatDoorStr
namespace Go.Proofs.YtaikedlkkjnffaaGreatDoor
open Go.RowKit

/-- a tuple: six texts -/
structure Tup where
  (a b c d e f : ByteArray)
/-- its parts -/
def Tup.l (t : Tup) : List ByteArray := [t.a, t.b, t.c, t.d, t.e, t.f]
/-- the value by which a call hands it over -/
def Tup.v (t : Tup) : Value := .agg #[.string t.a, .string t.b, .string t.c, .string t.d, .string t.e, .string t.f]
@[go_sem] theorem Tup.v_eq (t : Tup) : t.v = .agg #[.string t.a, .string t.b, .string t.c, .string t.d, .string t.e, .string t.f] := rfl
/-- all of its parts take room in memory -/
def Tup.fits (t : Tup) : Prop := ∀ p ∈ t.l, p.size ≤ maxLen
def partOk (k : Nat) (p : ByteArray) : Bool := isName p.data.toList || (decide (5 ≤ k) && p.toList.isEmpty)
/-- may it be? -/
def Tup.ok (t : Tup) : Bool := partOk 0 t.a && partOk 1 t.b && partOk 2 t.c && partOk 3 t.d && partOk 4 t.e && partOk 5 t.f
def Tup.check (t : Tup) : Int := if t.ok then 0 else 2
def Tup.part (t : Tup) (k : Nat) : ByteArray := t.l.getD k ByteArray.empty
theorem Tup.part_mem (t : Tup) (k : Nat) (h : k < 6) : t.part k ∈ t.l := by
  unfold Tup.part
  rw [List.getD_eq_getElem?_getD, List.getElem?_eq_getElem (by simpa [Tup.l] using h)]
  exact List.getElem_mem _
theorem Tup.not_ok (t : Tup) (k : Nat) (h : k < 6) (hp : partOk k (t.part k) = false) : t.check = 2 := by
  unfold Tup.check Tup.ok
  rcases k with _ | _ | _ | _ | _ | _ | k <;> first | omega | (simp [Tup.part, Tup.l] at hp; simp [hp])
theorem Tup.all_ok (t : Tup) (h : ∀ j, j < 6 → partOk j (t.part j) = true) : t.check = 0 := by
  unfold Tup.check Tup.ok
  have h0 := h 0 (by omega)
  have h1 := h 1 (by omega)
  have h2 := h 2 (by omega)
  have h3 := h 3 (by omega)
  have h4 := h 4 (by omega)
  have h5 := h 5 (by omega)
  simp [Tup.part, Tup.l] at h0 h1 h2 h3 h4 h5
  simp [*]
theorem ok_step (t : Tup) (k : Nat) (h : ∀ j, j < k → partOk j (t.part j) = true) (hk : partOk k (t.part k) = true) : ∀ j, j < k + 1 → partOk j (t.part j) = true := by
  intro j hj
  by_cases e : j = k
  · subst e; exact hk
  · exact h j (by omega)

theorem partOk_T1 {k : Nat} {p : ByteArray} (h : isName p.data.toList = true) : partOk k p = true := by simp [partOk, h]
theorem partOk_T2 {k : Nat} {p : ByteArray} (h1 : 5 ≤ (k : Int)) (h2 : 5 ≤ (k : Int) ∧ (!p.toList.isEmpty) = false) : partOk k p = true := by
  simp at h2; simp [partOk, h2]; omega
theorem partOk_F1 {k : Nat} {p : ByteArray} (h : ¬ isName p.data.toList = true) (h1 : (k : Int) < 5) : partOk k p = false := by
  simp at h; simp [partOk, h]; omega
theorem partOk_F2 {k : Nat} {p : ByteArray} (h : ¬ isName p.data.toList = true) (h1 : 5 ≤ (k : Int)) (h2 : (k : Int) < 5 ∨ (!p.toList.isEmpty) = true) : partOk k p = false := by
  have h3 : (!p.toList.isEmpty) = true := by rcases h2 with h2 | h2; exact absurd h2 (by omega); exact h2
  simp at h h3; simp [partOk, h, h3]

def nilB : ByteArray := ⟨#[]⟩
/-- its text -/
def Tup.base (t : Tup) : ByteArray := t.a ++ ⟨#[58]⟩ ++ t.b ++ ⟨#[35]⟩ ++ t.c ++ ⟨#[64]⟩ ++ t.d ++ ⟨#[58]⟩ ++ t.e
def Tup.print (t : Tup) : ByteArray := if t.f.toList.isEmpty then t.base else t.base ++ (⟨#[35]⟩ ++ t.f)
def Tup.zero : Tup := ⟨⟨#[]⟩, ⟨#[]⟩, ⟨#[]⟩, ⟨#[]⟩, ⟨#[]⟩, ⟨#[]⟩⟩
theorem name_le {l : List UInt8} (h : isName l = true) : l.length ≤ 32 := by
  simp [isName] at h; omega
theorem partOk_le {k : Nat} {p : ByteArray} (h : partOk k p = true) : p.size ≤ 32 := by
  unfold partOk at h
  rw [Lib.toList_data] at h
  rw [Lib.size_eq]
  simp only [Bool.or_eq_true, Bool.and_eq_true] at h
  rcases h with h | ⟨_, h⟩
  · exact name_le h
  · have : p.data.toList = [] := by simpa using h
    rw [this]; simp
theorem Tup.ok_le {t : Tup} (h : t.ok = true) : t.a.size ≤ 32 ∧ t.b.size ≤ 32 ∧ t.c.size ≤ 32 ∧ t.d.size ≤ 32 ∧ t.e.size ≤ 32 ∧ t.f.size ≤ 32 := by
  simp only [Tup.ok, Bool.and_eq_true] at h
  obtain ⟨⟨⟨⟨⟨h0, h1⟩, h2⟩, h3⟩, h4⟩, h5⟩ := h
  exact ⟨partOk_le h0, partOk_le h1, partOk_le h2, partOk_le h3, partOk_le h4, partOk_le h5⟩
theorem print_has (t : Tup) (h : (!t.f.toList.isEmpty) = true) : t.print = t.base ++ (⟨#[35]⟩ ++ t.f) := by
  unfold Tup.print; rw [if_neg (by simpa using h)]
theorem print_hasnt (t : Tup) (h : (!t.f.toList.isEmpty) = false) : t.print = t.base := by
  unfold Tup.print; rw [if_pos (by simpa using h)]
theorem ret_si {k : IntKind} {a b : ByteArray} {m n : Int} (h : a = b) (h2 : m = n) : Ending.returned (.tuple #[.string a, .int k m]) = .returned (.tuple #[.string b, .int k n]) := by rw [h, h2]

/-- are its parts short? -/
def Tup.few (t : Tup) : Bool := t.l.all fun p => decide (p.size ≤ 200)
def Tup.cells (t : Tup) : Array Value := #[.string t.a, .string t.b, .string t.c, .string t.d, .string t.e, .string t.f]
theorem few_no {t : Tup} {k : Nat} (h : k < 6) (h2 : 200 < ((t.part k).size : Int)) : t.few = false := by
  unfold Tup.few
  rw [List.all_eq_false]
  exact ⟨t.part k, t.part_mem k h, by simp; omega⟩
theorem few_yes {t : Tup} (h : ∀ j, j < 6 → (t.part j).size ≤ 200) : t.few = true := by
  have h0 := h 0 (by omega)
  have h1 := h 1 (by omega)
  have h2 := h 2 (by omega)
  have h3 := h 3 (by omega)
  have h4 := h 4 (by omega)
  have h5 := h 5 (by omega)
  simp [Tup.part, Tup.l] at h0 h1 h2 h3 h4 h5
  simp [Tup.few, Tup.l, *]
theorem Tup.few_le {t : Tup} (h : t.few = true) : ∀ p ∈ t.l, p.size ≤ 200 := by
  simpa [Tup.few] using h
end Go.Proofs.YtaikedlkkjnffaaGreatDoor
