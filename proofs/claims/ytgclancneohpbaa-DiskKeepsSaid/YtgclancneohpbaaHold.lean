/- How a slice of structs lies in memory. -/
import Derived.Test.YtgclancneohpbaaKeep
namespace Go.Proofs.Ytgclancneohpbaa
open Go.RowKit
theorem add_block (a : Addr) (n : Nat) : (a.add n).block = a.block := by
  unfold Addr.add; split <;> rfl
/-- the cells of each element of l lie one behind the other from p on -/
def holdsL {α : Type} (w : World) (p : Option Addr) (sz : Nat) (C : α → List Value) (l : List α) : Prop := ∀ k x, l[k]? = some x → ∃ a : Addr, p = some a ∧ a.block < w.heap.size ∧ ∀ j u, (C x)[j]? = some u → w.cell? ((a.add (k * sz)).add j) = some u
theorem holdsL.at_ {α : Type} {w w' : World} {B sz : Nat} {C : α → List Value} {p : Option Addr} {l : List α} (h : holdsL w p sz C l) (hB : w.heap.size ≤ B) (hb : Below B w w') {k : Nat} {x : α} (hx : l[k]? = some x) :
    ∃ a b : Addr, p = some a ∧ a.add (k * sz) = b ∧ b.block < w.heap.size ∧ ∀ j u, (C x)[j]? = some u → w'.cell? (b.add j) = some u := by
  obtain ⟨a, rfl, hl, h0⟩ := h k x hx
  exact ⟨a, _, rfl, rfl, by rw [add_block]; exact hl, fun j u hj => (hb.cell (by rw [add_block, add_block]; omega)).trans (h0 j u hj)⟩
theorem holdsL.below {α : Type} {w w' : World} {B sz : Nat} {C : α → List Value} {p : Option Addr} {l : List α} (h : holdsL w p sz C l) (hB : w.heap.size ≤ B) (hb : Below B w w') : holdsL w' p sz C l := by
  intro k x hx
  obtain ⟨a, hp, hl, h0⟩ := h k x hx
  exact ⟨a, hp, Nat.lt_of_lt_of_le hl hb.size, fun j u hj => (hb.cell (by rw [add_block, add_block]; omega)).trans (h0 j u hj)⟩
theorem take_all {α : Type} {l : List α} {P : α → Bool} {k : Nat} {x : α} (h : ∀ j y, j < k → l[j]? = some y → P y = true) (hx : l[k]? = some x) (hp : P x = true) : ∀ j y, j < k + 1 → l[j]? = some y → P y = true := by
  intro j y hj hy
  by_cases e : j = k
  · subst e
    rw [hx] at hy
    obtain rfl := Option.some.inj hy
    exact hp
  · exact h j y (by omega) hy
theorem all_of {α : Type} {l : List α} {P : α → Bool} (h : ∀ j y, j < l.length → l[j]? = some y → P y = true) : l.all P = true := by
  rw [List.all_eq_true]
  intro x hx
  obtain ⟨j, hj⟩ := List.getElem?_of_mem hx
  exact h j x (List.getElem?_eq_some_iff.1 hj).1 hj
theorem all_not {α : Type} {l : List α} {P : α → Bool} {k : Nat} {x : α} (hx : l[k]? = some x) (hp : P x = false) : l.all P = false := by
  rw [Bool.eq_false_iff]
  intro ha
  rw [List.all_eq_true] at ha
  have := ha x (List.mem_of_getElem? hx)
  rw [hp] at this
  cases this
end Go.Proofs.Ytgclancneohpbaa
