/- How a slice of acts of layer 38 comes in as an argument. -/
import Derived.Test.YtgclancneohpbaaQAct
import Derived.Test.YtgclancneohpbaaQOpen
import Derived.Deep.Slices
namespace Go.Proofs.Ytgclancneohpbaa
open Go.ChangeShapes Go.WideShapes Go.ChangeAt Go.RowKit Go.Deep
theorem cellsQAct : Try.prog.cellsOf 31 = 4 := by kernel_rfl
theorem cellsBool : Try.prog.cellsOf 4 = 1 := by kernel_rfl
theorem cellsStr : Try.prog.cellsOf 9 = 1 := by kernel_rfl
theorem cellsU64 : Try.prog.cellsOf 22 = 1 := by kernel_rfl
theorem u64_nat {n : Int} (h : (Lit.int .u64 n).wf = true) : ∃ m : Nat, n = (m : Int) ∧ m < 18446744073709551616 := by
  simp only [Lit.wf, Bool.and_eq_true, decide_eq_true_eq] at h
  obtain ⟨h1, h2⟩ := h
  have e1 : IntKind.u64.min = 0 := by decide
  have e2 : IntKind.u64.max = 18446744073709551615 := by decide
  rw [e1] at h1
  rw [e2] at h2
  exact ⟨n.toNat, by omega, by omega⟩
section
variable {H : Type} {enc : TypeId × Value → H} {w : World} {base : Nat} {spare : Nat → Bool} {held : Bool}
set_option maxRecDepth 100000 in
theorem trod_qact {fuel : Nat} {c0 c1 c2 c3 : Value} {x : DataW H × List MemPlace} (h : DataW.trod enc Try.prog w base spare held fuel 31 [c0, c1, c2, c3] = some x) :
    ∃ y : QAct, [c0, c1, c2, c3] = y.cells ∧ y.fits := by
  obtain ⟨xs, n, _, hx, _, hlen, hg⟩ := DataW.trod_struct Try.underlying31 h
  match xs, hlen with
  | [y0, y1, y2, y3], _ =>
    obtain ⟨b, e0, r0⟩ := DataW.trod_bool Try.underlying4 (by simpa [cellsBool] using hg 0 _ rfl : DataW.trod enc Try.prog w base spare held n 4 [c0] = some y0)
    obtain ⟨s, e1, r1, k1⟩ := DataW.trod_string Try.underlying9 (by simpa [cellsStr] using hg 1 _ rfl : DataW.trod enc Try.prog w base spare held n 9 [c1] = some y1)
    obtain ⟨i2, e2, r2, k2⟩ := DataW.trod_int Try.underlying22 (by simpa [cellsU64] using hg 2 _ rfl : DataW.trod enc Try.prog w base spare held n 22 [c2] = some y2)
    obtain ⟨i3, e3, r3, k3⟩ := DataW.trod_int Try.underlying22 (by simpa [cellsU64] using hg 3 _ rfl : DataW.trod enc Try.prog w base spare held n 22 [c3] = some y3)
    obtain ⟨m2, rfl, l2⟩ := u64_nat k2
    obtain ⟨m3, rfl, l3⟩ := u64_nat k3
    simp only [List.cons.injEq, and_true] at e0 e1 e2 e3
    subst e0 e1 e2 e3
    exact ⟨⟨b, s, m2, m3⟩, rfl, k1, l2, l3⟩
theorem list4 {l : List Value} (h : l.length = 4) : ∃ a b c d, l = [a, b, c, d] := by
  match l, h with
  | [a, b, c, d], _ => exact ⟨a, b, c, d, rfl⟩
set_option maxRecDepth 100000 in
theorem open_qacts {fuel : Nat} {p : Option Addr} {len cap : Nat} {x : DataW H × List MemPlace} (h : DataW.trod enc Try.prog w base spare held fuel 23 [.slice p len cap] = some x) :
    ∃ l : List QAct, l.length = len ∧ len ≤ maxLen ∧ holdsL w p 4 QAct.cells l ∧ ∀ y ∈ l, y.fits := by
  rcases open_slice Try.underlying23 h with ⟨hcs, _⟩ | ⟨a, len', cap', m, n, D, Pl, hcs, _, hle, hcm, hm, _, hi⟩
  · simp at hcs
    obtain ⟨_, rfl, _⟩ := hcs
    exact ⟨[], rfl, Nat.zero_le _, fun k y hy => by simp at hy, fun y hy => by simp at hy⟩
  · simp at hcs
    obtain ⟨rfl, rfl, rfl⟩ := hcs
    have hlm : len ≤ m := by rw [hm]; split <;> omega
    have hall : ∀ i, ∃ y : QAct, i < len → (a.block < w.heap.size ∧ ∀ j u, y.cells[j]? = some u → w.cell? ((a.add (i * 4)).add j) = some u) ∧ y.fits := by
      intro i
      by_cases hil : i < len
      · obtain ⟨cs', hc, ht⟩ := hi i (by omega)
        rw [cellsQAct] at hc
        obtain ⟨_, hcl, hat⟩ := World.cells?_some hc
        obtain ⟨c0, c1, c2, c3, rfl⟩ := list4 hcl
        obtain ⟨y, hy, hf⟩ := trod_qact ht
        have g : ∀ j u, y.cells[j]? = some u → w.cell? ((a.add (i * 4)).add j) = some u := by
          intro j u hj
          have hj4 : j < 4 := (List.getElem?_eq_some_iff.1 hj).1
          rw [hat j hj4, hy, hj]
        have hb := World.block_lt_of_cell? w _ (g 0 _ rfl)
        rw [add_block, add_block] at hb
        exact ⟨y, fun _ => ⟨⟨hb, g⟩, hf⟩⟩
      · exact ⟨⟨false, ⟨#[]⟩, 0, 0⟩, fun h => absurd h hil⟩
    obtain ⟨f, hf⟩ := Classical.axiomOfChoice hall
    refine ⟨(List.range len).map f, by simp, by omega, ?_, ?_⟩
    · intro k y hy
      have hkl : k < len := by
        have := (List.getElem?_eq_some_iff.1 hy).1
        simpa using this
      have e : f k = y := by
        rw [List.getElem?_map, List.getElem?_range hkl] at hy
        simpa using hy
      obtain ⟨h1, h2⟩ := hf k hkl
      rw [e] at h1
      exact ⟨a, rfl, h1⟩
    · intro y hy
      simp at hy
      obtain ⟨k, hk, rfl⟩ := hy
      exact (hf k hk).2
end
end Go.Proofs.Ytgclancneohpbaa
