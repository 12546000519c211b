/- How bytes, and a slice of acts of layer 1, come in as an argument. -/
import Derived.Test.YtgclancneohpbaaDAct
import Derived.Test.YtgclancneohpbaaQOpen
import Derived.Deep.Slices
namespace Go.Proofs.Ytgclancneohpbaa
open Go.ChangeShapes Go.WideShapes Go.ChangeAt Go.RowKit Go.Deep
theorem cellsLAct : Try.prog.cellsOf 64 = 5 := by kernel_rfl
theorem cellsStr : Try.prog.cellsOf 9 = 1 := by kernel_rfl
theorem cellsU8 : Try.prog.cellsOf 5 = 1 := by kernel_rfl
theorem cellsInt : Try.prog.cellsOf 3 = 1 := by kernel_rfl
theorem cellsBytes : Try.prog.cellsOf 51 = 1 := by kernel_rfl
theorem u8_nat {n : Int} (h : (Lit.int .u8 n).wf = true) : ∃ m : Nat, n = (m : Int) ∧ m < 256 := by
  simp only [Lit.wf, Bool.and_eq_true, decide_eq_true_eq] at h
  obtain ⟨h1, h2⟩ := h
  have e1 : IntKind.u8.min = 0 := by decide
  have e2 : IntKind.u8.max = 255 := by decide
  rw [e1] at h1
  rw [e2] at h2
  exact ⟨n.toNat, by omega, by omega⟩
theorem i64_int {n : Int} (h : (Lit.int .i64 n).wf = true) : -9223372036854775808 ≤ n ∧ n < 9223372036854775808 := by
  simp only [Lit.wf, Bool.and_eq_true, decide_eq_true_eq] at h
  obtain ⟨h1, h2⟩ := h
  have e1 : IntKind.i64.min = -9223372036854775808 := by decide
  have e2 : IntKind.i64.max = 9223372036854775807 := by decide
  rw [e1] at h1
  rw [e2] at h2
  exact ⟨by omega, by omega⟩
section
variable {H : Type} {enc : TypeId × Value → H} {w : World} {base : Nat} {spare : Nat → Bool} {held : Bool}
theorem open_bytes01 {fuel : Nat} {c3 : Value} {x : DataW H × List MemPlace} (h : DataW.trod enc Try.prog w base spare held fuel 51 [c3] = some x) :
    ∃ l : List UInt8, Bytes w c3 l ∧ l.length ≤ maxLen ∧ ∀ j, c3.ownBlock = some j → l ≠ [] → j < w.heap.size := by
  rcases open_ints Try.underlying51 Try.underlying5 cellsU8 h with ⟨hcs, _⟩ | ⟨a, len, cap, zs, hcs, _, hl, hm, hz, _, hcell, hwz⟩
  · simp at hcs
    subst hcs
    exact ⟨[], .inl (.inl ⟨rfl, rfl⟩), Nat.zero_le _, fun j hj => (by cases hj)⟩
  · simp at hcs
    subst hcs
    have hlz : len ≤ zs.length := by rw [hz]; split <;> omega
    by_cases h0 : len = 0
    · subst h0
      exact ⟨[], .inr ⟨a, cap, rfl, rfl⟩, Nat.zero_le _, fun j _ hp => absurd rfl hp⟩
    · obtain ⟨ab, ao, spot⟩ := a
      have hspot : spot = none := by simpa [Addr.add] using World.cell?_spot (hcell 0 (by omega))
      subst hspot
      have hlt : ab < w.heap.size := by
        have := World.block_lt_of_cell? w _ (hcell 0 (by omega))
        rwa [Addr.add_lit] at this
      refine ⟨(zs.take len).map fun n => UInt8.ofNat n.toNat, .inl (.inr ⟨ab, ao, cap, ?_, ?_, fun i y hy => ?_⟩), ?_, fun j hj _ => ?_⟩
      · rw [List.length_map, List.length_take, Nat.min_eq_left hlz]
      · rw [List.length_map, List.length_take]; omega
      · rw [List.getElem?_map, List.getElem?_take] at hy
        split at hy
        · rename_i hi
          have hzi : zs[i]? = some zs[i] := List.getElem?_eq_getElem (by omega)
          rw [hzi] at hy
          obtain rfl := Option.some.inj hy
          have hc := hcell i (by omega)
          rw [Addr.add_lit, List.getD_eq_getElem?_getD, hzi] at hc
          obtain ⟨m, hm1, hm2⟩ := u8_nat (hwz zs[i] (List.getElem_mem _))
          rw [hc]
          simp only [Option.getD_some]
          rw [hm1]
          simp only [Int.toNat_natCast, UInt8.toNat_ofNat']
          rw [Nat.mod_eq_of_lt hm2]
        · cases hy
      · rw [List.length_map, List.length_take]; omega
      · obtain rfl := Option.some.inj hj; exact hlt
set_option maxRecDepth 100000 in
theorem trod_lact {fuel : Nat} {c0 c1 c2 c3 c4 : Value} {x : DataW H × List MemPlace} (h : DataW.trod enc Try.prog w base spare held fuel 64 [c0, c1, c2, c3, c4] = some x) :
    ∃ y : LAct, [c0, c1, c2, c3, c4] = y.cells ∧ y.fits w := by
  obtain ⟨xs, n, _, hx, _, hlen, hg⟩ := DataW.trod_struct Try.underlying64 h
  match xs, hlen with
  | [y0, y1, y2, y3, y4], _ =>
    obtain ⟨i0, e0, r0, k0⟩ := DataW.trod_int Try.underlying5 (by simpa [cellsU8] using hg 0 _ rfl : DataW.trod enc Try.prog w base spare held n 5 [c0] = some y0)
    obtain ⟨s1, e1, r1, k1⟩ := DataW.trod_string Try.underlying9 (by simpa [cellsStr, cellsU8] using hg 1 _ rfl : DataW.trod enc Try.prog w base spare held n 9 [c1] = some y1)
    obtain ⟨s2, e2, r2, k2⟩ := DataW.trod_string Try.underlying9 (by simpa [cellsStr, cellsU8] using hg 2 _ rfl : DataW.trod enc Try.prog w base spare held n 9 [c2] = some y2)
    obtain ⟨l, hb, hl, hlt⟩ := open_bytes01 (by simpa [cellsStr, cellsU8, cellsBytes] using hg 3 _ rfl : DataW.trod enc Try.prog w base spare held n 51 [c3] = some y3)
    obtain ⟨i4, e4, r4, k4⟩ := DataW.trod_int Try.underlying3 (by simpa [cellsStr, cellsU8, cellsBytes, cellsInt] using hg 4 _ rfl : DataW.trod enc Try.prog w base spare held n 3 [c4] = some y4)
    obtain ⟨m0, rfl, l0⟩ := u8_nat k0
    simp only [List.cons.injEq, and_true] at e0 e1 e2 e4
    subst e0 e1 e2 e4
    exact ⟨⟨m0, s1, s2, c3, l, i4⟩, rfl, l0, k1, k2, hb, hlt, hl, i64_int k4⟩
theorem list5 {l : List Value} (h : l.length = 5) : ∃ a b c d e, l = [a, b, c, d, e] := by
  match l, h with
  | [a, b, c, d, e], _ => exact ⟨a, b, c, d, e, rfl⟩
set_option maxRecDepth 100000 in
theorem open_lacts {fuel : Nat} {p : Option Addr} {len cap : Nat} {x : DataW H × List MemPlace} (h : DataW.trod enc Try.prog w base spare held fuel 59 [.slice p len cap] = some x) :
    ∃ l : List LAct, l.length = len ∧ len ≤ maxLen ∧ holdsL w p 5 LAct.cells l ∧ ∀ y ∈ l, y.fits w := by
  rcases open_slice Try.underlying59 h with ⟨hcs, _⟩ | ⟨a, len', cap', m, n, D, Pl, hcs, _, hle, hcm, hm, _, hi⟩
  · simp at hcs
    obtain ⟨_, rfl, _⟩ := hcs
    exact ⟨[], rfl, Nat.zero_le _, fun k y hy => by simp at hy, fun y hy => by simp at hy⟩
  · simp at hcs
    obtain ⟨rfl, rfl, rfl⟩ := hcs
    have hlm : len ≤ m := by rw [hm]; split <;> omega
    have hall : ∀ i, ∃ y : LAct, i < len → (a.block < w.heap.size ∧ ∀ j u, y.cells[j]? = some u → w.cell? ((a.add (i * 5)).add j) = some u) ∧ y.fits w := by
      intro i
      by_cases hil : i < len
      · obtain ⟨cs', hc, ht⟩ := hi i (by omega)
        rw [cellsLAct] at hc
        obtain ⟨_, hcl, hat⟩ := World.cells?_some hc
        obtain ⟨c0, c1, c2, c3, c4, rfl⟩ := list5 hcl
        obtain ⟨y, hy, hf⟩ := trod_lact ht
        have g : ∀ j u, y.cells[j]? = some u → w.cell? ((a.add (i * 5)).add j) = some u := by
          intro j u hj
          have hj4 : j < 5 := (List.getElem?_eq_some_iff.1 hj).1
          rw [hat j hj4, hy, hj]
        have hb := World.block_lt_of_cell? w _ (g 0 _ rfl)
        rw [add_block, add_block] at hb
        exact ⟨y, fun _ => ⟨⟨hb, g⟩, hf⟩⟩
      · exact ⟨⟨0, ⟨#[]⟩, ⟨#[]⟩, .slice none 0 0, [], 0⟩, fun h => absurd h hil⟩
    obtain ⟨f, hf⟩ := Classical.axiomOfChoice hall
    refine ⟨(List.range len).map f, by simp, by omega, ?_, ?_⟩
    · intro k y hy
      have hkl : k < len := by
        have := (List.getElem?_eq_some_iff.1 hy).1
        simpa using this
      have e : f k = y := by
        rw [List.getElem?_map, List.getElem?_range hkl] at hy
        simpa using hy
      obtain ⟨h1, h2⟩ := hf k hkl
      rw [e] at h1
      exact ⟨a, rfl, h1⟩
    · intro y hy
      simp at hy
      obtain ⟨k, hk, rfl⟩ := hy
      exact (hf k hk).2
end
end Go.Proofs.Ytgclancneohpbaa
