/- Conditions as trees that are only read: their rows may lie anywhere. -/
import Derived.Test.YtfhdecdlkmibmaaDoorCAv
namespace Go.Proofs.YtfhdecdlkmibmaaDoor
open Go.RowKit
/-- a row that is only read -/
def RowV (w : World) (v : Value) (n : Nat) (cs : List Value) : Prop := n ≤ maxLen ∧ ((∃ p c, v = .slice p 0 c ∧ n = 0) ∨ ∃ (g o c : Nat), v = .slice (some ⟨g, o, none⟩) n c ∧ n ≤ c ∧ ∀ (i : Nat) (u : Value), cs[i]? = some u → g < w.heap.size ∧ w.cell? ⟨g, o + i, none⟩ = some u)
theorem RowV.below {w w' : World} {v : Value} {n : Nat} {cs : List Value} (h : RowV w v n cs) (hb : Below w.heap.size w w') : RowV w' v n cs := by
  refine ⟨h.1, h.2.imp id ?_⟩
  rintro ⟨g, o, c, rfl, hc, hcell⟩
  refine ⟨g, o, c, rfl, hc, fun i u hu => ?_⟩
  obtain ⟨h1, h2⟩ := hcell i u hu
  exact ⟨Nat.lt_of_lt_of_le h1 hb.size, by rw [hb.cell (p := ⟨g, o + i, none⟩) h1]; exact h2⟩
theorem RowV.form {w : World} {v : Value} {n : Nat} {cs : List Value} (h : RowV w v n cs) : ∃ p c, v = .slice p n c := by
  rcases h.2 with ⟨p, c, rfl, rfl⟩ | ⟨g, o, c, rfl, _⟩
  · exact ⟨_, _, rfl⟩
  · exact ⟨_, _, rfl⟩
theorem RowV.cell {w : World} {p : Option Addr} {n c : Nat} {cs : List Value} (h : RowV w (.slice p n c) n cs) (hn : 0 < n) : ∃ g o, p = some ⟨g, o, none⟩ ∧ n ≤ c ∧ ∀ (i : Nat) (u : Value), cs[i]? = some u → g < w.heap.size ∧ w.cell? ⟨g, o + i, none⟩ = some u := by
  rcases h.2 with ⟨p, c, _, rfl⟩ | ⟨g, o, c', e, hc, hcell⟩
  · omega
  · injection e with e1 _ e3
    subst e1 e3
    exact ⟨g, o, rfl, hc, hcell⟩
theorem RowV.of_row {w : World} {T : TypeId} {v : Value} {n : Nat} {cs : List Value} (h : RowAt w T v n cs) (hn : n ≤ maxLen) : RowV w v n cs := by
  refine ⟨hn, ?_⟩
  rcases h with ⟨rfl, rfl⟩ | ⟨g, c, cur, rfl, hc, hl, hcell⟩
  · exact .inl ⟨_, _, rfl, rfl⟩
  · exact .inr ⟨g, 0, c, rfl, hc, fun i u hu => ⟨hl.lt, by rw [hl.cell, Nat.zero_add]; exact hcell i u hu⟩⟩
/-- a condition's cells, only read -/
inductive CV (w : World) : List Value → CT → Prop
  | mk {k n : Int} {s : List UInt8} {v : Value} {ps : List CT} {cs : List Value} (hrow : RowV w v ps.length cs) (hlen : cs.length = ps.length * 4) (hparts : ∀ (i : Nat) (p : CT), ps[i]? = some p → CV w ((cs.drop (i * 4)).take 4) p) : CV w [.int .i64 k, .int .i64 n, strV s, v] (.node k n s ps)
theorem CV.later {w w' : World} {cs : List Value} {r : CT} (h : CV w cs r) (hb : Below w.heap.size w w') : CV w' cs r := by
  induction h with
  | mk hrow hlen _ ih => exact .mk (hrow.below hb) hlen ih
theorem CV.of {P : Nat → Prop} {w : World} {cs : List Value} {r : CT} (h : CAt P w cs r) (hs : r.size ≤ 1000000000) : CV w cs r := by
  induction h with
  | @mk k n s v ps cs hrow hp hlen hparts ih =>
    rw [size_eq] at hs
    have hl : ∀ ps : List CT, ps.length ≤ sizeLc ps := by
      intro ps
      induction ps with
      | nil => exact Nat.zero_le _
      | cons p ps ih =>
        rw [sizeL_cons, List.length_cons]
        have : 1 ≤ p.size := by cases p; rw [size_eq]; omega
        omega
    have hm : ∀ (ps : List CT) (p : CT), p ∈ ps → p.size ≤ sizeLc ps := by
      intro ps
      induction ps with
      | nil => intro p hp; cases hp
      | cons q ps ih =>
        intro p hp
        rw [sizeL_cons]
        rcases List.mem_cons.1 hp with rfl | hp
        · omega
        · have := ih p hp; omega
    have h1 := hl ps
    exact .mk (.of_row hrow (by unfold maxLen; omega)) hlen fun i p hi => ih i p hi (by have := hm ps p (List.mem_of_getElem? hi); omega)
theorem CV.form {w : World} {cs : List Value} {r : CT} (h : CV w cs r) : ∃ (k n : Int) (a : ByteArray) (p : Option Addr) (c : Nat) (ds : List Value), cs = [.int .i64 k, .int .i64 n, .string a, .slice p r.parts.length c] ∧ r = .node k n a.data.toList r.parts ∧ RowV w (.slice p r.parts.length c) r.parts.length ds ∧ ds.length = r.parts.length * 4 ∧ ∀ (i : Nat) (q : CT), r.parts[i]? = some q → CV w ((ds.drop (i * 4)).take 4) q := by
  cases h with
  | mk hrow hlen hparts =>
    obtain ⟨p, c, rfl⟩ := hrow.form
    exact ⟨_, _, _, p, c, _, rfl, rfl, hrow, hlen, hparts⟩
/-- the four cells of one part -/
theorem CV.part {w : World} {g o i : Nat} {ds : List Value} {ps : List CT} {q : CT} (hcell : ∀ (i : Nat) (u : Value), ds[i]? = some u → g < w.heap.size ∧ w.cell? ⟨g, o + i, none⟩ = some u) (hq : ps[i]? = some q) (h : CV w ((ds.drop (i * 4)).take 4) q) :
    ∃ (k n : Int) (a : ByteArray) (p : Option Addr) (c : Nat), CV w [.int .i64 k, .int .i64 n, .string a, .slice p q.parts.length c] q ∧ q = .node k n a.data.toList q.parts ∧ g < w.heap.size ∧ w.cell? ⟨g, o + i * 4, none⟩ = some (.int .i64 k) ∧ w.cell? ⟨g, o + i * 4 + 1, none⟩ = some (.int .i64 n) ∧ w.cell? ⟨g, o + i * 4 + 2, none⟩ = some (.string a) ∧ w.cell? ⟨g, o + i * 4 + 3, none⟩ = some (.slice p q.parts.length c) := by
  obtain ⟨k, n, a, p, c, _, e, hr, _⟩ := h.form
  have hi := (List.getElem?_eq_some_iff.1 hq).1
  have hu : ∀ j u, j < 4 → [Value.int .i64 k, .int .i64 n, .string a, .slice p q.parts.length c][j]? = some u → g < w.heap.size ∧ w.cell? ⟨g, o + (i * 4 + j), none⟩ = some u := fun j u hj hu => by
    rw [← e, List.getElem?_take, if_pos hj, List.getElem?_drop] at hu
    exact hcell _ u hu
  rw [e] at h
  refine ⟨k, n, a, p, c, h, hr, (hu 0 _ (by decide) rfl).1, (hu 0 _ (by decide) rfl).2, ?_, ?_, ?_⟩
  · have := (hu 1 _ (by decide) rfl).2; rw [← Nat.add_assoc] at this; exact this
  · have := (hu 2 _ (by decide) rfl).2; rw [← Nat.add_assoc] at this; exact this
  · have := (hu 3 _ (by decide) rfl).2; rw [← Nat.add_assoc] at this; exact this
theorem partc_lt {r q : CT} (h : q ∈ r.parts) : SizeOf.sizeOf q < SizeOf.sizeOf r := by
  cases r with
  | node k n s ps =>
    have := List.sizeOf_lt_of_mem (show q ∈ ps from h)
    simp only [CT.node.sizeOf_spec]
    omega
theorem sizeL_take {ps : List CT} {j : Nat} {q : CT} (h : ps[j]? = some q) : sizeLc (ps.take (j + 1)) = sizeLc (ps.take j) + q.size := by
  rw [List.take_add_one, h, sizeL_app]
  show _ + sizeLc [q] = _
  rw [sizeL_cons, sizeL_nil, Nat.add_zero]
theorem sizeL_le {ps : List CT} (j : Nat) : sizeLc (ps.take j) ≤ sizeLc ps := by
  have h := sizeL_app (ps.take j) (ps.drop j)
  rw [List.take_append_drop] at h
  omega
theorem size_node (r : CT) : r.size = 1 + sizeLc r.parts := by cases r; rw [size_eq]; rfl
end Go.Proofs.YtfhdecdlkmibmaaDoor
