/- Plain words on writes and entries; how a slice of writes lies in memory. -/
import Derived.Test.YtnbalmnpcdnidaaDoorW17
namespace Go.Proofs.YtnbalmnpcdnidaaDoor
open Go.RowKit
structure Wr where
  (del : Bool) (t : Tup)
def Wr.cells (x : Wr) : Array Value := #[.bool x.del, .string x.t.a, .string x.t.b, .string x.t.c, .string x.t.d, .string x.t.e, .string x.t.f]
def holdsW (w : World) (p : Option Addr) (l : List Wr) : Prop := ∀ k x, l[k]? = some x → ∃ a : Addr, p = some a ∧ a.block < w.heap.size ∧ w.cell? (a.add (k * 7)) = some (.bool x.del) ∧ w.cell? (a.add (k * 7 + 1)) = some (.string x.t.a) ∧ w.cell? (a.add (k * 7 + 2)) = some (.string x.t.b) ∧ w.cell? (a.add (k * 7 + 3)) = some (.string x.t.c) ∧ w.cell? (a.add (k * 7 + 4)) = some (.string x.t.d) ∧ w.cell? (a.add (k * 7 + 5)) = some (.string x.t.e) ∧ w.cell? (a.add (k * 7 + 6)) = some (.string x.t.f)
theorem add_block (a : Addr) (n : Nat) : (a.add n).block = a.block := by
  unfold Addr.add; split <;> rfl
theorem holdsW.below {w w' : World} {B : Nat} {p : Option Addr} {l : List Wr} (h : holdsW w p l) (hB : w.heap.size ≤ B) (hb : Below B w w') : holdsW w' p l := by
  intro k x hx
  obtain ⟨a, hp, hl, h0, h1, h2, h3, h4, h5, h6⟩ := h k x hx
  have hc : ∀ n, w'.cell? (a.add n) = w.cell? (a.add n) := fun n => hb.cell (by rw [add_block]; omega)
  exact ⟨a, hp, Nat.lt_of_lt_of_le hl hb.size, (hc _).trans h0, (hc _).trans h1, (hc _).trans h2, (hc _).trans h3, (hc _).trans h4, (hc _).trans h5, (hc _).trans h6⟩
theorem add_split (a : Addr) (n j : Nat) (hj : 0 < j) : a.add (n + j) = ⟨(a.add n).block, (a.add n).off + j, none⟩ := by
  have h1 : ¬(n + j = 0) := by omega
  unfold Addr.add
  rw [if_neg h1]
  by_cases h : n = 0
  · subst h; simp
  · simp [h, Nat.add_assoc]
theorem holdsW.at_ {w w' : World} {B : Nat} {p : Option Addr} {l : List Wr} (h : holdsW w p l) (hB : w.heap.size ≤ B) (hb : Below B w w') {k : Nat} {x : Wr} (hx : l[k]? = some x) :
    ∃ a b : Addr, p = some a ∧ a.add (k * 7) = b ∧ b.block < w.heap.size ∧ w'.cell? b = some (.bool x.del) ∧ w'.cell? ⟨b.block, b.off + 1, none⟩ = some (.string x.t.a) ∧ w'.cell? ⟨b.block, b.off + 2, none⟩ = some (.string x.t.b) ∧ w'.cell? ⟨b.block, b.off + 3, none⟩ = some (.string x.t.c) ∧ w'.cell? ⟨b.block, b.off + 4, none⟩ = some (.string x.t.d) ∧ w'.cell? ⟨b.block, b.off + 5, none⟩ = some (.string x.t.e) ∧ w'.cell? ⟨b.block, b.off + 6, none⟩ = some (.string x.t.f) := by
  obtain ⟨a, rfl, hl, h0, h1, h2, h3, h4, h5, h6⟩ := h k x hx
  have hc : ∀ n, w'.cell? (a.add n) = w.cell? (a.add n) := fun n => hb.cell (by rw [add_block]; omega)
  refine ⟨a, _, rfl, rfl, by rw [add_block]; exact hl, (hc _).trans h0, ?_, ?_, ?_, ?_, ?_, ?_⟩
  · rw [← add_split a _ 1 (by omega)]; exact (hc _).trans h1
  · rw [← add_split a _ 2 (by omega)]; exact (hc _).trans h2
  · rw [← add_split a _ 3 (by omega)]; exact (hc _).trans h3
  · rw [← add_split a _ 4 (by omega)]; exact (hc _).trans h4
  · rw [← add_split a _ 5 (by omega)]; exact (hc _).trans h5
  · rw [← add_split a _ 6 (by omega)]; exact (hc _).trans h6
def fEnt (x : Wr) : List Value := [.string (fKey x.t), .int .u64 0, .bool x.del]
def rEnt (x : Wr) : List Value := [.string (rKey x.t), .int .u64 0, .bool x.del]
def entCells (l : List Wr) : List Value := l.flatMap fun x => fEnt x ++ rEnt x
theorem entCells_succ {l : List Wr} {k : Nat} {x : Wr} (h : l[k]? = some x) : entCells (l.take k) ++ fEnt x ++ rEnt x = entCells (l.take (k + 1)) := by
  rw [List.take_add_one, h]
  simp [entCells]
theorem all_no {l : List Wr} {k : Nat} {x : Wr} (h : l[k]? = some x) (hx : x.t.ok = false) : (l.all fun x => x.t.ok) = false := by
  rw [Bool.eq_false_iff]
  intro ha
  rw [List.all_eq_true] at ha
  have := ha x (List.mem_of_getElem? h)
  rw [hx] at this
  cases this
theorem all_yes {l : List Wr} (h : ∀ j x, j < l.length → l[j]? = some x → x.t.ok = true) : (l.all fun x => x.t.ok) = true := by
  rw [List.all_eq_true]
  intro x hx
  obtain ⟨j, hj⟩ := List.getElem?_of_mem hx
  exact h j x (List.getElem?_eq_some_iff.1 hj).1 hj
theorem next_ok {l : List Wr} {k : Nat} {x : Wr} (h : ∀ j y, j < k → l[j]? = some y → y.t.ok = true) (hx : l[k]? = some x) (hok : x.t.ok = true) : ∀ j y, j < k + 1 → l[j]? = some y → y.t.ok = true := by
  intro j y hj hy
  by_cases e : j = k
  · subst e
    rw [hx] at hy
    obtain rfl := Option.some.inj hy
    exact hok
  · exact h j y (by omega) hy
def EntPost (l : List Wr) (w : World) (e : Ending) (w' : World) : Prop :=
  Below w.heap.size w w' ∧ (((l.all fun x => x.t.ok) = true ∧ ∃ v, e = .returned (.tuple #[v, .int .i64 0]) ∧ w'.ownsRow w.heap.size 58 3 v (2 * l.length) (entCells l)) ∨ ((l.all fun x => x.t.ok) = false ∧ e = .returned (.tuple #[.slice none 0 0, .int .i64 2])))
theorem info_ent : (Tryd.prog.info? 58).map (fun i => (i.zero, i.size, i.bytes)) = some (some (.agg #[.string ⟨#[]⟩, .int .u64 0, .bool false]), 3, 32) := by kernel_rfl
theorem ent_below {base : Nat} {w wr w1 : World} {v : Value} {n : Nat} {e : TypeId} {xs : List Value} {o : Obj} (hB : Below base w wr) (hz : base ≤ wr.heap.size) (hown : wr.ownsRow base e 3 v n xs) (hg : (wr.alloc o).grownBy w1 v.ownBlock) : Below base w w1 ∧ wr.heap.size < w1.heap.size :=
  ⟨(hB.alloc hz o).grown hg (by simp; omega) (fun k hk => (hown.lt k hk).1), by have := hg.size; simp at this; omega⟩
theorem news_at (w : World) (a b c : Value) (T : TypeId) : ∀ (j : Nat) (u : Value), [a, b, c][j]? = some u → (w.alloc (.cells #[a, b, c] T)).cell? ((⟨w.heap.size, 0, none⟩ : Addr).add j) = some u := by
  intro j u hj
  have h := (Blk.new w T #[a, b, c]).cell j
  have e : (⟨w.heap.size, 0, none⟩ : Addr).add j = ⟨w.heap.size, j, none⟩ := by
    unfold Addr.add
    split
    · rename_i h0; subst h0; rfl
    · simp
  rw [e, h, ← hj]
  simp
theorem news_one (K : ByteArray) (D : Bool) : ∀ u ∈ [Value.string K, .int .u64 0, .bool D], u.oneCell' = true := by
  intro u hu
  simp at hu
  rcases hu with rfl | rfl | rfl <;> rfl
theorem own_below {B : Nat} {e : TypeId} {k : Nat} {v : Value} {n : Nat} {xs : List Value} {w w' : World} (h : w.ownsRow B e k v n xs) (hb : Below w.heap.size w w') : w'.ownsRow B e k v n xs :=
  h.kept (row := none) ⟨hb.os, hb.tape, hb.output, hb.size, fun j hj _ => hb.block j hj⟩ (by cases hv : v.ownBlock <;> simp)
end Go.Proofs.YtnbalmnpcdnidaaDoor
