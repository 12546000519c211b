/- How tuples lie in memory, wherever; the document's SameTuples of the same tuples. -/
import Derived.Test.YtaikedlkkjnffaaGreatDoorUR1
import Derived.Deep.QuietTactic
import Derived.BigQuiet
namespace Go.Proofs.YtaikedlkkjnffaaGreatDoor
open Go.RowKit
/-- the cells of each tuple lie one behind the other -/
def holdsT (w : World) (p : Option Addr) (l : List Tup) : Prop := ∀ k x, l[k]? = some x → ∃ a b : Addr, p = some a ∧ a.add (k * 6) = b ∧ b.block < w.heap.size ∧ w.cell? b = some (.string x.a) ∧ w.cell? ⟨b.block, b.off + 1, none⟩ = some (.string x.b) ∧ w.cell? ⟨b.block, b.off + 2, none⟩ = some (.string x.c) ∧ w.cell? ⟨b.block, b.off + 3, none⟩ = some (.string x.d) ∧ w.cell? ⟨b.block, b.off + 4, none⟩ = some (.string x.e) ∧ w.cell? ⟨b.block, b.off + 5, none⟩ = some (.string x.f)
theorem holdsT.below {w w' : World} {p : Option Addr} {l : List Tup} (h : holdsT w p l) (hb : Below w.heap.size w w') : holdsT w' p l := by
  intro k x hx
  obtain ⟨a, b, hp, ha, hl, h0, h1, h2, h3, h4, h5⟩ := h k x hx
  have hc : ∀ (s : Addr), s.block = b.block → w'.cell? s = w.cell? s := fun s e => hb.cell (by rw [e]; exact hl)
  exact ⟨a, b, hp, ha, Nat.lt_of_lt_of_le hl hb.size, (hc _ rfl).trans h0, (hc ⟨b.block, b.off + 1, none⟩ rfl).trans h1, (hc ⟨b.block, b.off + 2, none⟩ rfl).trans h2, (hc ⟨b.block, b.off + 3, none⟩ rfl).trans h3, (hc ⟨b.block, b.off + 4, none⟩ rfl).trans h4, (hc ⟨b.block, b.off + 5, none⟩ rfl).trans h5⟩
theorem TOwn.holds {B : Nat} {w : World} {p : Option Addr} {n c : Nat} {l : List Tup} (h : TOwn B w (.slice p n c) l) : holdsT w p l := by
  intro k x hx
  have hlt := (List.getElem?_eq_some_iff.1 hx).1
  obtain ⟨g, c', hv, _, _, hg, hcell⟩ := h.cells (by omega)
  obtain rfl : p = some ⟨g, 0, none⟩ := by injection hv
  refine ⟨_, _, rfl, addr_at g (k * 6), hg, ?_, ?_, ?_, ?_, ?_, ?_⟩
  · exact hcell k 0 x hx (by omega)
  · exact hcell k 1 x hx (by omega)
  · exact hcell k 2 x hx (by omega)
  · exact hcell k 3 x hx (by omega)
  · exact hcell k 4 x hx (by omega)
  · exact hcell k 5 x hx (by omega)
set_option maxHeartbeats 2000000 in
theorem neq_self (a b c d e f : ByteArray) (w : World) :
    (binOp .neq 60 (.agg #[.string a, .string b, .string c, .string d, .string e, .string f]) (.agg #[.string a, .string b, .string c, .string d, .string e, .string f])).run Tryz.prog w = .ok (.bool false) w := by
  simp [go_sem]
end Go.Proofs.YtaikedlkkjnffaaGreatDoor
