/- Plain words on texts (lists of bytes), on names and on tuples. No program in sight. -/
import Derived.WalkKit
import Derived.Below
import Derived.Laws.OwnMore
import Derived.Deep.Draws
import Derived.Laws.Rows
import Derived.WalkSpells
import Derived.Lib.Strings
import Derived.Lib.Hide
namespace Go.Proofs.YtaikedlkkjnffaaGreatDoor
open Go.RowKit

/-- a byte of a name -/
def nameByte (c : UInt8) : Bool := (97 ≤ c && c ≤ 122) || (48 ≤ c && c ≤ 57) || c == 95 || c == 45
/-- a name -/
def isName (l : List UInt8) : Bool := l.all nameByte && decide (1 ≤ l.length) && decide (l.length ≤ 32)

theorem nameByte_int (c : UInt8) : nameByte c = (decide (97 ≤ (c.toNat : Int)) && decide ((c.toNat : Int) ≤ 122) || decide (48 ≤ (c.toNat : Int)) && decide ((c.toNat : Int) ≤ 57) || decide ((c.toNat : Int) = 95) || decide ((c.toNat : Int) = 45)) := by
  unfold nameByte
  have e1 : (c == 95) = decide ((c.toNat : Int) = 95) := by
    rw [Bool.eq_iff_iff]; simp [← UInt8.toNat_inj]; omega
  have e2 : (c == 45) = decide ((c.toNat : Int) = 45) := by
    rw [Bool.eq_iff_iff]; simp [← UInt8.toNat_inj]; omega
  rw [e1, e2]
  simp only [UInt8.le_iff_toNat_le]
  rw [Bool.eq_iff_iff]
  simp
  omega

theorem take_snoc (s : ByteArray) (k : Nat) (h : k < s.size) : s.data.toList.take (k + 1) = s.data.toList.take k ++ [s[k]] := by
  rw [List.take_succ_eq_append_getElem (by simpa using h)]; rfl

theorem all_snoc (s : ByteArray) (k : Nat) (h : k < s.size) : (s.data.toList.take (k + 1)).all nameByte = ((s.data.toList.take k).all nameByte && nameByte s[k]) := by
  rw [take_snoc s k h]; simp

theorem not_all (s : ByteArray) (k : Nat) (h : k < s.size) (hn : nameByte s[k] = false) : isName s.data.toList = false := by
  unfold isName
  have : s.data.toList.all nameByte = false := by
    rw [List.all_eq_false]
    exact ⟨s[k], by simp [ByteArray.getElem_eq_getElem_data], by simp [hn]⟩
  simp [this]

theorem nbT1 (c : UInt8) (h : 97 ≤ (c.toNat : Int)) (h2 : (c.toNat : Int) ≤ 122) : nameByte c = true := by
  rw [nameByte_int]; simp; omega
theorem nbT2 (c : UInt8) (h : 48 ≤ (c.toNat : Int)) (h2 : (c.toNat : Int) ≤ 57) : nameByte c = true := by
  rw [nameByte_int]; simp; omega
theorem nbT3 (c : UInt8) (h : ((c.toNat : Int) == 95) = true) : nameByte c = true := by
  rw [nameByte_int]; simp at h; simp; omega
theorem nbT4 (c : UInt8) (h : ((c.toNat : Int) == 45) = true) : nameByte c = true := by
  rw [nameByte_int]; simp at h; simp; omega
theorem nbF (c : UInt8) (h1 : ¬ (97 ≤ (c.toNat : Int) ∧ (c.toNat : Int) ≤ 122)) (h2 : ¬ (48 ≤ (c.toNat : Int) ∧ (c.toNat : Int) ≤ 57)) (h3 : ((c.toNat : Int) == 95) = false) (h4 : ((c.toNat : Int) == 45) = false) : nameByte c = false := by
  rw [nameByte_int]; simp at h3 h4; simp; omega
theorem all_step (s : ByteArray) (k : Nat) (h : k < s.size) (h0 : (s.data.toList.take k).all nameByte = true) (h1 : nameByte s[k] = true) : (s.data.toList.take (k + 1)).all nameByte = true := by
  rw [all_snoc s k h, h0, h1]; rfl
theorem isName_all (s : ByteArray) (h : s.data.toList.all nameByte = true) : isName s.data.toList = (!s.toList.isEmpty && decide ((s.size : Int) ≤ 32)) := by
  unfold isName
  rw [h, Lib.toList_data, Lib.size_eq]
  cases hl : s.data.toList <;> simp
  omega
theorem ret_bool {a b : Bool} (h : a = b) : Ending.returned (.bool a) = .returned (.bool b) := by rw [h]
theorem ret_int {k : IntKind} {a b : Int} (h : a = b) : Ending.returned (.int k a) = .returned (.int k b) := by rw [h]
theorem bcell {W w1 : World} (hb : Below W.heap.size W w1) : (∀ b o, b < W.heap.size → w1.cell? ⟨b, o, none⟩ = W.cell? ⟨b, o, none⟩) ∧ (∀ b o, b < W.heap.size → w1.frozen? ⟨b, o, none⟩ = W.frozen? ⟨b, o, none⟩) :=
  ⟨fun b o h => hb.cell (p := ⟨b, o, none⟩) h, fun b o h => hb.frozen (p := ⟨b, o, none⟩) h⟩

def Blk (w : World) (g : Nat) (t : TypeId) (cs : Array Value) : Prop := w.heap[g]? = some (.cells cs t (0, 0))

section
variable {w w' : World} {g : Nat} {t : TypeId} {cs : Array Value}
theorem Blk.lt (h : Blk w g t cs) : g < w.heap.size := by
  rcases Nat.lt_or_ge g w.heap.size with hlt | hge
  · exact hlt
  · unfold Blk at h; rw [Array.getElem?_eq_none hge] at h; cases h
theorem Blk.cell (h : Blk w g t cs) (i : Nat) : w.cell? ⟨g, i, none⟩ = cs[i]? := cell_of_row w g i cs t (0, 0) h
theorem Blk.frozen (h : Blk w g t cs) (i : Nat) : w.frozen? ⟨g, i, none⟩ = false := by
  unfold Blk at h
  simp [World.frozen?, h]
theorem Blk.new (w : World) (t : TypeId) (cs : Array Value) : Blk (w.alloc (.cells cs t)) w.heap.size t cs := heap_alloc_new w _
theorem Blk.drew (h : Blk w g t cs) : Blk w.drew g t cs := h
theorem Blk.drewN (h : Blk w g t cs) (n : Nat) : Blk (w.drewN n) g t cs := h
theorem Blk.alloc (h : Blk w g t cs) (o : Obj) : Blk (w.alloc o) g t cs := (Below.heap_alloc w o g h.lt).trans h
theorem Blk.set_ (h : Blk w g t cs) (i : Nat) (u : Value) : Blk (w.setCell ⟨g, i, none⟩ u) g t (cs.setIfInBounds i u) := by
  unfold Blk at h ⊢
  simp [World.setCell, Array.getElem?_modify, h]
theorem Blk.far (h : Blk w g t cs) {p : Addr} (hp : g ≠ p.block) (u : Value) : Blk (w.setCell p u) g t cs := (Below.heap_setCell w p u g hp).trans h
theorem Blk.below {B : Nat} (h : Blk w g t cs) (hb : Below B w w') (hg : g < B) : Blk w' g t cs := (hb.block g hg).trans h
theorem Blk.grown {row : Option Nat} (h : Blk w g t cs) (hb : w.grownBy w' row) (hg : some g ≠ row) : Blk w' g t cs := (hb.block g h.lt hg).trans h
theorem Blk.ne_ {g' : Nat} {t' : TypeId} {cs' : Array Value} (h : Blk w g t cs) (h' : Blk w g' t' cs') (hne : t ≠ t') : g ≠ g' := by
  rintro rfl
  unfold Blk at h h'
  rw [h] at h'
  injection h' with h'
  injection h' with _ ht
  exact hne ht
theorem own_blk_ne {base : Nat} {e : TypeId} {size n : Nat} {v : Value} {xs : List Value} (h : w.ownsRow base e size v n xs) (hg : Blk w g t cs) (hne : e ≠ t) : v.ownBlock ≠ some g := by
  rcases h.2 with ⟨rfl, _⟩ | ⟨g', cap, cur, rfl, _, hh, _⟩
  · simp [Value.ownBlock]
  · intro he
    have : g' = g := by simpa [Value.ownBlock] using he
    subst this
    exact Blk.ne_ (t := e) hh hg hne rfl
end

/-- two blocks that stand as they are while others are made: what a region that draws its order is told to hold -/
theorem keep2 {w2 w3 w4 : World} {g1 g2 : Nat} {c1 c2 : Array Value} (l1 : g1 < w2.heap.size) (l2 : g2 < w2.heap.size)
    (h : (∀ i, w3.cell? ⟨g1, i, none⟩ = c1[i]?) ∧ (∀ i, w3.cell? ⟨g2, i, none⟩ = c2[i]?) ∧ Below w2.heap.size w2 w3) (hb : Below w3.heap.size w3 w4) :
    (∀ i, w4.cell? ⟨g1, i, none⟩ = c1[i]?) ∧ (∀ i, w4.cell? ⟨g2, i, none⟩ = c2[i]?) ∧ Below w2.heap.size w2 w4 := by
  have hz := h.2.2.size
  exact ⟨fun i => (hb.cell (p := ⟨g1, i, none⟩) (by simp; omega)).trans (h.1 i), fun i => (hb.cell (p := ⟨g2, i, none⟩) (by simp; omega)).trans (h.2.1 i), h.2.2.trans (hb.mono hz)⟩
theorem keep2_drew {w2 : World} {g1 g2 : Nat} {c1 c2 : Array Value}
    (h1 : ∀ i, w2.cell? ⟨g1, i, none⟩ = c1[i]?) (h2 : ∀ i, w2.cell? ⟨g2, i, none⟩ = c2[i]?) :
    (∀ i, w2.drew.cell? ⟨g1, i, none⟩ = c1[i]?) ∧ (∀ i, w2.drew.cell? ⟨g2, i, none⟩ = c2[i]?) ∧ Below w2.heap.size w2 w2.drew :=
  ⟨h1, h2, (Below.refl _ _).drew⟩
theorem keepB {w2 w3 : World} {g1 g2 : Nat} {c1 c2 : Array Value}
    (h : (∀ i, w3.cell? ⟨g1, i, none⟩ = c1[i]?) ∧ (∀ i, w3.cell? ⟨g2, i, none⟩ = c2[i]?) ∧ Below w2.heap.size w2 w3) : Below w2.heap.size w2 w3 := h.2.2
theorem bdrewN {B : Nat} {a w : World} (h : Below B a w) (n : Nat) : Below B a (w.drewN n) := ⟨h.os, h.tape, h.output, h.size, h.block⟩
end Go.Proofs.YtaikedlkkjnffaaGreatDoor
