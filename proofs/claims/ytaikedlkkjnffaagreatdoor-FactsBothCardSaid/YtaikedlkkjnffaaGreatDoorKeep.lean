/- Worlds of which all blocks stand but some. -/
import Derived.Test.YtaikedlkkjnffaaGreatDoorStr
import Derived.Maps.OwnSet
namespace Go.Proofs.YtaikedlkkjnffaaGreatDoor
open Go.RowKit
/-- each block that lay in w stands in w', but those of S -/
structure Keeps (S : Nat → Prop) (w w' : World) : Prop where
  os : w'.os = w.os
  tape : w'.tape = w.tape
  output : w'.output = w.output
  size : w.heap.size ≤ w'.heap.size
  block : ∀ k, k < w.heap.size → ¬ S k → w'.heap[k]? = w.heap[k]?
variable {S T : Nat → Prop} {w w' w'' : World}
theorem Keeps.refl (S : Nat → Prop) (w : World) : Keeps S w w := ⟨rfl, rfl, rfl, Nat.le_refl _, fun _ _ _ => rfl⟩
theorem Keeps.trans (h : Keeps S w w') (h' : Keeps S w' w'') : Keeps S w w'' :=
  ⟨h'.os.trans h.os, h'.tape.trans h.tape, h'.output.trans h.output, Nat.le_trans h.size h'.size, fun k hk hs => (h'.block k (Nat.lt_of_lt_of_le hk h.size) hs).trans (h.block k hk hs)⟩
theorem Keeps.mono (h : Keeps S w w') (hs : ∀ k, k < w.heap.size → S k → T k) : Keeps T w w' := ⟨h.os, h.tape, h.output, h.size, fun k hk ht => h.block k hk fun e => ht (hs k hk e)⟩
theorem Keeps.below {B : Nat} (h : Keeps S w w') (hs : ∀ k, k < w.heap.size → S k → B ≤ k) (hB : B ≤ w.heap.size) : Below B w w' := ⟨h.os, h.tape, h.output, h.size, fun k hk => h.block k (by omega) fun e => by have := hs k (by omega) e; omega⟩
theorem Keeps.of_below (h : Below w.heap.size w w') : Keeps S w w' := ⟨h.os, h.tape, h.output, h.size, fun k hk _ => h.block k hk⟩
theorem Keeps.of_below' {B : Nat} (h : Below B w w') (hs : ∀ k, B ≤ k → k < w.heap.size → S k) : Keeps S w w' := ⟨h.os, h.tape, h.output, h.size, fun k hk hn => h.block k (Nat.lt_of_not_le fun e => hn (hs k e hk))⟩
theorem Keeps.alloc (h : Keeps S w w') (o : Obj) : Keeps S w (w'.alloc o) := h.trans (.of_below ((Below.refl _ _).alloc (Nat.le_refl _) o))
theorem Keeps.drew (h : Keeps S w w') : Keeps S w w'.drew := h.trans (.of_below (Below.refl _ _).drew)
theorem Keeps.drewN (h : Keeps S w w') (n : Nat) : Keeps S w (w'.drewN n) := h.trans (.of_below (bdrewN (Below.refl _ _) n))
theorem Keeps.setCell (h : Keeps S w w') {p : Addr} (hp : S p.block ∨ w.heap.size ≤ p.block) (u : Value) : Keeps S w (w'.setCell p u) := by
  have h' : Below p.block w' (w'.setCell p u) := (Below.refl _ _).setCell (Nat.le_refl _) u
  refine ⟨h'.os.trans h.os, h'.tape.trans h.tape, h'.output.trans h.output, Nat.le_trans h.size h'.size, fun k hk hs => ?_⟩
  have hne : k ≠ p.block := by
    rintro rfl
    rcases hp with hp | hp
    · exact hs hp
    · omega
  exact (Below.heap_setCell w' p u k hne).trans (h.block k hk hs)
theorem Keeps.grown {row : Option Nat} (h : Keeps S w w') (hg : w'.grownBy w'' row) (hr : ∀ k, row = some k → S k ∨ w.heap.size ≤ k) : Keeps S w w'' := by
  refine ⟨hg.os.trans h.os, hg.tape.trans h.tape, hg.output.trans h.output, Nat.le_trans h.size hg.size, fun k hk hs => ?_⟩
  refine (hg.block k (Nat.lt_of_lt_of_le hk h.size) ?_).trans (h.block k hk hs)
  intro e
  rcases hr k e.symm with h1 | h1
  · exact hs h1
  · omega
theorem Keeps.step (h : Keeps S w w') (h' : Keeps T w' w'') (hs : ∀ k, T k → S k ∨ w.heap.size ≤ k) : Keeps S w w'' := by
  refine ⟨h'.os.trans h.os, h'.tape.trans h.tape, h'.output.trans h.output, Nat.le_trans h.size h'.size, fun k hk hn => ?_⟩
  refine (h'.block k (Nat.lt_of_lt_of_le hk h.size) ?_).trans (h.block k hk hn)
  intro e
  rcases hs k e with h1 | h1
  · exact hn h1
  · omega
theorem Keeps.below_step {B : Nat} (h : Below B w w') (hB : B ≤ w'.heap.size) (h' : Keeps T w' w'') (hs : ∀ k, T k → B ≤ k) : Below B w w'' :=
  h.trans (h'.below (fun k _ e => hs k e) hB)
theorem Blk.keeps {g : Nat} {t : TypeId} {cs : Array Value} (h : Blk w g t cs) (hb : Keeps S w w') (hg : ¬ S g) : Blk w' g t cs := (hb.block g h.lt hg).trans h
theorem own_keeps {B : Nat} {e : TypeId} {k : Nat} {v : Value} {n : Nat} {xs : List Value} (h : w.ownsRow B e k v n xs) (hb : Keeps S w w') (hv : ∀ g, v.ownBlock = some g → ¬ S g) : w'.ownsRow B e k v n xs := by
  obtain ⟨h1, h2⟩ := h
  refine ⟨h1, ?_⟩
  rcases h2 with h2 | ⟨g, cap, cur, rfl, hg, hh, hr⟩
  · exact .inl h2
  · exact .inr ⟨g, cap, cur, rfl, hg, (hb.block g (by rcases Nat.lt_or_ge g w.heap.size with h4 | h4; exact h4; rw [Array.getElem?_eq_none h4] at hh; cases hh) (hv g rfl)).trans hh, hr⟩
theorem map_keeps {H : Type} {P : Program} {k : TypeId} {R : Value → Option (DataW H × List MemPlace)} {b n : Nat} {D : DataW H} (h : w.ownsMap P k R b n D) (hb : Keeps S w w') (hs : ¬ S b) : w'.ownsMap P k R b n D := by
  have hlt := h.lt
  obtain ⟨es, clock, h1, h2⟩ := h
  exact ⟨es, clock, (hb.block b hlt hs).trans h1, h2⟩
end Go.Proofs.YtaikedlkkjnffaaGreatDoor
