/- The document's disk in memory, whole: its struct, its rows; what each change leaves. -/
import Derived.Test.YtgclancneohpbaaRW2
namespace Go.Proofs.Ytgclancneohpbaa
open Go.RowKit Go.Maps Go.Shelf
def DataAt (w : World) (v : Value) (l : List UInt8) : Prop := RowAt w 5 v l.length (bcells l)
theorem DataAt.bytes {w : World} {v : Value} {l : List UInt8} (h : DataAt w v l) : Bytes w v l := by
  rcases h with ⟨rfl, h⟩ | ⟨g, c, cur, rfl, hc, hl, h⟩
  · exact .inl (.inl ⟨rfl, List.eq_nil_of_length_eq_zero h⟩)
  · refine .inl (.inr ⟨g, 0, c, rfl, hc, fun i x hx => ?_⟩)
    rw [Nat.zero_add, hl.cell]
    exact h i _ (by rw [bcells_get, hx]; rfl)
theorem DataAt.cut {w : World} {p : Option Addr} {c n : Nat} {l : List UInt8} (h : DataAt w (.slice p l.length c) l) (hn : n ≤ l.length) (hp : p ≠ none) : DataAt w (.slice p n c) (l.take n) := by
  rcases h with ⟨h0, h⟩ | ⟨g, c', cur, h0, hc, hl, h⟩
  · injection h0 with h1; exact absurd h1 hp
  · injection h0 with h1 h2 h3
    subst h1 h3
    refine .inr ⟨g, c, cur, ?_, ?_, hl, fun i u hu => ?_⟩
    · rw [List.length_take, Nat.min_eq_left hn]
    · rw [List.length_take]; omega
    · refine h i u ?_
      rw [bcells_get] at hu ⊢
      rw [List.getElem?_take] at hu
      split at hu
      · exact hu
      · cases hu
theorem kset (w : World) (g i : Nat) (u : Value) : Keeps (fun j => j = g) w (w.setCell ⟨g, i, none⟩ u) := (Keeps.refl (fun j => j = g) w).setCell (p := ⟨g, i, none⟩) (.inl rfl) u
def rdset (g : Nat) (vF vD vS vA : Value) (dv : List Value) : Nat → Prop := fun j => j = g ∨ vF.ownBlock = some j ∨ vA.ownBlock = some j ∨ vD.ownBlock = some j ∨ vS.ownBlock = some j ∨ ∃ u ∈ dv, u.ownBlock = some j
/-- the rows of a disk -/
structure RRest (w : World) (B : Nat) (vF vD vS vA : Value) (dv : List Value) (F : List File) (d s : RDir) (A : List RAct) : Prop where
  files : w.ownsRow B 110 2 vF F.length (fcells dv F)
  len : dv.length = F.length
  data : ∀ (i : Nat) (x : File), F[i]? = some x → ∃ u : Value, dv[i]? = some u ∧ DataAt w u x.data
  dir : DirAt w vD d
  safe : DirAt w vS s
  acts : w.ownsRow B 120 3 vA A.length (racells A)
structure RDat (w : World) (B g : Nat) (vF vD vS vA : Value) (dv : List Value) (r : RD) : Prop where
  blk : Blk w g 106 #[.int .i64 r.cap, .bool r.down, .int .i64 r.left, vF, vD, vS, vA]
  rest : RRest w B vF vD vS vA dv r.files r.dir r.safe r.acts
  low : ∀ j, rdset g vF vD vS vA dv j → B ≤ j
section
variable {w w' : World} {B g : Nat} {vF vD vS vA : Value} {dv : List Value} {F : List File} {d s : RDir} {A : List RAct} {r : RD} {S : Nat → Prop}
theorem RRest.datum (h : RRest w B vF vD vS vA dv F d s A) : ∀ u ∈ dv, ∃ x, DataAt w u x := by
  intro u hu
  obtain ⟨i, hi⟩ := List.getElem?_of_mem hu
  have hl := (List.getElem?_eq_some_iff.1 hi).1
  obtain ⟨u', h1, h2⟩ := h.data i _ (List.getElem?_eq_getElem (by rw [← h.len]; exact hl))
  rw [hi] at h1
  obtain rfl := Option.some.inj h1
  exact ⟨_, h2⟩
theorem RRest.keeps (h : RRest w B vF vD vS vA dv F d s A) (hk : Keeps S w w') (hs : ∀ j, S j → vF.ownBlock ≠ some j ∧ vA.ownBlock ≠ some j ∧ vD.ownBlock ≠ some j ∧ vS.ownBlock ≠ some j ∧ ∀ u ∈ dv, u.ownBlock ≠ some j) : RRest w' B vF vD vS vA dv F d s A :=
  ⟨own_keeps h.files hk fun j hj e => (hs j e).1 hj, h.len, fun i x hx => by
    obtain ⟨u, h1, h2⟩ := h.data i x hx
    exact ⟨u, h1, RowAt.keeps h2 hk fun j hj e => (hs j e).2.2.2.2 u (List.mem_of_getElem? h1) hj⟩, h.dir.keeps hk fun j hj e => (hs j e).2.2.1 hj, h.safe.keeps hk fun j hj e => (hs j e).2.2.2.1 hj, own_keeps h.acts hk fun j hj e => (hs j e).2.1 hj⟩
theorem RRest.later (h : RRest w B vF vD vS vA dv F d s A) (hb : Below w.heap.size w w') : RRest w' B vF vD vS vA dv F d s A := h.keeps (S := fun _ => False) (.of_below hb) (fun _ e => e.elim)
/-- none of the rows is that block -/
theorem RRest.far {t : TypeId} {cs : Array Value} (h : RRest w B vF vD vS vA dv F d s A) (hb : Blk w g t cs) (ht : t ≠ 110 ∧ t ≠ 120 ∧ t ≠ 108 ∧ t ≠ 5) : vF.ownBlock ≠ some g ∧ vA.ownBlock ≠ some g ∧ vD.ownBlock ≠ some g ∧ vS.ownBlock ≠ some g ∧ ∀ u ∈ dv, u.ownBlock ≠ some g := by
  refine ⟨fun e => ?_, fun e => ?_, fun e => ?_, fun e => ?_, fun u hu e => ?_⟩
  · obtain ⟨c, h1⟩ := own_blk h.files g e; exact h1.ne_ hb (Ne.symm ht.1) rfl
  · obtain ⟨c, h1⟩ := own_blk h.acts g e; exact h1.ne_ hb (Ne.symm ht.2.1) rfl
  · obtain ⟨c, h1⟩ := RowAt.blk h.dir g e; exact h1.ne_ hb (Ne.symm ht.2.2.1) rfl
  · obtain ⟨c, h1⟩ := RowAt.blk h.safe g e; exact h1.ne_ hb (Ne.symm ht.2.2.1) rfl
  · obtain ⟨x, h0⟩ := h.datum u hu
    obtain ⟨c, h1⟩ := RowAt.blk h0 g e; exact h1.ne_ hb (Ne.symm ht.2.2.2) rfl
theorem RDat.far (h : RDat w B g vF vD vS vA dv r) : vF.ownBlock ≠ some g ∧ vA.ownBlock ≠ some g ∧ vD.ownBlock ≠ some g ∧ vS.ownBlock ≠ some g ∧ ∀ u ∈ dv, u.ownBlock ≠ some g := h.rest.far h.blk (by decide)
theorem RDat.farF (h : RDat w B g vF vD vS vA dv r) {j : Nat} (hj : vF.ownBlock = some j) : j ≠ g ∧ vA.ownBlock ≠ some j ∧ vD.ownBlock ≠ some j ∧ vS.ownBlock ≠ some j ∧ ∀ u ∈ dv, u.ownBlock ≠ some j := by
  obtain ⟨c, hb⟩ := own_blk h.rest.files j hj
  refine ⟨hb.ne_ h.blk (by decide), fun e => ?_, fun e => ?_, fun e => ?_, fun u hu e => ?_⟩
  · obtain ⟨c, h1⟩ := own_blk h.rest.acts j e; exact h1.ne_ hb (by decide) rfl
  · obtain ⟨c, h1⟩ := RowAt.blk h.rest.dir j e; exact h1.ne_ hb (by decide) rfl
  · obtain ⟨c, h1⟩ := RowAt.blk h.rest.safe j e; exact h1.ne_ hb (by decide) rfl
  · obtain ⟨x, h0⟩ := h.rest.datum u hu
    obtain ⟨c, h1⟩ := RowAt.blk h0 j e; exact h1.ne_ hb (by decide) rfl
theorem RDat.farA (h : RDat w B g vF vD vS vA dv r) {j : Nat} (hj : vA.ownBlock = some j) : j ≠ g ∧ vF.ownBlock ≠ some j ∧ vD.ownBlock ≠ some j ∧ vS.ownBlock ≠ some j ∧ ∀ u ∈ dv, u.ownBlock ≠ some j := by
  obtain ⟨c, hb⟩ := own_blk h.rest.acts j hj
  refine ⟨hb.ne_ h.blk (by decide), fun e => ?_, fun e => ?_, fun e => ?_, fun u hu e => ?_⟩
  · obtain ⟨c, h1⟩ := own_blk h.rest.files j e; exact h1.ne_ hb (by decide) rfl
  · obtain ⟨c, h1⟩ := RowAt.blk h.rest.dir j e; exact h1.ne_ hb (by decide) rfl
  · obtain ⟨c, h1⟩ := RowAt.blk h.rest.safe j e; exact h1.ne_ hb (by decide) rfl
  · obtain ⟨x, h0⟩ := h.rest.datum u hu
    obtain ⟨c, h1⟩ := RowAt.blk h0 j e; exact h1.ne_ hb (by decide) rfl
theorem RDat.lt (h : RDat w B g vF vD vS vA dv r) : ∀ j, rdset g vF vD vS vA dv j → B ≤ j ∧ j < w.heap.size := by
  intro j hj
  refine ⟨h.low j hj, ?_⟩
  rcases hj with rfl | e | e | e | e | ⟨u, hu, e⟩
  · exact h.blk.lt
  · exact (h.rest.files.lt j e).2
  · exact (h.rest.acts.lt j e).2
  · exact h.rest.dir.lt j e
  · exact h.rest.safe.lt j e
  · obtain ⟨x, h0⟩ := h.rest.datum u hu
    exact RowAt.lt h0 j e
theorem RDat.keeps (h : RDat w B g vF vD vS vA dv r) (hk : Keeps S w w') (hs : ∀ j, rdset g vF vD vS vA dv j → ¬ S j) : RDat w' B g vF vD vS vA dv r :=
  ⟨h.blk.keeps hk (hs g (.inl rfl)), h.rest.keeps hk fun j e => ⟨fun hj => hs j (.inr (.inl hj)) e, fun hj => hs j (.inr (.inr (.inl hj))) e, fun hj => hs j (.inr (.inr (.inr (.inl hj)))) e, fun hj => hs j (.inr (.inr (.inr (.inr (.inl hj))))) e, fun u hu hj => hs j (.inr (.inr (.inr (.inr (.inr ⟨u, hu, hj⟩))))) e⟩, h.low⟩
theorem RDat.later (h : RDat w B g vF vD vS vA dv r) (hb : Below w.heap.size w w') : RDat w' B g vF vD vS vA dv r := h.keeps (S := fun _ => False) (.of_below hb) (fun _ _ => id)
/-- a store into the struct -/
theorem RDat.rest_set (h : RDat w B g vF vD vS vA dv r) (i : Nat) (u : Value) : RRest (w.setCell ⟨g, i, none⟩ u) B vF vD vS vA dv r.files r.dir r.safe r.acts :=
  h.rest.keeps (S := fun j => j = g) (kset w g i u) fun j e => by obtain rfl := e; exact h.far
end
/-- a disk, whatever its blocks: those of O -/
def RDisk (w : World) (B g : Nat) (O : Nat → Prop) (r : RD) : Prop := ∃ vF vD vS vA dv, RDat w B g vF vD vS vA dv r ∧ O = rdset g vF vD vS vA dv
/-- what a call leaves of it -/
def RGoes (w : World) (B g : Nat) (O : Nat → Prop) (r' : RD) (w' : World) : Prop := (∃ O', RDisk w' B g O' r' ∧ ∀ j, O' j → O j ∨ w.heap.size ≤ j) ∧ Keeps O w w'
section
variable {w w1 w' : World} {B g : Nat} {O : Nat → Prop} {r r1 r' : RD}
theorem RDisk.lt (h : RDisk w B g O r) : ∀ j, O j → B ≤ j ∧ j < w.heap.size := by
  obtain ⟨vF, vD, vS, vA, dv, h1, rfl⟩ := h
  exact h1.lt
theorem RDisk.keeps {S : Nat → Prop} (h : RDisk w B g O r) (hk : Keeps S w w') (hs : ∀ j, O j → ¬ S j) : RDisk w' B g O r := by
  obtain ⟨vF, vD, vS, vA, dv, h1, rfl⟩ := h
  exact ⟨vF, vD, vS, vA, dv, h1.keeps hk hs, rfl⟩
theorem RDisk.later (h : RDisk w B g O r) (hb : Below w.heap.size w w') : RDisk w' B g O r := h.keeps (S := fun _ => False) (.of_below hb) (fun _ _ => id)
theorem RGoes.same (h : RDisk w' B g O r) (hk : Keeps O w w') : RGoes w B g O r w' := ⟨⟨O, h, fun _ h => .inl h⟩, hk⟩
theorem RGoes.at (hb : Below w.heap.size w w1) (h : RGoes w1 B g O r w') : RGoes w B g O r w' := by
  obtain ⟨⟨O', h1, h2⟩, h3⟩ := h
  have := hb.size
  exact ⟨⟨O', h1, fun j hj => (h2 j hj).imp id (fun h => by omega)⟩, (Keeps.of_below hb).trans h3⟩
theorem RGoes.next {O' : Nat → Prop} (hk : Keeps O w w1) (ho : ∀ j, O' j → O j ∨ w.heap.size ≤ j) (h : RGoes w1 B g O' r' w') : RGoes w B g O r' w' := by
  obtain ⟨⟨O2, h1, h2⟩, h3⟩ := h
  have := hk.size
  exact ⟨⟨O2, h1, fun j hj => (h2 j hj).elim (ho j) (fun h => .inr (by omega))⟩, hk.step h3 ho⟩
theorem RGoes.later (h : RGoes w B g O r w1) (hb : Below w1.heap.size w1 w') : RGoes w B g O r w' := by
  obtain ⟨⟨O', h1, h2⟩, h3⟩ := h
  exact ⟨⟨O', h1.later hb, h2⟩, h3.trans (.of_below hb)⟩
end
end Go.Proofs.Ytgclancneohpbaa
