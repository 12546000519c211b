/- A disk that lies behind a world, told in the document's words: the calls on it. A disk and the blocks that are its own: the calls on it, and what stands. Rows of any elements in memory: owned, read, appended to; what putting one in leaves. No program in sight. -/
import Derived.Test.YtabcdodjkfknlaaGreatDoorPN09
import Derived.Test.YtabcdodjkfknlaaGreatDoorPN01
namespace Go.Proofs.YtabcdodjkfknlaaGreatDoor
open Go.RowKit Go.Maps Go.Shelf
theorem burn_room (k : Dk) : k.burn.room = k.room := (Go.Proofs.YtabcdodjkfknlaaGreatDoor.burn_same k).2.2.2.2.1
theorem created_room (k : Dk) (f : Nat) (s : ByteArray) : (k.created f s).room ≤ k.room + 1 := by
  unfold Dk.created
  split
  · split
    · show (k.upd f ⟨[], 0⟩).burn.room + 1 ≤ _
      rw [burn_room]; exact Nat.le_refl _
    · rw [burn_room]; exact Nat.le_succ _
  · exact Nat.le_succ _
theorem apped_room (k : Dk) (s b : List UInt8) : (k.apped s b).room ≤ k.room + 1 := by
  unfold Dk.apped
  split
  · split
    · exact Nat.le_succ _
    · split
      · show k.burn.room + 1 ≤ _
        rw [burn_room]; exact Nat.le_refl _
      · rw [burn_room]; exact Nat.le_succ _
  · exact Nat.le_succ _
theorem synced_room (k : Dk) (s : List UInt8) : (k.synced s).room ≤ k.room := by
  unfold Dk.synced
  split
  · split
    · show k.burn.room ≤ _
      rw [burn_room]; exact Nat.le_refl _
    · rw [burn_room]; exact Nat.le_refl _
  · exact Nat.le_refl _
theorem syncedDir_room (k : Dk) : k.syncedDir.room ≤ k.room := by
  unfold Dk.syncedDir
  split
  · exact Nat.le_refl _
  · split
    · show k.burn.room ≤ _
      rw [burn_room]; exact Nat.le_refl _
    · rw [burn_room]; exact Nat.le_refl _
theorem did_room (k : Dk) (a : DAct) : (k.did a).room = k.room + 1 := by
  show k.burn.room + 1 = _
  rw [burn_room]
theorem renamed_room (k : Dk) (a b : ByteArray) : (k.renamed a b).room ≤ k.room + 1 := by
  unfold Dk.renamed
  split
  · split
    · split
      · rw [did_room]; exact Nat.le_refl _
      · rw [burn_room]; exact Nat.le_succ _
    · exact Nat.le_succ _
  · exact Nat.le_succ _
theorem removed_room (k : Dk) (a : ByteArray) : (k.removed a).room ≤ k.room + 1 := by
  unfold Dk.removed
  split
  · split
    · show (k.did ⟨a, ⟨#[]⟩, none⟩).room ≤ _
      rw [did_room]; exact Nat.le_refl _
    · rw [burn_room]; exact Nat.le_succ _
  · exact Nat.le_succ _
/-- the disk at block D is the document's r; at most m things were done to it -/
def At (w0 w : World) (D : Nat) (r : RD) (m : Nat) : Prop := ∃ k bl, Has w0 w D k ∧ Sim k r bl ∧ k.room ≤ m
section
variable {w0 w w1 w' : World} {D m : Nat} {r : RD}
theorem At.below (h : At w0 w D r m) : Below w0.heap.size w0 w := by obtain ⟨k, bl, h1, h2, h3⟩ := h; exact h1.below
theorem At.later (h : At w0 w D r m) (hb : Below w.heap.size w w1) : At w0 w1 D r m := by obtain ⟨k, bl, h1, h2, h3⟩ := h; exact ⟨k, bl, h1.later hb, h2, h3⟩
theorem At.more (h : At w0 w D r m) {m' : Nat} (hm : m ≤ m') : At w0 w D r m' := by obtain ⟨k, bl, h1, h2, h3⟩ := h; exact ⟨k, bl, h1, h2, Nat.le_trans h3 hm⟩
theorem new_at (cap : Int) (w : World) : Calls Tryz.prog 17 #[.int .i64 cap] w fun e w' => e = .returned (.pointer (some ⟨w.heap.size + 2, 0, none⟩)) ∧ At w w' (w.heap.size + 2) (RD.new cap) 0 :=
  (new_has cap w).mono fun _ _ ⟨h1, h2⟩ => ⟨h1, _, _, h2, Sim.new cap, Nat.le_refl _⟩
theorem create_at (h : At w0 w D r m) (s : ByteArray) (hs : s.size ≤ maxLen) (hm : m < 4000) : Calls Tryz.prog 70 #[.pointer (some ⟨D, 0, none⟩), .string s] w fun e w' => e = .returned (.int .i64 (r.createE s.data.toList)) ∧ At w0 w' D (r.create s.data.toList) (m + 1) := by
  obtain ⟨k, bl, h1, h2, h3⟩ := h
  refine (create_has h1 s hs (by omega)).mono fun e w' ⟨he, f, hf, hh⟩ => ?_
  obtain ⟨bl', hs'⟩ := h2.create hf s
  exact ⟨by rw [he, h2.createE], _, bl', hh, hs', Nat.le_trans (created_room k f s) (by omega)⟩
theorem append_at (h : At w0 w D r m) (hb : Below w.heap.size w w1) (s : ByteArray) {v : Value} {b : List UInt8} (hv : Bytes w1 v b) (hn : ∀ g, v.ownBlock = some g → w.heap.size ≤ g ∨ g < w0.heap.size) (hs : s.size ≤ maxLen) (hm : m < 4000) (hl : b.length ≤ 65536) :
    Calls Tryz.prog 21 #[.pointer (some ⟨D, 0, none⟩), .string s, v] w1 fun e w' => e = .returned (.int .i64 (r.appE s.data.toList b.length)) ∧ At w0 w' D (r.append s.data.toList b) (m + 1) := by
  obtain ⟨k, bl, h1, h2, h3⟩ := h
  exact (append_has h1 hb s hv hn hs (by omega) hl).mono fun e w' ⟨he, hh⟩ => ⟨by rw [he, h2.appE], _, bl, hh, h2.append _ _, Nat.le_trans (apped_room k _ _) (by omega)⟩
theorem sync_at (h : At w0 w D r m) (s : ByteArray) (hs : s.size ≤ maxLen) : Calls Tryz.prog 97 #[.pointer (some ⟨D, 0, none⟩), .string s] w fun e w' => e = .returned (.int .i64 (r.syncE s.data.toList)) ∧ At w0 w' D (r.sync s.data.toList) m := by
  obtain ⟨k, bl, h1, h2, h3⟩ := h
  exact (sync_has h1 s hs).mono fun e w' ⟨he, hh⟩ => ⟨by rw [he, h2.syncE], _, bl, hh, h2.sync _, Nat.le_trans (synced_room k _) h3⟩
theorem syncDir_at (h : At w0 w D r m) : Calls Tryz.prog 52 #[.pointer (some ⟨D, 0, none⟩)] w fun e w' => e = .returned (.int .i64 r.syncDirE) ∧ At w0 w' D r.syncDir m := by
  obtain ⟨k, bl, h1, h2, h3⟩ := h
  exact (syncDir_has h1).mono fun e w' ⟨he, hh⟩ => ⟨by rw [he, h2.syncDirE], _, bl, hh, h2.syncDir, Nat.le_trans (syncedDir_room k) h3⟩
theorem fuse_at (h : At w0 w D r m) (n : Int) (hn : n < 9223372036854775808) : Calls Tryz.prog 26 #[.pointer (some ⟨D, 0, none⟩), .int .i64 n] w fun e w' => e = .returned (.tuple #[]) ∧ At w0 w' D (r.fused n) m := by
  obtain ⟨k, bl, h1, h2, h3⟩ := h
  exact (fuse_has h1 n hn).mono fun e w' ⟨he, hh⟩ => ⟨he, _, bl, hh, h2.fuse n, h3⟩
def NamesPost (w : World) (l : List (List UInt8)) (e : Ending) (w' : World) : Prop := ∃ v, e = .returned v ∧ w'.ownsRow w.heap.size 9 1 v l.length (l.map encStr) ∧ l.length ≤ 100000 ∧ Below w.heap.size w w'
theorem list_at (h : At w0 w D r m) (hm : m ≤ 4000) : Calls Tryz.prog 24 #[.pointer (some ⟨D, 0, none⟩)] w (NamesPost w r.list) := by
  obtain ⟨k, bl, h1, h2, h3⟩ := h
  refine (list_has h1 (by omega)).mono fun e w' ⟨v, ns, he, hN, hl, _, hr, hb⟩ => ?_
  obtain rfl := h2.names hN
  exact ⟨v, he, hr, hl, hb⟩
theorem read_at (h : At w0 w D r m) (s : ByteArray) (hm : m ≤ 4000) (hs : s.size ≤ maxLen) : Calls Tryz.prog 59 #[.pointer (some ⟨D, 0, none⟩), .string s] w (ReadPost w (r.findE s.data.toList) (r.readB s.data.toList)) := by
  obtain ⟨k, bl, h1, h2, h3⟩ := h
  have := read_has h1 s (by omega) hs
  rw [h2.findE, h2.readB] at this
  exact this
theorem rename_at (h : At w0 w D r m) (s t : ByteArray) (hs : s.size ≤ maxLen) (ht : t.size ≤ maxLen) (hm : m < 4000) : Calls Tryz.prog 51 #[.pointer (some ⟨D, 0, none⟩), .string s, .string t] w fun e w' => e = .returned (.int .i64 (r.renameE s.data.toList t.data.toList)) ∧ At w0 w' D (r.rename s.data.toList t.data.toList) (m + 1) := by
  obtain ⟨k, bl, h1, h2, h3⟩ := h
  exact (rename_has h1 s t hs ht (by omega)).mono fun e w' ⟨he, hh⟩ => ⟨by rw [he, h2.renameE], _, bl, hh, h2.rename s t, Nat.le_trans (renamed_room k s t) (by omega)⟩
theorem remove_at (h : At w0 w D r m) (s : ByteArray) (hs : s.size ≤ maxLen) (hm : m < 4000) : Calls Tryz.prog 46 #[.pointer (some ⟨D, 0, none⟩), .string s] w fun e w' => e = .returned (.int .i64 (r.removeE s.data.toList)) ∧ At w0 w' D (r.remove s.data.toList) (m + 1) := by
  obtain ⟨k, bl, h1, h2, h3⟩ := h
  exact (remove_has h1 s hs (by omega)).mono fun e w' ⟨he, hh⟩ => ⟨by rw [he, h2.removeE], _, bl, hh, h2.remove s, Nat.le_trans (removed_room k s) (by omega)⟩
theorem crash_at (h : At w0 w D r m) (hb : Below w.heap.size w w1) {v : Value} {keep : List UInt8} (hv : Bytes w1 v keep) (hn : ∀ g, v.ownBlock = some g → (w.heap.size ≤ g ∨ g < w0.heap.size) ∧ g < w1.heap.size) (hm : m ≤ 4000) (hl : keep.length ≤ 1000000) :
    Calls Tryz.prog 27 #[.pointer (some ⟨D, 0, none⟩), v] w1 fun e w' => e = .returned (.tuple #[]) ∧ At w0 w' D (r.crash keep) m := by
  obtain ⟨k, bl, h1, h2, h3⟩ := h
  refine (crash_has h1 hb hv hn (by omega) hl).mono fun e w' ⟨he, ns, hN, hh⟩ => ⟨he, _, bl, hh, h2.crash ?_ hN, h3⟩
  obtain ⟨_, _, O, hd⟩ := h1
  exact hd.sound.1
end
end Go.Proofs.YtabcdodjkfknlaaGreatDoor
namespace Go.Proofs.YtabcdodjkfknlaaGreatDoor
open Go.RowKit Go.Maps Go.Shelf
/-- the disk at block D is the document's r; O are its blocks -/
structure DAt (w : World) (B D : Nat) (O : Nat → Prop) (r : RD) (m : Nat) : Prop where
  is : ∃ k bl, k.ok ∧ Disk w B D O k ∧ Sim k r bl ∧ k.room ≤ m
  le : B ≤ w.heap.size
def DGo (w : World) (B D : Nat) (O : Nat → Prop) (r' : RD) (m' : Nat) (w' : World) : Prop := ∃ O', DAt w' B D O' r' m' ∧ (∀ j, O' j → O j ∨ w.heap.size ≤ j) ∧ Keeps O w w'
section
variable {w w1 w' : World} {B D m : Nat} {O : Nat → Prop} {r : RD}
theorem DAt.lt (h : DAt w B D O r m) : ∀ j, O j → B ≤ j ∧ j < w.heap.size := by obtain ⟨⟨k, bl, _, h1, _⟩, _⟩ := h; exact h1.lt
theorem DAt.keeps {S : Nat → Prop} (h : DAt w B D O r m) (hk : Keeps S w w') (hs : ∀ j, O j → ¬ S j) : DAt w' B D O r m := by
  obtain ⟨⟨k, bl, h0, h1, h2, h3⟩, h4⟩ := h
  exact ⟨⟨k, bl, h0, h1.keeps hk hs, h2, h3⟩, Nat.le_trans h4 hk.size⟩
theorem DAt.later (h : DAt w B D O r m) (hb : Below w.heap.size w w') : DAt w' B D O r m := h.keeps (S := fun _ => False) (.of_below hb) fun _ _ => id
theorem DAt.of_at {w0 : World} (h : At w0 w D r m) : ∃ O, DAt w w0.heap.size D O r m := by
  obtain ⟨k, bl, ⟨h1, h2, O, h3⟩, h4, h5⟩ := h
  exact ⟨O, ⟨k, bl, h1, h3, h4, h5⟩, h2.size⟩
theorem DAt.at_ {w0 : World} (h : DAt w w0.heap.size D O r m) (hb : Below w0.heap.size w0 w) : At w0 w D r m := by
  obtain ⟨⟨k, bl, h0, h1, h2, h3⟩, h4⟩ := h
  exact ⟨k, bl, ⟨h0, hb, O, h1⟩, h2, h3⟩
theorem DGo.of {k' : Dk} {r' : RD} {m' : Nat} (hg : Goes w B D O k' w') (hw : B ≤ w.heap.size) (hk : k'.ok) (hm : k'.room ≤ m') (hs : ∃ bl, Sim k' r' bl) : DGo w B D O r' m' w' := by
  obtain ⟨⟨O', g1, g2⟩, g3⟩ := hg
  obtain ⟨bl, hs⟩ := hs
  exact ⟨O', ⟨⟨k', bl, hk, g1, hs, hm⟩, Nat.le_trans hw g3.size⟩, g2, g3⟩
theorem create_do (h : DAt w B D O r m) (s : ByteArray) (hs : s.size ≤ maxLen) (hm : m < 4000) : Calls Tryz.prog 70 #[.pointer (some ⟨D, 0, none⟩), .string s] w fun e w' => e = .returned (.int .i64 (r.createE s.data.toList)) ∧ DGo w B D O (r.create s.data.toList) (m + 1) w' := by
  obtain ⟨⟨k, bl, h0, h1, h2, h3⟩, h4⟩ := h
  refine (create_calls k _ D O s w h1 h0 hs (by omega) h4).mono fun e w' ⟨he, f, hf, hg⟩ => ?_
  have hfn : k.file f = none := h1.sound.2 f hf
  obtain ⟨bl', hs'⟩ := h2.create hfn s
  exact ⟨by rw [he, h2.createE], .of hg h4 (Dk.created_ok h0 (by omega) hs) (Nat.le_trans (created_room k f s) (by omega)) ⟨bl', hs'⟩⟩
theorem append_do (h : DAt w B D O r m) (s : ByteArray) {v : Value} {b : List UInt8} (hv : Bytes w v b) (hn : ∀ g, v.ownBlock = some g → b ≠ [] → ¬ O g) (hs : s.size ≤ maxLen) (hm : m < 4000) (hl : b.length ≤ 65536) :
    Calls Tryz.prog 21 #[.pointer (some ⟨D, 0, none⟩), .string s, v] w fun e w' => e = .returned (.int .i64 (r.appE s.data.toList b.length)) ∧ DGo w B D O (r.append s.data.toList b) (m + 1) w' := by
  obtain ⟨⟨k, bl, h0, h1, h2, h3⟩, h4⟩ := h
  exact (append_calls k _ D O s v b w h1 h0 (by omega) hs h4 hv hn hl).mono fun _ _ ⟨e, hg⟩ => ⟨by rw [e, h2.appE], .of hg h4 (Dk.apped_ok h0 hl) (Nat.le_trans (apped_room k _ _) (by omega)) ⟨_, h2.append _ _⟩⟩
theorem sync_do (h : DAt w B D O r m) (s : ByteArray) (hs : s.size ≤ maxLen) : Calls Tryz.prog 97 #[.pointer (some ⟨D, 0, none⟩), .string s] w fun e w' => e = .returned (.int .i64 (r.syncE s.data.toList)) ∧ DGo w B D O (r.sync s.data.toList) m w' := by
  obtain ⟨⟨k, bl, h0, h1, h2, h3⟩, h4⟩ := h
  exact (sync_calls k _ D O s w h1 h0 hs).mono fun _ _ ⟨e, hg⟩ => ⟨by rw [e, h2.syncE], .of hg h4 (Dk.synced_ok h0) (Nat.le_trans (synced_room k _) h3) ⟨_, h2.sync _⟩⟩
theorem syncDir_do (h : DAt w B D O r m) : Calls Tryz.prog 52 #[.pointer (some ⟨D, 0, none⟩)] w fun e w' => e = .returned (.int .i64 r.syncDirE) ∧ DGo w B D O r.syncDir m w' := by
  obtain ⟨⟨k, bl, h0, h1, h2, h3⟩, h4⟩ := h
  exact (syncDir_calls k _ D O w h1 h0 h4).mono fun _ _ ⟨e, hg⟩ => ⟨by rw [e, h2.syncDirE], .of hg h4 (Dk.syncedDir_ok h0) (Nat.le_trans (syncedDir_room k) h3) ⟨_, h2.syncDir⟩⟩
theorem rename_do (h : DAt w B D O r m) (s t : ByteArray) (hs : s.size ≤ maxLen) (ht : t.size ≤ maxLen) (hm : m < 4000) : Calls Tryz.prog 51 #[.pointer (some ⟨D, 0, none⟩), .string s, .string t] w fun e w' => e = .returned (.int .i64 (r.renameE s.data.toList t.data.toList)) ∧ DGo w B D O (r.rename s.data.toList t.data.toList) (m + 1) w' := by
  obtain ⟨⟨k, bl, h0, h1, h2, h3⟩, h4⟩ := h
  exact (rename_calls k _ D O s t w h1 h0 (by omega) hs ht h4).mono fun _ _ ⟨e, hg⟩ => ⟨by rw [e, h2.renameE], .of hg h4 (Dk.renamed_ok h0 (by omega) hs ht) (Nat.le_trans (renamed_room k s t) (by omega)) ⟨_, h2.rename s t⟩⟩
theorem remove_do (h : DAt w B D O r m) (s : ByteArray) (hs : s.size ≤ maxLen) (hm : m < 4000) : Calls Tryz.prog 46 #[.pointer (some ⟨D, 0, none⟩), .string s] w fun e w' => e = .returned (.int .i64 (r.removeE s.data.toList)) ∧ DGo w B D O (r.remove s.data.toList) (m + 1) w' := by
  obtain ⟨⟨k, bl, h0, h1, h2, h3⟩, h4⟩ := h
  exact (remove_calls k _ D O s w h1 h0 (by omega) hs h4).mono fun _ _ ⟨e, hg⟩ => ⟨by rw [e, h2.removeE], .of hg h4 (Dk.removed_ok h0 (by omega) hs) (Nat.le_trans (removed_room k s) (by omega)) ⟨_, h2.remove s⟩⟩
end
end Go.Proofs.YtabcdodjkfknlaaGreatDoor
namespace Go.Proofs.YtabcdodjkfknlaaGreatDoor
open Go.RowKit
/-- a kind of rows: the slice's type, its elements' type, how many cells each has, and which -/
structure RowK (α : Type) where
  (s e : TypeId)
  K : Nat
  en : α → List Value
/-- the program knows this kind -/
structure RowK.Ok {α : Type} (P : Program) (r : RowK α) : Prop where
  hs : P.underlying r.s = some (.slice r.e)
  info : ∃ i z b, P.info? r.e = some i ∧ i.zero = some z ∧ i.size = r.K ∧ i.bytes = b ∧ z.cells.size = r.K ∧ b ≤ 1000
  size : ∀ w, (sizeOf r.e).run P w = .ok r.K w
  pos : 0 < r.K
  len : ∀ a, (r.en a).length = r.K
  one : ∀ a, ∀ u ∈ r.en a, u.oneCell' = true
theorem info_partsK {P : Program} {t : TypeId} {z : Value} {n b : Nat} (h : (P.info? t).map (fun i => (i.zero, i.size, i.bytes)) = some (some z, n, b)) (h2 : z.cells.size = n) (h3 : b ≤ 1000) : ∃ i z b, P.info? t = some i ∧ i.zero = some z ∧ i.size = n ∧ i.bytes = b ∧ z.cells.size = n ∧ b ≤ 1000 := by
  cases hi : P.info? t with
  | none => rw [hi] at h; cases h
  | some i =>
    rw [hi] at h
    have := Option.some.inj h
    exact ⟨i, z, b, rfl, congrArg (·.1) this, congrArg (·.2.1) this, congrArg (·.2.2) this, h2, h3⟩
/-- the cells of elements, one behind the other -/
def RowK.cells {α : Type} (r : RowK α) (l : List α) : List Value := l.flatMap r.en
/-- elements in a row of the walk's own, no block below B -/
def RowK.Own {α : Type} (r : RowK α) (B : Nat) (w : World) (v : Value) (l : List α) : Prop := w.ownsRow B r.e r.K v l.length (r.cells l)
/-- elements that lie somewhere, one behind the other -/
def RowK.At {α : Type} (r : RowK α) (w : World) (p : Option Addr) (l : List α) : Prop := ∀ k x, l[k]? = some x → ∃ a : Addr, p = some a ∧ a.block < w.heap.size ∧ ∀ j u, (r.en x)[j]? = some u → w.cell? (a.add (k * r.K + j)) = some u
theorem addK_blk {a : Addr} {j : Nat} : (a.add j).block = a.block := by unfold Addr.add; split <;> rfl
theorem addK_add {a : Addr} {i j : Nat} : (a.add i).add j = a.add (i + j) := by
  obtain ⟨b, o, s⟩ := a
  unfold Addr.add
  by_cases hi : i = 0
  · subst hi
    rw [if_pos rfl, Nat.zero_add]
  · by_cases hj : j = 0
    · subst hj
      rw [if_pos rfl, Nat.add_zero]
    · rw [if_neg hj, if_neg hi, if_neg (by omega)]
      simp only [Addr.mk.injEq, and_true, true_and]
      omega
section
variable {α : Type} {P : Program} {r : RowK α} {B B' : Nat} {w w' : World} {v : Value} {l : List α}
theorem RowK.Ok.cells_len (h : r.Ok P) : ∀ l : List α, (r.cells l).length = l.length * r.K
  | [] => by simp [RowK.cells]
  | t :: l => by
    show (r.en t ++ r.cells l).length = _
    rw [List.length_append, h.cells_len l, h.len, List.length_cons, Nat.succ_mul]; omega
theorem RowK.cells_app (r : RowK α) (a b : List α) : r.cells (a ++ b) = r.cells a ++ r.cells b := by unfold RowK.cells; rw [List.flatMap_append]
theorem RowK.cells_one (r : RowK α) (t : α) : r.cells [t] = r.en t := by simp [RowK.cells]
theorem RowK.Ok.cells_at (h : r.Ok P) : ∀ (l : List α) (k j : Nat) (t : α), l[k]? = some t → j < r.K → (r.cells l)[k * r.K + j]? = (r.en t)[j]?
  | [], _, _, _, e, _ => by cases e
  | u :: l, 0, j, t, e, hj => by
    obtain rfl : u = t := by simpa using e
    show (r.en u ++ r.cells l)[_]? = _
    rw [List.getElem?_append_left (by rw [h.len]; omega)]
    simp
  | u :: l, k + 1, j, t, e, hj => by
    show (r.en u ++ r.cells l)[_]? = _
    have e1 : (k + 1) * r.K = k * r.K + r.K := Nat.succ_mul _ _
    rw [List.getElem?_append_right (by rw [h.len]; omega), h.len, show (k + 1) * r.K + j - r.K = k * r.K + j by omega]
    exact h.cells_at l k j t (by simpa using e) hj
theorem RowK.Ok.cells_one_cell (h : r.Ok P) (l : List α) : ∀ u ∈ r.cells l, u.oneCell' = true := by
  intro u hu
  obtain ⟨t, _, ht⟩ := List.mem_flatMap.1 hu
  exact h.one t u ht
theorem RowK.Own.nil (r : RowK α) (B : Nat) (w : World) : r.Own B w (.slice none 0 0) [] := World.ownsRow_nil _ _ _ _
theorem RowK.Own.keeps {S : Nat → Prop} (h : r.Own B w v l) (hk : Keeps S w w') (hs : ∀ g, v.ownBlock = some g → ¬ S g) : r.Own B w' v l := own_keeps h hk hs
theorem RowK.Own.later (h : r.Own B w v l) (hb : Below w.heap.size w w') : r.Own B w' v l := h.keeps (S := fun _ => False) (.of_below hb) (fun _ _ => id)
theorem RowK.Own.lt (h : r.Own B w v l) : ∀ g, v.ownBlock = some g → B ≤ g ∧ g < w.heap.size := fun g hg => World.ownsRow.lt h g hg
theorem RowK.Own.slice (h : r.Own B w v l) : ∃ p c, v = .slice p l.length c := own_slice h
theorem RowK.Own.mono (h : r.Own B w v l) (hb : B' ≤ B) : r.Own B' w v l := by
  obtain ⟨h1, h2 | ⟨g, cap, cur, h2, h3, hr⟩⟩ := h
  · exact ⟨h1, .inl h2⟩
  · exact ⟨h1, .inr ⟨g, cap, cur, h2, Nat.le_trans hb h3, hr⟩⟩
theorem RowK.Own.cells (h : r.Own B w v l) (hn : 0 < l.length) : ∃ g c, v = .slice (some ⟨g, 0, none⟩) l.length c ∧ l.length ≤ c ∧ B ≤ g ∧ g < w.heap.size ∧ ∀ (i : Nat) (u : Value), (r.cells l)[i]? = some u → w.cell? ⟨g, i, none⟩ = some u := by
  obtain ⟨g, c, e, hc, hg, hcell⟩ := (RowAt.of_own h).cell hn
  exact ⟨g, c, e, hc, (h.lt g (by rw [e]; rfl)).1, hg, hcell⟩
theorem RowK.Own.blk_ne {g : Nat} {T : TypeId} {cs : Array Value} (h : r.Own B w v l) (hg : Blk w g T cs) (hne : r.e ≠ T) : v.ownBlock ≠ some g := own_blk_ne h hg hne
theorem RowK.Own.at_ (ok : r.Ok P) {p : Option Addr} {n c : Nat} (h : r.Own B w (.slice p n c) l) : r.At w p l := by
  intro k x hx
  have hlt := (List.getElem?_eq_some_iff.1 hx).1
  obtain ⟨g, c', hv, _, _, hg, hcell⟩ := h.cells (by omega)
  obtain rfl : p = some ⟨g, 0, none⟩ := by injection hv
  refine ⟨_, rfl, hg, fun j u hu => ?_⟩
  have hj := (List.getElem?_eq_some_iff.1 hu).1
  rw [ok.len] at hj
  rw [addr_at]
  exact hcell _ u ((ok.cells_at l k j x hx hj).trans hu)
theorem RowK.At.below {p : Option Addr} (h : r.At w p l) (hb : Below w.heap.size w w') : r.At w' p l := by
  intro k x hx
  obtain ⟨a, hp, hl, hc⟩ := h k x hx
  exact ⟨a, hp, Nat.lt_of_lt_of_le hl hb.size, fun j u hu => (hb.cell (by rw [addK_blk]; exact hl)).trans (hc j u hu)⟩
/-- the cells of a block of one element are this element's -/
def BlkIs (w : World) (g : Nat) (xs : List Value) : Prop := ∀ j u, xs[j]? = some u → w.cell? ⟨g, j, none⟩ = some u
theorem RowK.Own.app (ok : r.Ok P) {t : α} {g : Nat} (h : r.Own B w v l) (hB : B ≤ w.heap.size) (hg : BlkIs w g (r.en t)) (hn : l.length ≤ 1000000) :
    ∃ p c w', (dappOp #[r.s, r.s] r.s #[v, .slice (some ⟨g, 0, none⟩) 1 1]).run P w = .ok (.slice p (l.length + 1) c) w' ∧ r.Own B w' (.slice p (l.length + 1) c) (l ++ [t]) ∧ Keeps (fun j => v.ownBlock = some j) w w' ∧ ((Value.slice p (l.length + 1) c).ownBlock = v.ownBlock ∨ (Value.slice p (l.length + 1) c).ownBlock = some w.heap.size) := by
  obtain ⟨i0, z, b, hi, hz0, hz1, hz2, hz3, hb⟩ := ok.info
  obtain ⟨v', w', h2, h3, h4, _, h5⟩ := run_append_own_at (P := P) w B r.s r.s r.e i0 z r.K b ok.hs hi hz0 hz1 hz2 hz3 ok.pos v l.length _ h ⟨g, 0, none⟩ 1 1 (r.cells [t]) (ok.cells_len [t]) (by
    intro j u hj
    rw [addr_at]
    rw [RowK.cells_one] at hj
    exact hg j u hj) (ok.cells_one_cell _) (by unfold maxLen; omega) (Nat.le_trans (Nat.mul_le_mul (show l.length + 1 ≤ 1000001 by omega) hb) (by decide)) hB
  obtain ⟨p, c, rfl⟩ := own_slice h3
  refine ⟨p, c, w', h2, ?_, (Keeps.refl _ w).grown h4 fun k e => .inl e, h5⟩
  rw [← RowK.cells_app] at h3
  unfold RowK.Own
  rw [List.length_append]
  exact h3
/-- what can be appended, from Wd on: m elements -/
def RowK.Can (r : RowK α) (P : Program) (Wd : World) (x : Value) (m : Nat) (news : List α) : Prop := ∀ W, Below Wd.heap.size Wd W → ∀ (Bz : Nat) v l, Bz ≤ Wd.heap.size → l.length ≤ 400000 → r.Own Bz W v l → ∃ p c w', (dappOp #[r.s, r.s] r.s #[v, x]).run P W = .ok (.slice p (l.length + m) c) w' ∧ r.Own Bz w' (.slice p (l.length + m) c) (l ++ news) ∧ Keeps (fun j => v.ownBlock = some j) W w' ∧ ((Value.slice p (l.length + m) c).ownBlock = v.ownBlock ∨ (Value.slice p (l.length + m) c).ownBlock = some W.heap.size)
theorem RowK.can_nil (ok : r.Ok P) {Wd : World} : r.Can P Wd (.slice none 0 0) 0 [] := by
  intro W _ Bz v l hB hl ho
  obtain ⟨i0, z, b, hi, hz0, hz1, hz2, hz3, hb⟩ := ok.info
  obtain ⟨p, c, rfl⟩ := ho.slice
  refine ⟨p, c, W, ?_, by rw [List.append_nil]; exact ho, Keeps.refl _ _, .inl rfl⟩
  exact run_append_owned_none W Bz _ _ _ i0 r.K ok.hs hi _ l.length _ ho
theorem RowK.can_row (ok : r.Ok P) {Wd : World} {a : Addr} {m c : Nat} {news : List α} (hm : news.length = m) (hm2 : m ≤ 400000) (ha : m = 0 ∨ a.block < Wd.heap.size) (hc : ∀ j u, (r.cells news)[j]? = some u → Wd.cell? (a.add j) = some u) : r.Can P Wd (.slice (some a) m c) m news := by
  intro W hW Bz v l hB hl ho
  obtain ⟨i0, z, b, hi, hz0, hz1, hz2, hz3, hb⟩ := ok.info
  obtain ⟨v', w', h2, h3, h4, _, h5⟩ := run_append_own_at (P := P) W Bz r.s r.s r.e i0 z r.K b ok.hs hi hz0 hz1 hz2 hz3 ok.pos v l.length _ ho a m c (r.cells news) (by rw [ok.cells_len, hm]) (by
    intro j u hj
    rcases ha with ha | ha
    · have : news = [] := List.eq_nil_of_length_eq_zero (by omega)
      rw [this] at hj; simp [RowK.cells] at hj
    · rw [← hc j u hj]
      exact hW.cell (by rw [addK_blk]; exact ha)) (ok.cells_one_cell _) (by unfold maxLen; omega) (Nat.le_trans (Nat.mul_le_mul (show l.length + m ≤ 800000 by omega) hb) (by decide)) (Nat.le_trans hB hW.size)
  obtain ⟨p, c', rfl⟩ := own_slice h3
  refine ⟨p, c', w', h2, ?_, (Keeps.refl _ W).grown h4 fun k e => .inl e, h5⟩
  rw [← RowK.cells_app] at h3
  unfold RowK.Own
  rw [List.length_append, hm]
  exact h3
theorem RowK.can_at (ok : r.Ok P) {Wd : World} {p : Option Addr} {m c : Nat} {news : List α} (h : r.At Wd p news) (hm : news.length = m) (hm2 : m ≤ 400000) (hp : p = none → c = 0) : r.Can P Wd (.slice p m c) m news := by
  cases p with
  | none =>
    obtain rfl : news = [] := by
      cases news with
      | nil => rfl
      | cons t l => obtain ⟨_, e, _⟩ := h 0 t rfl; cases e
    obtain rfl : m = 0 := by simpa using hm.symm
    rw [hp rfl]
    exact RowK.can_nil ok
  | some a =>
    by_cases h0 : news.length = 0
    · exact RowK.can_row ok hm hm2 (.inl (by omega)) (fun j u hj => by
        obtain rfl : news = [] := List.eq_nil_of_length_eq_zero h0
        simp [RowK.cells] at hj)
    · obtain ⟨a', e, hl, _⟩ := h 0 _ (List.getElem?_eq_getElem (show 0 < news.length by omega))
      obtain rfl := Option.some.inj e
      refine RowK.can_row ok hm hm2 (.inr hl) (fun j u hj => ?_)
      have hjl := (List.getElem?_eq_some_iff.1 hj).1
      rw [ok.cells_len] at hjl
      have hk : j / r.K < news.length := Nat.div_lt_of_lt_mul (by rw [Nat.mul_comm]; exact hjl)
      have hx := List.getElem?_eq_getElem hk
      obtain ⟨a', e, _, hc⟩ := h _ _ hx
      obtain rfl := Option.some.inj e
      have hd : j / r.K * r.K + j % r.K = j := by rw [Nat.mul_comm]; exact Nat.div_add_mod j r.K
      have e1 := ok.cells_at news (j / r.K) (j % r.K) _ hx (Nat.mod_lt _ ok.pos)
      rw [hd, hj] at e1
      have := hc _ u e1.symm
      rwa [hd] at this
theorem addK_zero (a : Addr) : a.add 0 = a := by unfold Addr.add; rw [if_pos rfl]
/-- a slice of a slice, kept shut -/
def dslK (t : TypeId) (x : Value) (lo hi mx : Option Value) : Sem Value := Instr.sliceAt t x lo hi mx
theorem dslK_op (t : TypeId) (x : Value) (lo hi mx : Option Value) : Instr.sliceAt t x lo hi mx = dslK t x lo hi mx := rfl
theorem RowK.Ok.low_run (ok : r.Ok P) (p : Option Addr) (n c i : Nat) (hi : i ≤ c) (W : World) : (dslK r.s (.slice p n c) none (some (.int .i64 i)) none).run P W = .ok (.slice p i c) W := by
  have h1 : (0 : Int) ≤ (i : Int) := by omega
  unfold dslK
  simp [Instr.sliceAt, Instr.slice, Instr.sliceBounds, Instr.sliceBound, run_underlying ok.hs, ok.size, go_sem, h1, hi]
theorem RowK.Ok.high_run (ok : r.Ok P) (p : Option Addr) (n c i : Nat) (hi : i ≤ n) (W : World) : (dslK r.s (.slice p n c) (some (.int .i64 i)) none none).run P W = .ok (.slice (if c = i then p else p.map (·.add (i * r.K))) (n - i) (c - i)) W := by
  have h1 : (0 : Int) ≤ (i : Int) := by omega
  unfold dslK
  simp [Instr.sliceAt, Instr.slice, Instr.sliceBounds, Instr.sliceBound, run_underlying ok.hs, ok.size, go_sem, h1, hi]
theorem RowK.Own.at_take (ok : r.Ok P) {p : Option Addr} {n c i : Nat} (h : r.Own B w (.slice p n c) l) : r.At w p (l.take i) := by
  intro k x hx
  rw [List.getElem?_take] at hx
  split at hx
  · exact h.at_ ok k x hx
  · cases hx
theorem RowK.Own.none_cap {n c : Nat} (h : r.Own B w (.slice none n c) l) : n = 0 ∧ c = 0 := by
  obtain ⟨_, ⟨e, _⟩ | ⟨g, cap, cur, e, _⟩⟩ := h
  · injection e with _ e1 e2; exact ⟨e1, e2⟩
  · cases e
theorem RowK.can_low (ok : r.Ok P) {p : Option Addr} {c i : Nat} (h : r.Own B w (.slice p l.length c) l) (hi : i ≤ l.length) (hl : l.length ≤ 400000) : r.Can P w (.slice p i c) i (l.take i) :=
  RowK.can_at ok (h.at_take ok) (by rw [List.length_take]; omega) (by omega) (fun e => by subst e; exact h.none_cap.2)
theorem RowK.can_high (ok : r.Ok P) {p : Option Addr} {c i : Nat} (h : r.Own B w (.slice p l.length c) l) (hi : i ≤ l.length) (hl : l.length ≤ 400000) : r.Can P w (.slice (if c = i then p else p.map (·.add (i * r.K))) (l.length - i) (c - i)) (l.length - i) (l.drop i) := by
  refine RowK.can_at ok ?_ List.length_drop (by omega) (fun e => ?_)
  · intro k x hx
    rw [List.getElem?_drop] at hx
    have hlt := (List.getElem?_eq_some_iff.1 hx).1
    obtain ⟨g, c', hv, hnc, _, hg, hcell⟩ := h.cells (by omega)
    obtain ⟨rfl, rfl⟩ : p = some ⟨g, 0, none⟩ ∧ c = c' := by injection hv with h1 _ h3; exact ⟨h1, h3⟩
    obtain ⟨a, e, _, hc⟩ := h.at_ ok _ _ hx
    obtain rfl := Option.some.inj e
    rw [if_neg (by omega)]
    refine ⟨_, rfl, by rw [addK_blk]; exact hg, fun j u hu => ?_⟩
    have := hc j u hu
    rw [Nat.add_mul, Nat.add_assoc] at this
    rw [addK_add]
    exact this
  · have h2 : p = none := by
      split at e
      · exact e
      · cases p with
        | none => rfl
        | some a => cases e
    subst h2
    rw [h.none_cap.2]
    exact Nat.zero_sub _
/-- what is left of three appends -/
structure ThreeK (r : RowK α) (P : Program) (Wd W1 W2 : World) (v0 x1 x3 : Value) (o i m : Nat) (n1 n3 : List α) (t : α) (p1 : Option Addr) (c1 : Nat) (w1 : World) (p2 : Option Addr) (c2 : Nat) (w2 : World) (p3 : Option Addr) (c3 : Nat) (w3 : World) : Prop where
  r1 : (dappOp #[r.s, r.s] r.s #[v0, x1]).run P W1 = .ok (.slice p1 i c1) w1
  r2 : (dappOp #[r.s, r.s] r.s #[.slice p1 i c1, .slice (some ⟨o, 0, none⟩) 1 1]).run P W2 = .ok (.slice p2 (i + 1) c2) w2
  r3 : (dappOp #[r.s, r.s] r.s #[.slice p2 (i + 1) c2, x3]).run P w2 = .ok (.slice p3 (i + 1 + m) c3) w3
  b1 : Below Wd.heap.size Wd w1
  b2 : Below Wd.heap.size Wd w2
  b3 : Below Wd.heap.size Wd w3
  own : r.Own Wd.heap.size w3 (.slice p3 (i + 1 + m) c3) (n1 ++ t :: n3)
theorem RowK.Can.go {Wd : World} {x : Value} {m : Nat} {news : List α} (h : r.Can P Wd x m news) {W : World} (hW : Below Wd.heap.size Wd W) {v : Value} {l : List α} (hl : l.length ≤ 400000) (ho : r.Own Wd.heap.size W v l) : ∃ p c w', (dappOp #[r.s, r.s] r.s #[v, x]).run P W = .ok (.slice p (l.length + m) c) w' ∧ r.Own Wd.heap.size w' (.slice p (l.length + m) c) (l ++ news) ∧ Keeps (fun j => v.ownBlock = some j) W w' ∧ Below Wd.heap.size Wd w' := by
  obtain ⟨p, c, w', h1, h2, h3, _⟩ := h W hW _ v l (Nat.le_refl _) hl ho
  exact ⟨p, c, w', h1, h2, h3, Keeps.below_step hW hW.size h3 fun j e => (ho.lt j e).1⟩
theorem threeK_one (ok : r.Ok P) {Wd W1 : World} {v0 x1 x3 : Value} {o i m : Nat} {n1 n3 : List α} {t : α} {cs : Array Value} (hi : n1.length = i) (hi2 : i ≤ 150000) (h0 : Below Wd.heap.size Wd W1) (ho : r.Own Wd.heap.size W1 v0 []) (c1 : r.Can P Wd x1 i n1) (c3 : r.Can P Wd x3 m n3)
    (hb : Blk W1 o r.e cs) (hcs : cs.toList = r.en t) (hne : v0.ownBlock ≠ some o) : ∃ p1 k1 w1 p2 k2 w2 p3 k3 w3, ThreeK r P Wd W1 w1 v0 x1 x3 o i m n1 n3 t p1 k1 w1 p2 k2 w2 p3 k3 w3 := by
  obtain ⟨p1, k1, w1, r1, o1, q1, b1⟩ := c1.go h0 (by simp) ho
  rw [show ([] : List α).length + i = i by simp] at r1 o1
  rw [List.nil_append] at o1
  have hb1 := hb.keeps q1 hne
  obtain ⟨p2, k2, w2, r2, o2, q2, _⟩ := o1.app ok (t := t) b1.size (g := o) (fun j u hj => by rw [hb1.cell]; rw [← hcs] at hj; simpa using hj) (by omega)
  rw [hi] at r2 o2
  have b2 := Keeps.below_step b1 b1.size q2 fun j e => (o1.lt j e).1
  obtain ⟨p3, k3, w3, r3, o3, q3, b3⟩ := c3.go b2 (by simp; omega) o2
  rw [show (n1 ++ [t]).length + m = i + 1 + m by simp [hi]] at r3 o3
  rw [List.append_assoc] at o3
  exact ⟨p1, k1, w1, p2, k2, w2, p3, k3, w3, r1, r2, r3, b1, b2, b3, o3⟩
theorem threeK_late (ok : r.Ok P) {Wd W1 : World} {v0 x1 x3 : Value} {i m : Nat} {n1 n3 : List α} {t : α} {cs : Array Value} (hcs : cs.toList = r.en t) (hi : n1.length = i) (hi2 : i ≤ 150000) (h0 : Below Wd.heap.size Wd W1) (ho : r.Own Wd.heap.size W1 v0 []) (c1 : r.Can P Wd x1 i n1) (c3 : r.Can P Wd x3 m n3) :
    ∃ p1 k1 w1 p2 k2 w2 p3 k3 w3, ThreeK r P Wd W1 (w1.alloc (.cells cs r.e)) v0 x1 x3 w1.heap.size i m n1 n3 t p1 k1 w1 p2 k2 w2 p3 k3 w3 := by
  obtain ⟨p1, k1, w1, r1, o1, q1, b1⟩ := c1.go h0 (by simp) ho
  rw [show ([] : List α).length + i = i by simp] at r1 o1
  rw [List.nil_append] at o1
  have bA := b1.alloc b1.size (.cells cs r.e)
  have oA := o1.later ((Below.refl w1.heap.size w1).alloc (Nat.le_refl _) (.cells cs r.e))
  obtain ⟨p2, k2, w2, r2, o2, q2, _⟩ := oA.app ok (t := t) bA.size (g := w1.heap.size) (fun j u hj => by rw [(Blk.new w1 r.e cs).cell]; rw [← hcs] at hj; simpa using hj) (by omega)
  rw [hi] at r2 o2
  have b2 := Keeps.below_step bA bA.size q2 fun j e => (oA.lt j e).1
  obtain ⟨p3, k3, w3, r3, o3, q3, b3⟩ := c3.go b2 (by simp; omega) o2
  rw [show (n1 ++ [t]).length + m = i + 1 + m by simp [hi]] at r3 o3
  rw [List.append_assoc] at o3
  exact ⟨p1, k1, w1, p2, k2, w2, p3, k3, w3, r1, r2, r3, b1, b2, b3, o3⟩
end
end Go.Proofs.YtabcdodjkfknlaaGreatDoor
