/- A disk that lies behind a world, told in the document's words: the calls on it. -/
import Derived.Test.YtgclancneohpbaaRC
namespace Go.Proofs.Ytgclancneohpbaa
open Go.RowKit Go.Maps Go.Shelf
theorem burn_room (k : Dk) : k.burn.room = k.room := (Go.Proofs.Ytgclancneohpbaa.burn_same k).2.2.2.2.1
theorem created_room (k : Dk) (f : Nat) (s : ByteArray) : (k.created f s).room ≤ k.room + 1 := by
  unfold Dk.created
  split
  · split
    · show (k.upd f ⟨[], 0⟩).burn.room + 1 ≤ _
      rw [burn_room]; exact Nat.le_refl _
    · rw [burn_room]; exact Nat.le_succ _
  · exact Nat.le_succ _
theorem apped_room (k : Dk) (s b : List UInt8) : (k.apped s b).room ≤ k.room + 1 := by
  unfold Dk.apped
  split
  · split
    · exact Nat.le_succ _
    · split
      · show k.burn.room + 1 ≤ _
        rw [burn_room]; exact Nat.le_refl _
      · rw [burn_room]; exact Nat.le_succ _
  · exact Nat.le_succ _
theorem synced_room (k : Dk) (s : List UInt8) : (k.synced s).room ≤ k.room := by
  unfold Dk.synced
  split
  · split
    · show k.burn.room ≤ _
      rw [burn_room]; exact Nat.le_refl _
    · rw [burn_room]; exact Nat.le_refl _
  · exact Nat.le_refl _
theorem syncedDir_room (k : Dk) : k.syncedDir.room ≤ k.room := by
  unfold Dk.syncedDir
  split
  · exact Nat.le_refl _
  · split
    · show k.burn.room ≤ _
      rw [burn_room]; exact Nat.le_refl _
    · rw [burn_room]; exact Nat.le_refl _
theorem did_room (k : Dk) (a : DAct) : (k.did a).room = k.room + 1 := by
  show k.burn.room + 1 = _
  rw [burn_room]
theorem renamed_room (k : Dk) (a b : ByteArray) : (k.renamed a b).room ≤ k.room + 1 := by
  unfold Dk.renamed
  split
  · split
    · split
      · rw [did_room]; exact Nat.le_refl _
      · rw [burn_room]; exact Nat.le_succ _
    · exact Nat.le_succ _
  · exact Nat.le_succ _
theorem removed_room (k : Dk) (a : ByteArray) : (k.removed a).room ≤ k.room + 1 := by
  unfold Dk.removed
  split
  · split
    · show (k.did ⟨a, ⟨#[]⟩, none⟩).room ≤ _
      rw [did_room]; exact Nat.le_refl _
    · rw [burn_room]; exact Nat.le_succ _
  · exact Nat.le_succ _
/-- the disk at block D is the document's r; at most m things were done to it -/
def At (w0 w : World) (D : Nat) (r : RD) (m : Nat) : Prop := ∃ k bl, Has w0 w D k ∧ Sim k r bl ∧ k.room ≤ m
section
variable {w0 w w1 w' : World} {D m : Nat} {r : RD}
theorem At.below (h : At w0 w D r m) : Below w0.heap.size w0 w := by obtain ⟨k, bl, h1, h2, h3⟩ := h; exact h1.below
theorem At.later (h : At w0 w D r m) (hb : Below w.heap.size w w1) : At w0 w1 D r m := by obtain ⟨k, bl, h1, h2, h3⟩ := h; exact ⟨k, bl, h1.later hb, h2, h3⟩
theorem At.more (h : At w0 w D r m) {m' : Nat} (hm : m ≤ m') : At w0 w D r m' := by obtain ⟨k, bl, h1, h2, h3⟩ := h; exact ⟨k, bl, h1, h2, Nat.le_trans h3 hm⟩
theorem new_at (cap : Int) (w : World) : Calls Try.prog 22 #[.int .i64 cap] w fun e w' => e = .returned (.pointer (some ⟨w.heap.size + 2, 0, none⟩)) ∧ At w w' (w.heap.size + 2) (RD.new cap) 0 :=
  (new_has cap w).mono fun _ _ ⟨h1, h2⟩ => ⟨h1, _, _, h2, Sim.new cap, Nat.le_refl _⟩
theorem create_at (h : At w0 w D r m) (s : ByteArray) (hs : s.size ≤ maxLen) (hm : m < 4000) : Calls Try.prog 23 #[.pointer (some ⟨D, 0, none⟩), .string s] w fun e w' => e = .returned (.int .i64 (r.createE s.data.toList)) ∧ At w0 w' D (r.create s.data.toList) (m + 1) := by
  obtain ⟨k, bl, h1, h2, h3⟩ := h
  refine (create_has h1 s hs (by omega)).mono fun e w' ⟨he, f, hf, hh⟩ => ?_
  obtain ⟨bl', hs'⟩ := h2.create hf s
  exact ⟨by rw [he, h2.createE], _, bl', hh, hs', Nat.le_trans (created_room k f s) (by omega)⟩
theorem append_at (h : At w0 w D r m) (hb : Below w.heap.size w w1) (s : ByteArray) {v : Value} {b : List UInt8} (hv : Bytes w1 v b) (hn : ∀ g, v.ownBlock = some g → w.heap.size ≤ g ∨ g < w0.heap.size) (hs : s.size ≤ maxLen) (hm : m < 4000) (hl : b.length ≤ 65536) :
    Calls Try.prog 25 #[.pointer (some ⟨D, 0, none⟩), .string s, v] w1 fun e w' => e = .returned (.int .i64 (r.appE s.data.toList b.length)) ∧ At w0 w' D (r.append s.data.toList b) (m + 1) := by
  obtain ⟨k, bl, h1, h2, h3⟩ := h
  exact (append_has h1 hb s hv hn hs (by omega) hl).mono fun e w' ⟨he, hh⟩ => ⟨by rw [he, h2.appE], _, bl, hh, h2.append _ _, Nat.le_trans (apped_room k _ _) (by omega)⟩
theorem sync_at (h : At w0 w D r m) (s : ByteArray) (hs : s.size ≤ maxLen) : Calls Try.prog 38 #[.pointer (some ⟨D, 0, none⟩), .string s] w fun e w' => e = .returned (.int .i64 (r.syncE s.data.toList)) ∧ At w0 w' D (r.sync s.data.toList) m := by
  obtain ⟨k, bl, h1, h2, h3⟩ := h
  exact (sync_has h1 s hs).mono fun e w' ⟨he, hh⟩ => ⟨by rw [he, h2.syncE], _, bl, hh, h2.sync _, Nat.le_trans (synced_room k _) h3⟩
theorem syncDir_at (h : At w0 w D r m) : Calls Try.prog 39 #[.pointer (some ⟨D, 0, none⟩)] w fun e w' => e = .returned (.int .i64 r.syncDirE) ∧ At w0 w' D r.syncDir m := by
  obtain ⟨k, bl, h1, h2, h3⟩ := h
  exact (syncDir_has h1).mono fun e w' ⟨he, hh⟩ => ⟨by rw [he, h2.syncDirE], _, bl, hh, h2.syncDir, Nat.le_trans (syncedDir_room k) h3⟩
theorem fuse_at (h : At w0 w D r m) (n : Int) (hn : n < 9223372036854775808) : Calls Try.prog 24 #[.pointer (some ⟨D, 0, none⟩), .int .i64 n] w fun e w' => e = .returned (.tuple #[]) ∧ At w0 w' D (r.fused n) m := by
  obtain ⟨k, bl, h1, h2, h3⟩ := h
  exact (fuse_has h1 n hn).mono fun e w' ⟨he, hh⟩ => ⟨he, _, bl, hh, h2.fuse n, h3⟩
theorem used_at (h : At w0 w D r m) : Calls Try.prog 26 #[.pointer (some ⟨D, 0, none⟩)] w fun e w' => e = .returned (.int .i64 r.usedA) ∧ w = w' := by
  obtain ⟨k, bl, h1, h2, h3⟩ := h
  exact (used_has h1).mono fun e w' ⟨he, hh⟩ => ⟨by rw [he, h2.usedA], hh.symm⟩
def NamesPost (w : World) (l : List (List UInt8)) (e : Ending) (w' : World) : Prop := ∃ v, e = .returned v ∧ w'.ownsRow w.heap.size 9 1 v l.length (l.map encStr) ∧ l.length ≤ 100000 ∧ Below w.heap.size w w'
theorem list_at (h : At w0 w D r m) (hm : m ≤ 4000) : Calls Try.prog 27 #[.pointer (some ⟨D, 0, none⟩)] w (NamesPost w r.list) := by
  obtain ⟨k, bl, h1, h2, h3⟩ := h
  refine (list_has h1 (by omega)).mono fun e w' ⟨v, ns, he, hN, hl, _, hr, hb⟩ => ?_
  obtain rfl := h2.names hN
  exact ⟨v, he, hr, hl, hb⟩
theorem read_at (h : At w0 w D r m) (s : ByteArray) (hm : m ≤ 4000) (hs : s.size ≤ maxLen) : Calls Try.prog 29 #[.pointer (some ⟨D, 0, none⟩), .string s] w (ReadPost w (r.findE s.data.toList) (r.readB s.data.toList)) := by
  obtain ⟨k, bl, h1, h2, h3⟩ := h
  have := read_has h1 s (by omega) hs
  rw [h2.findE, h2.readB] at this
  exact this
theorem rename_at (h : At w0 w D r m) (s t : ByteArray) (hs : s.size ≤ maxLen) (ht : t.size ≤ maxLen) (hm : m < 4000) : Calls Try.prog 40 #[.pointer (some ⟨D, 0, none⟩), .string s, .string t] w fun e w' => e = .returned (.int .i64 (r.renameE s.data.toList t.data.toList)) ∧ At w0 w' D (r.rename s.data.toList t.data.toList) (m + 1) := by
  obtain ⟨k, bl, h1, h2, h3⟩ := h
  exact (rename_has h1 s t hs ht (by omega)).mono fun e w' ⟨he, hh⟩ => ⟨by rw [he, h2.renameE], _, bl, hh, h2.rename s t, Nat.le_trans (renamed_room k s t) (by omega)⟩
theorem remove_at (h : At w0 w D r m) (s : ByteArray) (hs : s.size ≤ maxLen) (hm : m < 4000) : Calls Try.prog 30 #[.pointer (some ⟨D, 0, none⟩), .string s] w fun e w' => e = .returned (.int .i64 (r.removeE s.data.toList)) ∧ At w0 w' D (r.remove s.data.toList) (m + 1) := by
  obtain ⟨k, bl, h1, h2, h3⟩ := h
  exact (remove_has h1 s hs (by omega)).mono fun e w' ⟨he, hh⟩ => ⟨by rw [he, h2.removeE], _, bl, hh, h2.remove s, Nat.le_trans (removed_room k s) (by omega)⟩
theorem crash_at (h : At w0 w D r m) (hb : Below w.heap.size w w1) {v : Value} {keep : List UInt8} (hv : Bytes w1 v keep) (hn : ∀ g, v.ownBlock = some g → (w.heap.size ≤ g ∨ g < w0.heap.size) ∧ g < w1.heap.size) (hm : m ≤ 4000) (hl : keep.length ≤ 1000000) :
    Calls Try.prog 28 #[.pointer (some ⟨D, 0, none⟩), v] w1 fun e w' => e = .returned (.tuple #[]) ∧ At w0 w' D (r.crash keep) m := by
  obtain ⟨k, bl, h1, h2, h3⟩ := h
  refine (crash_has h1 hb hv hn (by omega) hl).mono fun e w' ⟨he, ns, hN, hh⟩ => ⟨he, _, bl, hh, h2.crash ?_ hN, h3⟩
  obtain ⟨_, _, O, hd⟩ := h1
  exact hd.sound.1
end
end Go.Proofs.Ytgclancneohpbaa
