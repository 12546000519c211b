/- The program's disk and the document's, beside one another. -/
import Derived.Test.YtgclancneohpbaaDAct
namespace Go.Proofs.Ytgclancneohpbaa
open Go.RowKit Go.Maps Go.Shelf
structure TwoS (w0 w : World) (L : Nat → Prop) (D g : Nat) (rp rr : RD) (m : Nat) (k : Dk) (bl : List Nat) (O O2 : Nat → Prop) : Prop where
  ok : k.ok
  disk : Disk w w0.heap.size D O k
  sim : Sim k rp bl
  room : k.room ≤ m
  ref : RDisk w w0.heap.size g O2 rr
  rok : RDok rr m
  apart : ∀ j, O j → ¬ O2 j
  held : ∀ j, L j → ¬ O j ∧ ¬ O2 j ∧ j < w.heap.size
  below : Below w0.heap.size w0 w
def Two (w0 w : World) (L : Nat → Prop) (D g : Nat) (rp rr : RD) (m : Nat) : Prop := ∃ k bl O O2, TwoS w0 w L D g rp rr m k bl O O2
/-- what is left: the blocks of L stand -/
def TwoPost (w0 w : World) (L : Nat → Prop) (D g : Nat) (rp rr : RD) (m : Nat) (w' : World) : Prop := Two w0 w' L D g rp rr m ∧ Keeps (fun j => ¬ L j) w w'
section
variable {w0 w w1 w' : World} {L L' : Nat → Prop} {D g m m' : Nat} {rp rr rp' rr' : RD} {k k' : Dk} {bl bl' : List Nat} {O O2 : Nat → Prop}
theorem TwoS.prog (h : TwoS w0 w L D g rp rr m k bl O O2) (hg : Goes w w0.heap.size D O k' w') (hk : k'.ok) (hs : Sim k' rp' bl') (hr : k'.room ≤ m') (hm : m ≤ m') : TwoPost w0 w L D g rp' rr m' w' := by
  obtain ⟨⟨O', h1, h2⟩, h3⟩ := hg
  have hz := h3.size
  have hl := h.ref.lt
  have hd := h.disk.lt
  refine ⟨⟨k', bl', O', O2, hk, h1, hs, hr, h.ref.keeps h3 (fun j hj e => h.apart j e hj), h.rok.more hm, fun j hj e => ?_, fun j hj => ?_, h.below.trans (h3.below (fun j _ hj => (hd j hj).1) h.below.size)⟩, h3.mono fun j _ e hL => (h.held j hL).1 e⟩
  · rcases h2 j hj with h' | h'
    · exact h.apart j h' e
    · have := (hl j e).2; omega
  · obtain ⟨a1, a2, a3⟩ := h.held j hj
    refine ⟨fun e => ?_, a2, by omega⟩
    rcases h2 j e with h' | h'
    · exact a1 h'
    · omega
theorem TwoS.refd (h : TwoS w0 w L D g rp rr m k bl O O2) (hg : RGoes w w0.heap.size g O2 rr' w') (hk : RDok rr' m') (hm : m ≤ m') : TwoPost w0 w L D g rp rr' m' w' := by
  obtain ⟨⟨O', h1, h2⟩, h3⟩ := hg
  have hz := h3.size
  have hl := h.ref.lt
  have hd := h.disk.lt
  refine ⟨⟨k, bl, O, O', h.ok, h.disk.keeps h3 (fun j hj e => h.apart j hj e), h.sim, Nat.le_trans h.room hm, h1, hk, fun j hj e => ?_, fun j hj => ?_, h.below.trans (h3.below (fun j _ hj => (hl j hj).1) h.below.size)⟩, h3.mono fun j _ e hL => (h.held j hL).2.1 e⟩
  · rcases h2 j e with h' | h'
    · exact h.apart j hj h'
    · have := (hd j hj).2; omega
  · obtain ⟨a1, a2, a3⟩ := h.held j hj
    refine ⟨a1, fun e => ?_, by omega⟩
    rcases h2 j e with h' | h'
    · exact a2 h'
    · omega
theorem Two.later (h : Two w0 w L D g rp rr m) (hb : Below w.heap.size w w') : Two w0 w' L D g rp rr m := by
  obtain ⟨k, bl, O, O2, h⟩ := h
  have hz := hb.size
  exact ⟨k, bl, O, O2, h.ok, h.disk.later hb, h.sim, h.room, h.ref.later hb, h.rok, h.apart, fun j hj => ⟨(h.held j hj).1, (h.held j hj).2.1, by have := (h.held j hj).2.2; omega⟩, h.below.trans (hb.mono h.below.size)⟩
theorem Two.more (h : Two w0 w L D g rp rr m) (hm : m ≤ m') : Two w0 w L D g rp rr m' := by
  obtain ⟨k, bl, O, O2, h⟩ := h
  exact ⟨k, bl, O, O2, h.ok, h.disk, h.sim, Nat.le_trans h.room hm, h.ref, h.rok.more hm, h.apart, h.held, h.below⟩
theorem Two.less (h : Two w0 w L D g rp rr m) (hL : ∀ j, L' j → L j) : Two w0 w L' D g rp rr m := by
  obtain ⟨k, bl, O, O2, h⟩ := h
  exact ⟨k, bl, O, O2, h.ok, h.disk, h.sim, h.room, h.ref, h.rok, h.apart, fun j hj => h.held j (hL j hj), h.below⟩
/-- a block made since, or one that lay before all, is held, too -/
theorem Two.hold (h : Two w0 w L D g rp rr m) (hb : Below w.heap.size w w') (hL : ∀ j, L' j → L j ∨ (w.heap.size ≤ j ∧ j < w'.heap.size) ∨ j < w0.heap.size) : Two w0 w' L' D g rp rr m := by
  obtain ⟨k, bl, O, O2, h1⟩ := h
  have hz := hb.size
  have hz0 := h1.below.size
  have hl := h1.ref.lt
  have hd := h1.disk.lt
  refine ⟨k, bl, O, O2, h1.ok, h1.disk.later hb, h1.sim, h1.room, h1.ref.later hb, h1.rok, h1.apart, fun j hj => ?_, h1.below.trans (hb.mono hz0)⟩
  rcases hL j hj with h' | h' | h'
  · exact ⟨(h1.held j h').1, (h1.held j h').2.1, by have := (h1.held j h').2.2; omega⟩
  · exact ⟨fun e => by have := hd j e; omega, fun e => by have := hl j e; omega, h'.2⟩
  · exact ⟨fun e => by have := hd j e; omega, fun e => by have := hl j e; omega, by omega⟩
theorem Two.below (h : Two w0 w L D g rp rr m) : Below w0.heap.size w0 w := by obtain ⟨k, bl, O, O2, h⟩ := h; exact h.below
theorem Two.lt (h : Two w0 w L D g rp rr m) {j : Nat} (hj : L j) : j < w.heap.size := by obtain ⟨k, bl, O, O2, h⟩ := h; exact (h.held j hj).2.2
theorem TwoPost.trans {rp2 rr2 : RD} (h : TwoPost w0 w L D g rp rr m w1) (h' : TwoPost w0 w1 L D g rp2 rr2 m' w') : TwoPost w0 w L D g rp2 rr2 m' w' := ⟨h'.1, h.2.trans h'.2⟩
/-- the same asked of both, in either order -/
theorem two_orders {fp fr : Nat} {ap ar : Array Value} {E : RD → Int} {S : RD → RD}
    (hp : ∀ w1 rr1 m1, m1 ≤ m + 1 → Keeps (fun j => ¬ L j) w w1 → Two w0 w1 L D g rp rr1 m1 → Calls Try.prog fp ap w1 fun e w' => e = .returned (.int .i64 (E rp)) ∧ TwoPost w0 w1 L D g (S rp) rr1 (m1 + 1) w')
    (hr : ∀ w1 rp1 m1, m1 ≤ m + 1 → Keeps (fun j => ¬ L j) w w1 → Two w0 w1 L D g rp1 rr m1 → Calls Try.prog fr ar w1 fun e w' => e = .returned (.int .i64 (E rr)) ∧ TwoPost w0 w1 L D g rp1 (S rr) (m1 + 1) w')
    (h : Two w0 w L D g rp rr m) {loc : Nat} {T : TypeId} {cs : Array Value} (hl : L loc) (hb : Blk w loc T cs) :
    (Calls Try.prog fp ap w fun e w1 => e = .returned (.int .i64 (E rp)) ∧ (∀ i, w1.cell? ⟨loc, i, none⟩ = cs[i]?) ∧ Calls Try.prog fr ar w1 fun e w2 => e = .returned (.int .i64 (E rr)) ∧ (∀ i, w2.cell? ⟨loc, i, none⟩ = cs[i]?) ∧ TwoPost w0 w L D g (S rp) (S rr) (m + 2) w2) ∧
    (Calls Try.prog fr ar w fun e w1 => e = .returned (.int .i64 (E rr)) ∧ (∀ i, w1.cell? ⟨loc, i, none⟩ = cs[i]?) ∧ Calls Try.prog fp ap w1 fun e w2 => e = .returned (.int .i64 (E rp)) ∧ (∀ i, w2.cell? ⟨loc, i, none⟩ = cs[i]?) ∧ TwoPost w0 w L D g (S rp) (S rr) (m + 2) w2) := by
  constructor
  · refine (hp w rr m (by omega) (Keeps.refl _ _) h).mono ?_
    rintro e w1 ⟨he, h1⟩
    have b1 := hb.keeps h1.2 (fun e => e hl)
    refine ⟨he, b1.cell, (hr w1 (S rp) (m + 1) (by omega) h1.2 h1.1).mono ?_⟩
    rintro e w2 ⟨he, h2⟩
    exact ⟨he, (b1.keeps h2.2 (fun e => e hl)).cell, h1.trans h2⟩
  · refine (hr w rp m (by omega) (Keeps.refl _ _) h).mono ?_
    rintro e w1 ⟨he, h1⟩
    have b1 := hb.keeps h1.2 (fun e => e hl)
    refine ⟨he, b1.cell, (hp w1 (S rr) (m + 1) (by omega) h1.2 h1.1).mono ?_⟩
    rintro e w2 ⟨he, h2⟩
    exact ⟨he, (b1.keeps h2.2 (fun e => e hl)).cell, h1.trans h2⟩
end
section
variable {w0 w : World} {L : Nat → Prop} {D g m : Nat} {rp rr : RD}
theorem p_create (h : Two w0 w L D g rp rr m) (hm : m < 4000) (s : ByteArray) (hs : s.size ≤ maxLen) : Calls Try.prog 23 #[.pointer (some ⟨D, 0, none⟩), .string s] w fun e w' => e = .returned (.int .i64 (rp.createE s.data.toList)) ∧ TwoPost w0 w L D g (rp.create s.data.toList) rr (m + 1) w' := by
  obtain ⟨k, bl, O, O2, t⟩ := h
  have hr := t.room
  refine (create_calls k _ D O s w t.disk t.ok hs (by omega) t.below.size).mono ?_
  rintro e w' ⟨he, f, hf, hg⟩
  have hn : k.file f = none := t.disk.sound.2 f hf
  obtain ⟨bl', hs'⟩ := t.sim.create hn s
  exact ⟨by rw [he, t.sim.createE], t.prog hg (Dk.created_ok t.ok (by omega) hs) hs' (Nat.le_trans (created_room k f s) (by omega)) (Nat.le_succ m)⟩
theorem r_create (h : Two w0 w L D g rp rr m) (hm : m < 4000) (s : ByteArray) (hs : s.size ≤ maxLen) : Calls Try.prog 54 #[.pointer (some ⟨g, 0, none⟩), .string s] w fun e w' => e = .returned (.int .i64 (rr.createE s.data.toList)) ∧ TwoPost w0 w L D g rp (rr.create s.data.toList) (m + 1) w' := by
  obtain ⟨k, bl, O, O2, t⟩ := h
  exact (rcreate_calls rr _ g m O2 s w t.ref t.rok (by omega) hs).mono fun e w' ⟨he, hg⟩ => ⟨he, t.refd hg (t.rok.create _) (Nat.le_succ m)⟩
theorem p_append (h : Two w0 w L D g rp rr m) (hm : m < 4000) (s : ByteArray) (hs : s.size ≤ maxLen) {v : Value} {b : List UInt8} (hv : Bytes w v b) (hL : ∀ j, v.ownBlock = some j → b ≠ [] → L j) (hb : b.length ≤ 65536) : Calls Try.prog 25 #[.pointer (some ⟨D, 0, none⟩), .string s, v] w fun e w' => e = .returned (.int .i64 (rp.appE s.data.toList b.length)) ∧ TwoPost w0 w L D g (rp.append s.data.toList b) rr (m + 1) w' := by
  obtain ⟨k, bl, O, O2, t⟩ := h
  have hr := t.room
  exact (append_calls k _ D O s v b w t.disk t.ok (by omega) hs t.below.size hv (fun j hj hn => (t.held j (hL j hj hn)).1) hb).mono fun e w' ⟨he, hg⟩ => ⟨by rw [he, t.sim.appE], t.prog hg (Dk.apped_ok t.ok hb) (t.sim.append _ _) (Nat.le_trans (apped_room k _ _) (by omega)) (Nat.le_succ m)⟩
theorem r_append (h : Two w0 w L D g rp rr m) (hm : m < 4000) (s : ByteArray) (hs : s.size ≤ maxLen) {v : Value} {b : List UInt8} (hv : Bytes w v b) (hL : ∀ j, v.ownBlock = some j → b ≠ [] → L j) (hb : b.length ≤ 65536) : Calls Try.prog 55 #[.pointer (some ⟨g, 0, none⟩), .string s, v] w fun e w' => e = .returned (.int .i64 (rr.appE s.data.toList b.length)) ∧ TwoPost w0 w L D g rp (rr.append s.data.toList b) (m + 1) w' := by
  obtain ⟨k, bl, O, O2, t⟩ := h
  exact (rappend_calls rr _ g m O2 s v b w t.ref t.rok (by omega) hs hv (fun j hj hn => (t.held j (hL j hj hn)).2.1) hb).mono fun e w' ⟨he, hg⟩ => ⟨he, t.refd hg (t.rok.append _ hb) (Nat.le_succ m)⟩
theorem p_sync (h : Two w0 w L D g rp rr m) (s : ByteArray) (hs : s.size ≤ maxLen) : Calls Try.prog 38 #[.pointer (some ⟨D, 0, none⟩), .string s] w fun e w' => e = .returned (.int .i64 (rp.syncE s.data.toList)) ∧ TwoPost w0 w L D g (rp.sync s.data.toList) rr (m + 1) w' := by
  obtain ⟨k, bl, O, O2, t⟩ := h
  have hr := t.room
  exact (sync_calls k _ D O s w t.disk t.ok hs).mono fun e w' ⟨he, hg⟩ => ⟨by rw [he, t.sim.syncE], t.prog hg (Dk.synced_ok t.ok) (t.sim.sync _) (Nat.le_trans (synced_room k _) (by omega)) (Nat.le_succ m)⟩
theorem r_sync (h : Two w0 w L D g rp rr m) (hm : m < 4000) (s : ByteArray) (hs : s.size ≤ maxLen) : Calls Try.prog 56 #[.pointer (some ⟨g, 0, none⟩), .string s] w fun e w' => e = .returned (.int .i64 (rr.syncE s.data.toList)) ∧ TwoPost w0 w L D g rp (rr.sync s.data.toList) (m + 1) w' := by
  obtain ⟨k, bl, O, O2, t⟩ := h
  exact (rsync_calls rr _ g m O2 s w t.ref t.rok (by omega) hs).mono fun e w' ⟨he, hg⟩ => ⟨he, t.refd hg ((t.rok.sync _).more (Nat.le_succ m)) (Nat.le_succ m)⟩
theorem p_syncDir (h : Two w0 w L D g rp rr m) : Calls Try.prog 39 #[.pointer (some ⟨D, 0, none⟩)] w fun e w' => e = .returned (.int .i64 rp.syncDirE) ∧ TwoPost w0 w L D g rp.syncDir rr (m + 1) w' := by
  obtain ⟨k, bl, O, O2, t⟩ := h
  have hr := t.room
  exact (syncDir_calls k _ D O w t.disk t.ok t.below.size).mono fun e w' ⟨he, hg⟩ => ⟨by rw [he, t.sim.syncDirE], t.prog hg (Dk.syncedDir_ok t.ok) t.sim.syncDir (Nat.le_trans (syncedDir_room k) (by omega)) (Nat.le_succ m)⟩
theorem r_syncDir (h : Two w0 w L D g rp rr m) : Calls Try.prog 57 #[.pointer (some ⟨g, 0, none⟩)] w fun e w' => e = .returned (.int .i64 rr.syncDirE) ∧ TwoPost w0 w L D g rp rr.syncDir (m + 1) w' := by
  obtain ⟨k, bl, O, O2, t⟩ := h
  exact (rsyncDir_calls rr _ g O2 w t.ref t.rok.left).mono fun e w' ⟨he, hg⟩ => ⟨he, t.refd hg (t.rok.syncDir.more (Nat.le_succ m)) (Nat.le_succ m)⟩
theorem p_rename (h : Two w0 w L D g rp rr m) (hm : m < 4000) (s s2 : ByteArray) (hs : s.size ≤ maxLen) (hs2 : s2.size ≤ maxLen) : Calls Try.prog 40 #[.pointer (some ⟨D, 0, none⟩), .string s, .string s2] w fun e w' => e = .returned (.int .i64 (rp.renameE s.data.toList s2.data.toList)) ∧ TwoPost w0 w L D g (rp.rename s.data.toList s2.data.toList) rr (m + 1) w' := by
  obtain ⟨k, bl, O, O2, t⟩ := h
  have hr := t.room
  exact (rename_calls k _ D O s s2 w t.disk t.ok (by omega) hs hs2 t.below.size).mono fun e w' ⟨he, hg⟩ => ⟨by rw [he, t.sim.renameE], t.prog hg (Dk.renamed_ok t.ok (by omega) hs hs2) (t.sim.rename s s2) (Nat.le_trans (renamed_room k s s2) (by omega)) (Nat.le_succ m)⟩
theorem r_rename (h : Two w0 w L D g rp rr m) (hm : m < 4000) (s s2 : ByteArray) (hs : s.size ≤ maxLen) (hs2 : s2.size ≤ maxLen) : Calls Try.prog 58 #[.pointer (some ⟨g, 0, none⟩), .string s, .string s2] w fun e w' => e = .returned (.int .i64 (rr.renameE s.data.toList s2.data.toList)) ∧ TwoPost w0 w L D g rp (rr.rename s.data.toList s2.data.toList) (m + 1) w' := by
  obtain ⟨k, bl, O, O2, t⟩ := h
  exact (rrename_calls rr _ g m O2 s s2 w t.ref t.rok (by omega) hs hs2).mono fun e w' ⟨he, hg⟩ => ⟨he, t.refd hg (t.rok.rename _ _) (Nat.le_succ m)⟩
theorem p_remove (h : Two w0 w L D g rp rr m) (hm : m < 4000) (s : ByteArray) (hs : s.size ≤ maxLen) : Calls Try.prog 30 #[.pointer (some ⟨D, 0, none⟩), .string s] w fun e w' => e = .returned (.int .i64 (rp.removeE s.data.toList)) ∧ TwoPost w0 w L D g (rp.remove s.data.toList) rr (m + 1) w' := by
  obtain ⟨k, bl, O, O2, t⟩ := h
  have hr := t.room
  exact (remove_calls k _ D O s w t.disk t.ok (by omega) hs t.below.size).mono fun e w' ⟨he, hg⟩ => ⟨by rw [he, t.sim.removeE], t.prog hg (Dk.removed_ok t.ok (by omega) hs) (t.sim.remove s) (Nat.le_trans (removed_room k s) (by omega)) (Nat.le_succ m)⟩
theorem r_remove (h : Two w0 w L D g rp rr m) (hm : m < 4000) (s : ByteArray) (hs : s.size ≤ maxLen) : Calls Try.prog 59 #[.pointer (some ⟨g, 0, none⟩), .string s] w fun e w' => e = .returned (.int .i64 (rr.removeE s.data.toList)) ∧ TwoPost w0 w L D g rp (rr.remove s.data.toList) (m + 1) w' := by
  obtain ⟨k, bl, O, O2, t⟩ := h
  exact (rremove_calls rr _ g m O2 s w t.ref t.rok (by omega) hs).mono fun e w' ⟨he, hg⟩ => ⟨he, t.refd hg (t.rok.remove _) (Nat.le_succ m)⟩
theorem p_fuse (h : Two w0 w L D g rp rr m) (n : Int) (hn : n < 9223372036854775808) : Calls Try.prog 24 #[.pointer (some ⟨D, 0, none⟩), .int .i64 n] w fun e w' => e = .returned (.tuple #[]) ∧ TwoPost w0 w L D g (rp.fused n) rr (m + 1) w' := by
  obtain ⟨k, bl, O, O2, t⟩ := h
  have hr := t.room
  exact (fuse_calls k _ D O n w t.disk).mono fun e w' ⟨he, hg, hk⟩ => ⟨he, t.prog (Goes.same hg hk) (Dk.fused_ok t.ok hn) (t.sim.fuse n) (by show k.room ≤ _; omega) (Nat.le_succ m)⟩
theorem r_fuse (h : Two w0 w L D g rp rr m) (n : Int) (hn : n < 9223372036854775808) : Calls Try.prog 60 #[.pointer (some ⟨g, 0, none⟩), .int .i64 n] w fun e w' => e = .returned (.tuple #[]) ∧ TwoPost w0 w L D g rp (rr.fused n) (m + 1) w' := by
  obtain ⟨k, bl, O, O2, t⟩ := h
  exact (rfuse_calls rr _ g O2 n w t.ref).mono fun e w' ⟨he, hg⟩ => ⟨he, t.refd hg ((t.rok.fused hn).more (Nat.le_succ m)) (Nat.le_succ m)⟩
theorem p_crash (h : Two w0 w L D g rp rr m) (hm : m < 4000) {v : Value} {b : List UInt8} (hv : Bytes w v b) (hL : ∀ j, v.ownBlock = some j → b ≠ [] → L j) (hb : b.length ≤ 65536) : Calls Try.prog 28 #[.pointer (some ⟨D, 0, none⟩), v] w fun e w' => e = .returned (.tuple #[]) ∧ TwoPost w0 w L D g (rp.crash b) rr (m + 1) w' := by
  obtain ⟨k, bl, O, O2, t⟩ := h
  have hr := t.room
  exact (crash_calls k _ D O v b w t.disk t.ok (by omega) t.below.size hv (fun j hj hn => ⟨(t.held j (hL j hj hn)).1, (t.held j (hL j hj hn)).2.2⟩) (by omega)).mono fun e w' ⟨he, ns, hN, hl, hg⟩ => ⟨he, t.prog hg (Dk.crashed_ok t.ok (by omega) b ns hl t.disk.sound.1) (t.sim.crash t.disk.sound.1 hN) (by show k.room ≤ _; omega) (Nat.le_succ m)⟩
theorem r_crash (h : Two w0 w L D g rp rr m) (hm : m < 4000) {v : Value} {b : List UInt8} (hv : Bytes w v b) (hL : ∀ j, v.ownBlock = some j → b ≠ [] → L j) (hb : b.length ≤ 65536) : Calls Try.prog 61 #[.pointer (some ⟨g, 0, none⟩), v] w fun e w' => e = .returned (.tuple #[]) ∧ TwoPost w0 w L D g rp (rr.crash b) (m + 1) w' := by
  obtain ⟨k, bl, O, O2, t⟩ := h
  exact (rcrash_calls rr _ g m O2 v b w t.ref t.rok (by omega) hv (fun j hj hn => (t.held j (hL j hj hn)).2.1) (by omega)).mono fun e w' ⟨he, hg⟩ => ⟨he, t.refd hg ((t.rok.crash b).more (Nat.le_succ m)) (Nat.le_succ m)⟩
theorem p_read (h : Two w0 w L D g rp rr m) (hm : m < 4000) (s : ByteArray) (hs : s.size ≤ maxLen) : Calls Try.prog 29 #[.pointer (some ⟨D, 0, none⟩), .string s] w (ReadPost w (rp.findE s.data.toList) (rp.readB s.data.toList)) := by
  obtain ⟨k, bl, O, O2, t⟩ := h
  have hr := t.room
  have := read_calls k _ D O s w t.disk t.ok (by omega) hs
  rw [t.sim.findE, t.sim.readB] at this
  exact this
theorem r_read (h : Two w0 w L D g rp rr m) (hm : m < 4000) (s : ByteArray) (hs : s.size ≤ maxLen) : Calls Try.prog 37 #[.pointer (some ⟨g, 0, none⟩), .string s] w (RReadPost w (rr.findE s.data.toList) (rr.readB s.data.toList)) := by
  obtain ⟨k, bl, O, O2, t⟩ := h
  exact rread_calls rr _ g m O2 s w t.ref t.rok (by omega) hs
theorem p_used (h : Two w0 w L D g rp rr m) : Calls Try.prog 26 #[.pointer (some ⟨D, 0, none⟩)] w fun e w' => e = .returned (.int .i64 rp.usedA) ∧ w = w' := by
  obtain ⟨k, bl, O, O2, t⟩ := h
  exact (used_calls k _ D O w t.disk).mono fun e w' ⟨he, hw⟩ => ⟨by rw [he, t.sim.usedA], hw.symm⟩
theorem r_used (h : Two w0 w L D g rp rr m) (hm : m < 4000) : Calls Try.prog 34 #[.pointer (some ⟨g, 0, none⟩)] w fun e w' => e = .returned (.int .i64 rr.usedA) ∧ Below w.heap.size w w' := by
  obtain ⟨k, bl, O, O2, t⟩ := h
  obtain ⟨vF, vD, vS, vA, dv, hd, rfl⟩ := t.ref
  exact rused_calls rr _ g m vF vD vS vA dv w hd t.rok (by omega)
theorem p_list (h : Two w0 w L D g rp rr m) (hm : m < 4000) : Calls Try.prog 27 #[.pointer (some ⟨D, 0, none⟩)] w fun e w' => NamesPost w rp.list e w' ∧ ∀ x ∈ rp.list, x.length ≤ maxLen := by
  obtain ⟨k, bl, O, O2, t⟩ := h
  have hr := t.room
  refine (list_calls k _ D O w t.disk (by omega)).mono fun e w' ⟨v, ns, he, hN, hl, hx, hr, hb⟩ => ?_
  obtain rfl := t.sim.names hN
  exact ⟨⟨v, he, hr, hl, hb⟩, hx⟩
theorem r_list (h : Two w0 w L D g rp rr m) (hm : m < 4000) : Calls Try.prog 36 #[.pointer (some ⟨g, 0, none⟩)] w (NamesPost w rr.list) := by
  obtain ⟨k, bl, O, O2, t⟩ := h
  obtain ⟨vF, vD, vS, vA, dv, hd, rfl⟩ := t.ref
  exact rlist_calls rr _ g m vF vD vS vA dv w hd t.rok (by omega)
end
end Go.Proofs.Ytgclancneohpbaa
