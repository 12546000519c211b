/- A disk that lies behind a world: the calls on it, a world at a time. -/
import Derived.Test.YtgclancneohpbaaDW17
import Derived.Laws.BytesArg
namespace Go.Proofs.Ytgclancneohpbaa
open Go.RowKit Go.Maps Go.Shelf
theorem Dk.crashed_ok {k : Dk} (h : k.ok) (hr : k.room ≤ 4000) (keep : List UInt8) (ns : List (List UInt8)) (hn : ns.length ≤ k.room) (hsf : ∀ f x, k.file f = some x → x.safe ≤ x.data.length) : (k.crashed keep ns).ok := by
  have hs := Dk.cuts_same (k.kept keep) keep.tail ns
  have hu := Dk.cuts_used (k.kept keep) keep.tail ns (k.room * 65536) (fun f x hf => ⟨h.small f x hf, hsf f x hf⟩)
  have hz : (k.kept keep).used = 0 := rfl
  rw [hz] at hu
  have hlive : ∀ s f, ((k.kept keep).cuts keep.tail ns).safe s = some f → (((k.kept keep).cuts keep.tail ns).file f).isSome = true := fun s f hf => by
    rw [hs.2.1] at hf
    exact Dk.cuts_live _ _ _ f (Dk.kept_live h keep s f hf)
  refine ⟨?_, ⟨by show (-1 : Int) ≤ -1; omega, by show (-1 : Int) < _; omega⟩, ?_, hlive, hlive, fun a ha => (by cases ha), ?_⟩
  · show ((k.kept keep).cuts keep.tail ns).cap ≤ _
    rw [hs.2.2.2.1]
    exact h.cap
  · show -(k.room * 1073741824 : Int) ≤ ((k.kept keep).cuts keep.tail ns).used ∧ ((k.kept keep).cuts keep.tail ns).used ≤ k.room * 1073741824
    have h1 : (ns.length : Int) * ((k.room * 65536 : Nat) : Int) ≤ 4000 * ((k.room * 65536 : Nat) : Int) := Int.mul_le_mul_of_nonneg_right (by omega) (by omega)
    omega
  · exact Dk.cuts_small _ _ _ _ h.small
theorem Disk.sound {w : World} {B D : Nat} {O : Nat → Prop} {k : Dk} (h : Disk w B D O k) : (∀ f x, k.file f = some x → x.safe ≤ x.data.length) ∧ ∀ f, w.heap.size ≤ f → k.file f = none := by
  obtain ⟨bd, bs, n, va, rows, hd, hn, rfl⟩ := h
  refine ⟨fun f x hf => (hd.file f x hf).2.2.2, fun f hf => ?_⟩
  cases hx : k.file f with
  | none => rfl
  | some x => have := (hd.file f x hx).2.1.lt; omega
/-- string(v) -/
theorem bytes_string {w : World} {v : Value} {l : List UInt8} (h : Bytes w v l) : (convert 51 9 v).run Try.prog w = .ok (.string ⟨l.toArray⟩) w := by
  rcases h with (⟨rfl, rfl⟩ | ⟨g, o, c, rfl, hc, h⟩) | ⟨a, c, rfl, rfl⟩
  · have := run_convert_bytes_nil (P := Try.prog) (w := w) 51 5 Try.underlying51 Try.underlying5 0 0 9 Try.underlying9
    exact this
  · have := run_convert_bytes_arg (P := Try.prog) (w := w) 51 5 Try.underlying51 Try.underlying5 g o l.length c (l.map fun x => (x.toNat : Int)) (by simp) (fun i hi => by
      obtain ⟨x, hx⟩ : ∃ x, l[i]? = some x := ⟨_, List.getElem?_eq_getElem hi⟩
      rw [h i x hx]
      simp [List.getD, hx]) 9 Try.underlying9
    rw [this]
    refine congrArg (fun s => Result.ok (Value.string s) w) ?_
    apply ByteArray.ext
    apply Array.toList_inj.1
    rw [strOfNums_data, List.map_map]
    show _ = l
    conv => rhs; rw [← List.map_id l]
    apply List.map_congr_left
    intro x _
    simp
  · exact run_convert_bytes_back w 51 9 5 a c [] Try.underlying51 Try.underlying5 Try.underlying9 (fun j hj => absurd hj (Nat.not_lt_zero _))
/-- a disk lies at block D, its blocks all behind the world w0 -/
def Has (w0 w : World) (D : Nat) (k : Dk) : Prop := k.ok ∧ Below w0.heap.size w0 w ∧ ∃ O, Disk w w0.heap.size D O k
section
variable {w0 w w1 w' : World} {D : Nat} {k k' : Dk}
theorem Has.ok (h : Has w0 w D k) : k.ok := h.1
theorem Has.below (h : Has w0 w D k) : Below w0.heap.size w0 w := h.2.1
theorem Has.le (h : Has w0 w D k) : w0.heap.size ≤ w.heap.size := h.2.1.size
theorem Has.later (h : Has w0 w D k) (hb : Below w.heap.size w w1) : Has w0 w1 D k := by
  obtain ⟨h1, h2, O, h3⟩ := h
  exact ⟨h1, h2.trans (hb.mono h2.size), O, h3.later hb⟩
theorem Has.fresh (h : Has w0 w D k) {f : Nat} (hf : w.heap.size ≤ f) : k.file f = none := by
  obtain ⟨_, _, O, h3⟩ := h
  exact h3.sound.2 f hf
theorem Has.goes {O : Nat → Prop} (h : Below w0.heap.size w0 w) (hd : Disk w w0.heap.size D O k) (hg : Goes w w0.heap.size D O k' w') (hk : k'.ok) : Has w0 w' D k' := by
  obtain ⟨⟨O', g1, g2⟩, g3⟩ := hg
  exact ⟨hk, h.trans (g3.below (fun j _ hj => (hd.lt j hj).1) h.size), O', g1⟩
theorem Has.keeps {O : Nat → Prop} (h : Below w0.heap.size w0 w) (hd : Disk w w0.heap.size D O k) (hg : Disk w' w0.heap.size D O k') (hb : Keeps O w w') (hk : k'.ok) : Has w0 w' D k' :=
  ⟨hk, h.trans (hb.below (fun j _ hj => (hd.lt j hj).1) h.size), O, hg⟩
theorem Dk.new_ok (cap : Int) : (Dk.new cap).ok :=
  ⟨by show (min (max cap 0) 16777216).toNat ≤ 16777216; omega, ⟨by show (-1 : Int) ≤ -1; omega, by show (-1 : Int) < _; omega⟩, ⟨by show (-((0 : Nat) * 1073741824 : Int)) ≤ 0; decide, by show (0 : Int) ≤ (0 : Nat) * 1073741824; decide⟩, fun _ _ h => (by cases h), fun _ _ h => (by cases h), fun _ h => (by cases h), fun _ _ h => (by cases h)⟩
theorem new_has (cap : Int) (w : World) : Calls Try.prog 22 #[.int .i64 cap] w fun e w' => e = .returned (.pointer (some ⟨w.heap.size + 2, 0, none⟩)) ∧ Has w w' (w.heap.size + 2) (Dk.new cap) :=
  (dnew_calls cap w).mono fun _ _ ⟨h1, h2, h3⟩ => ⟨h1, Dk.new_ok cap, h3, h2⟩
theorem create_has (h : Has w0 w D k) (s : ByteArray) (hs : s.size ≤ maxLen) (hr : k.room < 4000) : Calls Try.prog 23 #[.pointer (some ⟨D, 0, none⟩), .string s] w fun e w' => e = .returned (.int .i64 (k.createE s.data.toList)) ∧ ∃ f, k.file f = none ∧ Has w0 w' D (k.created f s) := by
  obtain ⟨h1, h2, O, h3⟩ := id h
  exact (create_calls k _ D O s w h3 h1 hs hr h2.size).mono fun _ _ ⟨e, f, hf, hg⟩ => ⟨e, f, h.fresh hf, .goes h2 h3 hg (Dk.created_ok h1 hr hs)⟩
theorem append_has (h : Has w0 w D k) (hb : Below w.heap.size w w1) (s : ByteArray) {v : Value} {b : List UInt8} (hv : Bytes w1 v b) (hn : ∀ g, v.ownBlock = some g → w.heap.size ≤ g ∨ g < w0.heap.size) (hs : s.size ≤ maxLen) (hr : k.room < 4000) (hl : b.length ≤ 65536) :
    Calls Try.prog 25 #[.pointer (some ⟨D, 0, none⟩), .string s, v] w1 fun e w' => e = .returned (.int .i64 (k.appE s.data.toList b.length)) ∧ Has w0 w' D (k.apped s.data.toList b) := by
  obtain ⟨h1, h2, O, h3⟩ := id h
  have hO : ∀ g, v.ownBlock = some g → ¬ O g := fun g hg ho => by
    have := h3.lt g ho
    rcases hn g hg with h | h <;> omega
  have h2' := h2.trans (hb.mono h2.size)
  exact (append_calls k _ D O s v b w1 (h3.later hb) h1 hr hs (Nat.le_trans h2.size hb.size) hv (fun g hg _ => hO g hg) hl).mono fun _ _ ⟨e, hg⟩ => ⟨e, .goes h2' (h3.later hb) hg (Dk.apped_ok h1 hl)⟩
theorem sync_has (h : Has w0 w D k) (s : ByteArray) (hs : s.size ≤ maxLen) : Calls Try.prog 38 #[.pointer (some ⟨D, 0, none⟩), .string s] w fun e w' => e = .returned (.int .i64 (k.syncE s.data.toList)) ∧ Has w0 w' D (k.synced s.data.toList) := by
  obtain ⟨h1, h2, O, h3⟩ := id h
  exact (sync_calls k _ D O s w h3 h1 hs).mono fun _ _ ⟨e, hg⟩ => ⟨e, .goes h2 h3 hg (Dk.synced_ok h1)⟩
theorem syncDir_has (h : Has w0 w D k) : Calls Try.prog 39 #[.pointer (some ⟨D, 0, none⟩)] w fun e w' => e = .returned (.int .i64 k.syncDirE) ∧ Has w0 w' D k.syncedDir := by
  obtain ⟨h1, h2, O, h3⟩ := id h
  exact (syncDir_calls k _ D O w h3 h1 h2.size).mono fun _ _ ⟨e, hg⟩ => ⟨e, .goes h2 h3 hg (Dk.syncedDir_ok h1)⟩
theorem fuse_has (h : Has w0 w D k) (n : Int) (hn : n < 9223372036854775808) : Calls Try.prog 24 #[.pointer (some ⟨D, 0, none⟩), .int .i64 n] w fun e w' => e = .returned (.tuple #[]) ∧ Has w0 w' D (k.fused n) := by
  obtain ⟨h1, h2, O, h3⟩ := id h
  exact (fuse_calls k _ D O n w h3).mono fun _ _ ⟨e, hg, hk⟩ => ⟨e, .keeps h2 h3 hg hk (Dk.fused_ok h1 hn)⟩
theorem used_has (h : Has w0 w D k) : Calls Try.prog 26 #[.pointer (some ⟨D, 0, none⟩)] w fun e w' => e = .returned (.int .i64 k.usedA) ∧ w' = w := by
  obtain ⟨h1, h2, O, h3⟩ := h
  exact used_calls k _ D O w h3
theorem list_has (h : Has w0 w D k) (hr : k.room ≤ 4000) : Calls Try.prog 27 #[.pointer (some ⟨D, 0, none⟩)] w (ListPost w k.list) := by
  obtain ⟨h1, h2, O, h3⟩ := h
  exact list_calls k _ D O w h3 hr
theorem read_has (h : Has w0 w D k) (s : ByteArray) (hr : k.room ≤ 4000) (hs : s.size ≤ maxLen) : Calls Try.prog 29 #[.pointer (some ⟨D, 0, none⟩), .string s] w (ReadPost w (k.findE s.data.toList) (k.readB s.data.toList)) := by
  obtain ⟨h1, h2, O, h3⟩ := h
  exact read_calls k _ D O s w h3 h1 hr hs
theorem rename_has (h : Has w0 w D k) (s t : ByteArray) (hs : s.size ≤ maxLen) (ht : t.size ≤ maxLen) (hr : k.room < 4000) : Calls Try.prog 40 #[.pointer (some ⟨D, 0, none⟩), .string s, .string t] w fun e w' => e = .returned (.int .i64 (k.renameE s.data.toList t.data.toList)) ∧ Has w0 w' D (k.renamed s t) := by
  obtain ⟨h1, h2, O, h3⟩ := id h
  exact (rename_calls k _ D O s t w h3 h1 hr hs ht h2.size).mono fun _ _ ⟨e, hg⟩ => ⟨e, .goes h2 h3 hg (Dk.renamed_ok h1 hr hs ht)⟩
theorem remove_has (h : Has w0 w D k) (s : ByteArray) (hs : s.size ≤ maxLen) (hr : k.room < 4000) : Calls Try.prog 30 #[.pointer (some ⟨D, 0, none⟩), .string s] w fun e w' => e = .returned (.int .i64 (k.removeE s.data.toList)) ∧ Has w0 w' D (k.removed s) := by
  obtain ⟨h1, h2, O, h3⟩ := id h
  exact (remove_calls k _ D O s w h3 h1 hr hs h2.size).mono fun _ _ ⟨e, hg⟩ => ⟨e, .goes h2 h3 hg (Dk.removed_ok h1 hr hs)⟩
theorem crash_has (h : Has w0 w D k) (hb : Below w.heap.size w w1) {v : Value} {keep : List UInt8} (hv : Bytes w1 v keep) (hn : ∀ g, v.ownBlock = some g → (w.heap.size ≤ g ∨ g < w0.heap.size) ∧ g < w1.heap.size) (hr : k.room ≤ 4000) (hl : keep.length ≤ 1000000) :
    Calls Try.prog 28 #[.pointer (some ⟨D, 0, none⟩), v] w1 fun e w' => e = .returned (.tuple #[]) ∧ ∃ ns, Names (k.kept keep).safe ns ∧ Has w0 w' D (k.crashed keep ns) := by
  obtain ⟨h1, h2, O, h3⟩ := id h
  have hO : ∀ g, v.ownBlock = some g → ¬ O g ∧ g < w1.heap.size := fun g hg => ⟨fun ho => by
    have := h3.lt g ho
    rcases (hn g hg).1 with h | h <;> omega, (hn g hg).2⟩
  have h2' := h2.trans (hb.mono h2.size)
  exact (crash_calls k _ D O v keep w1 (h3.later hb) h1 hr (Nat.le_trans h2.size hb.size) hv (fun g hg _ => hO g hg) hl).mono fun _ _ ⟨e, ns, hN, hl, hg⟩ => ⟨e, ns, hN, .goes h2' (h3.later hb) hg (Dk.crashed_ok h1 hr keep ns hl h3.sound.1)⟩
end
end Go.Proofs.Ytgclancneohpbaa
