/- Walks: the program's disk: SyncDir. -/
import Derived.Test.YtgclancneohpbaaDok
namespace Go.Proofs.Ytgclancneohpbaa
open Go.RowKit Go.Maps Go.Shelf
def Dk.saved (k : Dk) : Dk := { k with safe := k.dir, acts := [], slots := k.room }
theorem map_again {w w' : World} {b b' n : Nat} {X : DataW Unit} {es : Array MapEntry} {clock : Nat} (h : w.ownsMap Try.prog 9 ptrR b n X) (h1 : w.heap[b]? = some (.map es clock)) (h2 : w'.heap[b']? = some (.map es clock)) : w'.ownsMap Try.prog 9 ptrR b' n X := by
  obtain ⟨es', clock', h3, h4⟩ := h
  rw [h1] at h3
  obtain ⟨rfl, rfl⟩ : es = es' ∧ clock = clock' := by cases h3; exact ⟨rfl, rfl⟩
  exact ⟨es, clock, h2, h4⟩
theorem map_block {w : World} {b n : Nat} {X : DataW Unit} (h : w.ownsMap Try.prog 9 ptrR b n X) : ∃ es clock, w.heap[b]? = some (.map es clock) := by
  obtain ⟨es, clock, h, _⟩ := h
  exact ⟨es, clock, h⟩
theorem Disk.save {w : World} {B D : Nat} {O : Nat → Prop} {k : Dk} (h : Disk w B D O k) (hB : B ≤ w.heap.size) : ∃ bd bs va es clock, Blk w D 88 (dcells k bd bs va) ∧ w.heap[bd]? = some (.map es clock) ∧
    Goes w B D O k.saved (((w.setCell ⟨D, 4, none⟩ (.map (some w.heap.size))).setCell ⟨D, 5, none⟩ (.slice none 0 0)).alloc (.map es clock)) := by
  have hlt := h.lt
  obtain ⟨bd, bs, n, va, rows, hd, hn, rfl⟩ := h
  obtain ⟨X, h1, h2⟩ := hd.dir
  obtain ⟨es, clock, he⟩ := map_block h1
  have lD := hlt D (.inl rfl)
  have hk2 := Keeps.setCell (S := fun j => j = D) (Keeps.setCell (S := fun j => j = D) (Keeps.refl _ w) (p := ⟨D, 4, none⟩) (.inl rfl) (.map (some w.heap.size))) (p := ⟨D, 5, none⟩) (.inl rfl) (.slice none 0 0)
  have hk := hk2.alloc (.map es clock)
  have hsz : ((w.setCell ⟨D, 4, none⟩ (.map (some w.heap.size))).setCell ⟨D, 5, none⟩ (.slice none 0 0)).heap.size = w.heap.size := by simp
  have hnew' := heap_alloc_new ((w.setCell ⟨D, 4, none⟩ (.map (some w.heap.size))).setCell ⟨D, 5, none⟩ (.slice none 0 0)) (.map es clock)
  rw [hsz] at hnew'
  have hb := ((hd.blk.set_ 4 (.map (some w.heap.size))).set_ 5 (.slice none 0 0)).alloc (.map es clock)
  have hm := map_keeps h1 hk (map_ne h1 hd.blk)
  refine ⟨bd, bs, va, es, clock, hd.blk, he, ⟨_, ⟨bd, w.heap.size, n, .slice none 0 0, rows, ⟨hb, ⟨X, hm, h2⟩, ⟨X, ?_, h2⟩, ?_, World.ownsRow_nil _ _ _ _, ?_, hd.apart, ?_⟩, ⟨hn.1, ?_⟩, rfl⟩, ?_⟩, hk.mono (fun _ _ e => .inl e)⟩
  · exact (map_again h1 he hnew').mono hn.1
  · exact fun e => by have := hlt bd (.inr (.inl rfl)); omega
  · intro f x hx
    obtain ⟨f1, f2, f3, f4⟩ := hd.file f x hx
    exact ⟨f1, f2.keeps hk (fun e => f2.ne_ hd.blk (by decide) e), own_keeps f3 hk (fun g hg e => own_blk_ne f3 hd.blk (by decide) (by rw [hg, e])), f4⟩
  · exact ⟨hd.base.1, hd.base.2.1, hB⟩
  · show k.room + 0 ≤ k.room; omega
  · rintro j (h | h | h | h | h)
    · exact .inl (.inl h)
    · exact .inl (.inr (.inl h))
    · exact .inr (by omega)
    · cases h
    · exact .inl (.inr (.inr (.inr (.inr h))))
def Dk.syncDirE (k : Dk) : Int := if k.down then 6 else errDown k.burns
def Dk.syncedDir (k : Dk) : Dk := if k.down then k else if k.burns then k.burn.saved else k.burn
set_option maxHeartbeats 2000000 in
set_option maxRecDepth 100000 in
theorem syncDir_calls (k : Dk) (B D : Nat) (O : Nat → Prop) (w : World) (hd : Disk w B D O k) (hk : k.ok) (hB : B ≤ w.heap.size) :
    Calls Try.prog 39 #[.pointer (some ⟨D, 0, none⟩)] w fun e w' => e = .returned (.int .i64 k.syncDirE) ∧ Goes w B D O k.syncedDir w' := by
  have hM := dmay_none k B D O w hd
  have hE : k.syncDirE = if k.down then 6 else errDown k.burns := rfl
  have hC : k.syncedDir = if k.down then k else if k.burns then k.burn.saved else k.burn := rfl
  have hMe : k.may true = if k.down then 6 else 0 := by unfold Dk.may; cases k.down <;> rfl
  rw [hE]
  rw [hMe] at hM
  clear hE hMe
  cases hdn : k.down
  · rw [hdn] at hM hC
    simp only [Bool.false_eq_true, if_false] at hM hC ⊢
    have hM' := Lib.hid hM
    have hC' := Lib.hid hC
    have hB' := Lib.hid (burn_calls k B D O w hd hk.fuse)
    clear hM hC
    cases hbn : k.burns
    · rw [hbn] at hB'
      go_enter Try.func39, Try.ntmps39
      go_wp2_with fail
      refine hM'.out.mono ?_
      rintro e w1 ⟨rfl, rfl⟩
      go_wp2_with fail
      refine hB'.out.mono ?_
      rintro e w2 ⟨rfl, h2, k2⟩
      unfold errDown
      go_wp2
      go_ret
      refine ⟨rfl, ?_⟩
      rw [hC'.out, hbn]
      exact Goes.same h2 k2
    · rw [hbn] at hB'
      go_enter Try.func39, Try.ntmps39
      go_wp2_with fail
      refine hM'.out.mono ?_
      rintro e w1 ⟨rfl, rfl⟩
      go_wp2_with fail
      refine hB'.out.mono ?_
      rintro e w2 ⟨rfl, h2, k2⟩
      obtain ⟨bd, bs, va, es, clock, r1, r2, r3⟩ := h2.save (Nat.le_trans hB k2.size)
      have hq := AnyW.maps_Clone Try.cloneM bd es clock w2 r2
      have hq' := Lib.hid hq
      have r3' := Lib.hid r3
      have qc := r1.cell
      have qf := r1.frozen
      have ql := r1.lt
      unfold dcells at qc
      clear r1 r2 r3 hq hB' hM' h2
      unfold errDown
      go_wp2_with fail
      refine hq'.out.mono ?_
      rintro e w3 ⟨rfl, rfl⟩
      go_wp2
      go_ret
      refine ⟨rfl, ?_⟩
      rw [hC'.out, hbn]
      exact Goes.behind k2 r3'.out
  · rw [hdn] at hM hC
    simp only [if_true] at hM hC ⊢
    have hM' := Lib.hid hM
    have hC' := Lib.hid hC
    clear hM hC
    go_enter Try.func39, Try.ntmps39
    go_wp2_with fail
    refine hM'.out.mono ?_
    rintro e w1 ⟨rfl, rfl⟩
    go_wp2
    go_ret
    exact ⟨rfl, by rw [hC'.out]; exact Goes.same hd (Keeps.refl _ _)⟩
theorem Dk.saved_ok {k : Dk} (h : k.ok) : k.saved.ok := ⟨h.cap, h.fuse, h.used, h.live, h.live, fun a ha => (by cases ha), h.small⟩
theorem Dk.syncedDir_ok {k : Dk} (h : k.ok) : k.syncedDir.ok := by
  unfold Dk.syncedDir
  split
  · exact h
  · split
    · exact Dk.saved_ok (Dk.burn_ok h)
    · exact Dk.burn_ok h
end Go.Proofs.Ytgclancneohpbaa
