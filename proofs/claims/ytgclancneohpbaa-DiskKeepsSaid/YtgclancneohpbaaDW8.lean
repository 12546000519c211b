/- Walks: the program's disk: Create. -/
import Derived.Test.YtgclancneohpbaaDW7
namespace Go.Proofs.Ytgclancneohpbaa
open Go.RowKit Go.Maps
/-- what a call leaves of a disk -/
def Goes (w : World) (B D : Nat) (O : Nat → Prop) (k' : Dk) (w' : World) : Prop := (∃ O', Disk w' B D O' k' ∧ ∀ j, O' j → O j ∨ w.heap.size ≤ j) ∧ Keeps O w w'
theorem Goes.same {w w' : World} {B D : Nat} {O : Nat → Prop} {k : Dk} (h : Disk w' B D O k) (hk : Keeps O w w') : Goes w B D O k w' := ⟨⟨O, h, fun _ h => .inl h⟩, hk⟩
theorem Goes.at {w w1 w' : World} {B D : Nat} {O : Nat → Prop} {k : Dk} (hb : Below w.heap.size w w1) (h : Goes w1 B D O k w') : Goes w B D O k w' := by
  obtain ⟨⟨O', h1, h2⟩, h3⟩ := h
  have := hb.size
  exact ⟨⟨O', h1, fun j hj => (h2 j hj).imp id (fun h => by omega)⟩, (Keeps.of_below hb).trans h3⟩
def Dk.upd (k : Dk) (f : Nat) (x : File) : Dk := { k with file := fun j => if j = f then some x else k.file j }
theorem Dk.upd_live (k : Dk) (f : Nat) (x : File) (p : Nat) (h : (k.file p).isSome = true) : ((k.upd f x).file p).isSome = true := by
  unfold Dk.upd; simp only; split
  · rfl
  · exact h
theorem Dk.ok.upd {k : Dk} (hk : k.ok) (f : Nat) (x : File) (hx : x.data.length ≤ k.room * 65536) : (k.upd f x).ok := by
  refine ⟨hk.cap, hk.fuse, hk.used, fun s p h => k.upd_live f x p (hk.live s p h), fun s p h => k.upd_live f x p (hk.slive s p h), fun a ha => ⟨(hk.acts a ha).1, fun p h => k.upd_live f x p ((hk.acts a ha).2 p h)⟩, fun p y h => ?_⟩
  unfold Dk.upd at h
  simp only at h
  split at h
  · obtain rfl := Option.some.inj h; exact hx
  · exact hk.small p y h
theorem Disk.newfile {w : World} {B D : Nat} {O : Nat → Prop} {k : Dk} (h : Disk w B D O k) (hB : B ≤ w.heap.size) :
    Disk (w.alloc (.cells #[.slice none 0 0, .int .i64 0] 94)) B D (fun j => O j ∨ j = w.heap.size) (k.upd w.heap.size ⟨[], 0⟩) := by
  have hlt := h.lt
  obtain ⟨bd, bs, n, va, rows, hd, hn, rfl⟩ := h
  have hk : Keeps (fun _ => False) w (w.alloc (.cells #[.slice none 0 0, .int .i64 0] 94)) := (Keeps.refl _ w).alloc _
  have h1 := hd.keeps hk (fun _ _ => id)
  have hf : ∀ f x, k.file f = some x → f ≠ w.heap.size := fun f x hf e => by
    have := hd.from_ f (.inr (.inr (.inr (.inr ⟨f, x, hf, .inl rfl⟩))))
    omega
  have hu : ∀ j x, (k.upd w.heap.size ⟨[], 0⟩).file j = some x → (j = w.heap.size ∧ x = ⟨[], 0⟩) ∨ (j ≠ w.heap.size ∧ k.file j = some x) := by
    intro j x hj
    unfold Dk.upd at hj
    simp only at hj
    split at hj
    · rename_i e; exact .inl ⟨e, (Option.some.inj hj).symm⟩
    · rename_i e; exact .inr ⟨e, hj⟩
  refine ⟨bd, bs, n, va, fun j => if j = w.heap.size then .slice none 0 0 else rows j, ⟨h1.blk, h1.dir, h1.safe, h1.two, h1.acts, ?_, ?_, h1.base⟩, hn, ?_⟩
  · intro f x hx
    rcases hu f x hx with ⟨rfl, rfl⟩ | ⟨hne, hx⟩
    · rw [if_pos rfl]
      exact ⟨hB, Blk.new _ _ _, World.ownsRow_nil _ _ _ _, Nat.le_refl _⟩
    · rw [if_neg hne]
      exact h1.file f x hx
  · intro f f' x x' b hx hx' hb hb'
    rcases hu f x hx with ⟨rfl, rfl⟩ | ⟨hne, hx⟩
    · rw [if_pos rfl] at hb; cases hb
    · rcases hu f' x' hx' with ⟨rfl, rfl⟩ | ⟨hne', hx'⟩
      · rw [if_pos rfl] at hb'; cases hb'
      · rw [if_neg hne] at hb
        rw [if_neg hne'] at hb'
        exact h1.apart f f' x x' b hx hx' hb hb'
  · funext j
    refine propext ⟨?_, ?_⟩
    · rintro ((h | h | h | h | ⟨f, x, hx, h⟩) | rfl)
      · exact .inl h
      · exact .inr (.inl h)
      · exact .inr (.inr (.inl h))
      · exact .inr (.inr (.inr (.inl h)))
      · have hne := hf f x hx
        refine .inr (.inr (.inr (.inr ⟨f, x, ?_, ?_⟩)))
        · unfold Dk.upd; simp only; rw [if_neg hne]; exact hx
        · show j = f ∨ (if f = w.heap.size then Value.slice none 0 0 else rows f).ownBlock = some j
          rw [if_neg hne]; exact h
      · refine .inr (.inr (.inr (.inr ⟨w.heap.size, ⟨[], 0⟩, ?_, .inl rfl⟩)))
        unfold Dk.upd; simp
    · rintro (h | h | h | h | ⟨f, x, hx, h⟩)
      · exact .inl (.inl h)
      · exact .inl (.inr (.inl h))
      · exact .inl (.inr (.inr (.inl h)))
      · exact .inl (.inr (.inr (.inr (.inl h))))
      · rcases hu f x hx with ⟨rfl, rfl⟩ | ⟨hne, hx⟩
        · change j = w.heap.size ∨ (if w.heap.size = w.heap.size then Value.slice none 0 0 else rows w.heap.size).ownBlock = some j at h
          rw [if_pos rfl] at h
          rcases h with h | h
          · exact .inr h
          · cases h
        · change j = f ∨ (if f = w.heap.size then Value.slice none 0 0 else rows f).ownBlock = some j at h
          rw [if_neg hne] at h
          exact .inl (.inr (.inr (.inr (.inr ⟨f, x, hx, h⟩))))
def Dk.createE (k : Dk) (s : List UInt8) : Int := if k.findE s = 0 then 3 else if k.findE s = 4 then errDown k.burns else k.findE s
def Dk.created (k : Dk) (f : Nat) (s : ByteArray) : Dk := if k.findE s.data.toList = 4 then (if k.burns then (k.upd f ⟨[], 0⟩).did ⟨⟨#[]⟩, s, some f⟩ else (k.upd f ⟨[], 0⟩).burn) else k
theorem findE_cases (k : Dk) (s : List UInt8) : k.findE s = 0 ∨ k.findE s = 4 ∨ k.findE s = 2 ∨ k.findE s = 6 := by
  unfold Dk.findE Dk.may
  cases k.down <;> cases dName s <;> cases (k.dir s).isSome <;> simp
theorem findE_ok {k : Dk} {s : List UInt8} (h : k.findE s = 0) : k.down = false ∧ dName s = true ∧ ∃ f, k.dir s = some f ∧ k.findF s = some f := by
  unfold Dk.findE at h
  unfold Dk.findF
  unfold Dk.may at h ⊢
  cases hd : k.down <;> cases hn : dName s <;> cases hf : k.dir s <;> simp [hd, hn, hf] at h ⊢
theorem findE_miss {k : Dk} {s : List UInt8} (h : k.findE s = 4) : k.down = false ∧ dName s = true ∧ k.dir s = none := by
  unfold Dk.findE at h
  unfold Dk.may at h
  cases hd : k.down <;> cases hn : dName s <;> cases hf : k.dir s <;> simp [hd, hn, hf] at h ⊢
theorem dName_ne {s : ByteArray} (h : dName s.data.toList = true) : s.toList.isEmpty = false := by
  rw [Lib.toList_data]
  cases hl : s.data.toList with
  | nil => rw [hl] at h; cases h
  | cons a l => rfl
set_option maxHeartbeats 2000000 in
set_option maxRecDepth 100000 in
theorem create_calls (k : Dk) (B D : Nat) (O : Nat → Prop) (s : ByteArray) (w : World) (hd : Disk w B D O k) (hk : k.ok) (hs : s.size ≤ maxLen) (hr : k.room < 4000) (hB : B ≤ w.heap.size) :
    Calls Try.prog 23 #[.pointer (some ⟨D, 0, none⟩), .string s] w fun e w' => e = .returned (.int .i64 (k.createE s.data.toList)) ∧ ∃ f, w.heap.size ≤ f ∧ Goes w B D O (k.created f s) w' := by
  have hF := find_calls k B D O s w hd hs
  have hE : k.createE s.data.toList = if k.findE s.data.toList = 0 then 3 else if k.findE s.data.toList = 4 then errDown k.burns else k.findE s.data.toList := rfl
  have hC : ∀ f, k.created f s = if k.findE s.data.toList = 4 then (if k.burns then (k.upd f ⟨[], 0⟩).did ⟨⟨#[]⟩, s, some f⟩ else (k.upd f ⟨[], 0⟩).burn) else k := fun _ => rfl
  rw [hE]
  clear hE
  have hFp : ∃ p, ptrV (k.findF s.data.toList) = .pointer p := by cases k.findF s.data.toList <;> exact ⟨_, rfl⟩
  obtain ⟨p, hp⟩ := hFp
  rw [hp] at hF
  have hF' := Lib.hid hF
  clear hF
  rcases findE_cases k s.data.toList with h | h | h | h
  · rw [h] at hF'
    simp only [h, if_true, if_neg (show ¬ (0 : Int) = 4 by decide)] at hC ⊢
    have hC' := Lib.hid hC
    clear hC
    go_enter Try.func23, Try.ntmps23
    go_wp2_with fail
    refine hF'.out.mono ?_
    rintro e w1 ⟨rfl, b1⟩
    go_wp2
    go_ret
    exact ⟨rfl, w.heap.size, Nat.le_refl _, by rw [hC'.out]; exact Goes.same (hd.later b1) (.of_below b1)⟩
  · rw [h] at hF'
    simp only [h, if_true, if_neg (show ¬ (4 : Int) = 0 by decide)] at hC ⊢
    have hC' := Lib.hid hC
    clear hC
    go_enter Try.func23, Try.ntmps23
    go_wp2_with fail
    refine hF'.out.mono ?_
    rintro e w1 ⟨rfl, b1⟩
    have hd1 := hd.later b1
    have hB1 : B ≤ w1.heap.size := by have := b1.size; omega
    have hN := hd1.newfile hB1
    have hD := do_calls (k.upd w1.heap.size ⟨[], 0⟩) B D _ ⟨⟨#[]⟩, s, some w1.heap.size⟩ _ hN
    obtain ⟨bd, bs, n, va, rows, hdat, hn, rfl⟩ := hd1
    obtain ⟨X, h1, h2⟩ := hdat.dir
    have hlen := h1.len Try.underlying85 3
    have hsz : Maps.size X ≤ n := h1.size_le
    have qc := hdat.blk.cell
    go_wp2_with fail
    refine (hD (hk.upd _ _ (Nat.zero_le _)) ⟨by show (0 : Nat) ≤ maxLen; decide, hs, ?_⟩ ?_ (by show k.room < 4000; exact hr) (by simp; omega)).mono ?_
    · show true = !s.toList.isEmpty
      rw [dName_ne (findE_miss h).2.1]; rfl
    · rintro p' e
      obtain rfl := Option.some.inj e
      unfold Dk.upd; simp
    · rintro e w2 ⟨rfl, ⟨O', h5, h6⟩, h7⟩
      have hb : (k.upd w1.heap.size ⟨[], 0⟩).burns = k.burns := rfl
      rw [hb] at h5 ⊢
      go_wp2
      go_ret
      refine ⟨rfl, w1.heap.size, b1.size, ?_⟩
      rw [hC'.out]
      refine Goes.at b1 ⟨⟨O', h5, fun j hj => ?_⟩, ?_⟩
      · rcases h6 j hj with (h8 | h8) | h8
        · exact .inl h8
        · exact .inr (by omega)
        · exact .inr (by simp at h8; omega)
      · refine ((Keeps.refl _ w1).alloc _).step h7 fun j hj => ?_
        rcases hj with hj | hj
        · exact .inl hj
        · exact .inr (by omega)
  all_goals
    rw [h] at hF'
    simp only [h, if_neg (show ¬ (2 : Int) = 0 by decide), if_neg (show ¬ (2 : Int) = 4 by decide), if_neg (show ¬ (6 : Int) = 0 by decide), if_neg (show ¬ (6 : Int) = 4 by decide)] at hC ⊢
    have hC' := Lib.hid hC
    clear hC
    go_enter Try.func23, Try.ntmps23
    go_wp2_with fail
    refine hF'.out.mono ?_
    rintro e w1 ⟨rfl, b1⟩
    go_wp2
    go_ret
    exact ⟨rfl, w.heap.size, Nat.le_refl _, by rw [hC'.out]; exact Goes.same (hd.later b1) (.of_below b1)⟩
end Go.Proofs.Ytgclancneohpbaa
