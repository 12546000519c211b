/- Disks that may be stay so. -/
import Derived.Test.YtgclancneohpbaaDW11
namespace Go.Proofs.Ytgclancneohpbaa
open Go.RowKit Go.Maps Go.Shelf
theorem Dk.burn_ok {k : Dk} (h : k.ok) : k.burn.ok := by
  obtain ⟨s1, s2, s3, s4, s5, s6, s7, s8⟩ := burn_same k
  refine ⟨by rw [s7]; exact h.cap, ?_, by rw [s5, s6]; exact h.used, by rw [s1, s4]; exact h.live, by rw [s2, s4]; exact h.slive, by rw [s3, s4]; exact h.acts, by rw [s4, s5]; exact h.small⟩
  have := h.fuse
  unfold Dk.burn
  split
  · exact this
  · split
    · constructor
      · show -1 ≤ k.fuse - 1; omega
      · show k.fuse - 1 < _; omega
    · exact this
theorem Dk.size_le {k : Dk} (h : k.ok) (f : Nat) : k.size f ≤ k.room * 65536 := by
  unfold Dk.size
  cases hf : k.file f with
  | none => simp
  | some x => exact h.small f x hf
theorem Dk.usedBy_le {k : Dk} (h : k.ok) (a : DAct) : k.used - k.room * 65536 ≤ k.usedBy a ∧ k.usedBy a ≤ k.used := by
  unfold Dk.usedBy
  split
  · omega
  · rename_i f _
    have := Dk.size_le h f
    split <;> omega
theorem does_live {k : Dk} {a : DAct} {g : List UInt8 → Option Nat} (hg : ∀ s f, g s = some f → (k.file f).isSome = true) (ha : ∀ p, a.file = some p → (k.file p).isSome = true) : ∀ s f, a.does g s = some f → (k.file f).isSome = true := by
  intro s f h
  unfold DAct.does at h
  have hd : ∀ f, (if a.frm.toList.isEmpty then g else drop g a.frm.data.toList) s = some f → (k.file f).isSome = true := by
    intro f h
    split at h
    · exact hg s f h
    · unfold drop at h
      split at h
      · cases h
      · exact hg s f h
  cases hf : a.file with
  | none => rw [hf] at h; exact hd f h
  | some p =>
    rw [hf] at h
    change lay _ _ p s = some f at h
    unfold lay at h
    split at h
    · obtain rfl := Option.some.inj h
      exact ha p hf
    · exact hd f h
theorem Dk.did_ok {k : Dk} (h : k.ok) (hr : k.room < 4000) {a : DAct} (ha : a.ok) (hl : ∀ p, a.file = some p → (k.file p).isSome = true) : (k.did a).ok ∧ k.used - k.room * 65536 ≤ (k.did a).used ∧ (k.did a).used ≤ k.used := by
  have hb := Dk.burn_ok h
  obtain ⟨s1, s2, s3, s4, s5, s6, s7, s8⟩ := burn_same k
  have hu := Dk.usedBy_le hb a
  rw [s5, s6] at hu
  have h1 := h.used
  refine ⟨⟨hb.cap, hb.fuse, ?_, ?_, ?_, ?_, ?_⟩, hu⟩
  · have e : (k.did a).used = k.burn.usedBy a := rfl
    have e2 : (k.did a).room = k.room + 1 := by show k.burn.room + 1 = _; rw [s5]
    rw [e, e2]
    omega
  · intro s f hs
    have e : (k.did a).dir = a.does k.burn.dir := rfl
    rw [e] at hs
    exact does_live (k := k.burn) hb.live (by rw [s4]; exact hl) s f hs
  · exact hb.slive
  · intro a' ha'
    have e : (k.did a).acts = k.burn.acts ++ [a] := rfl
    rw [e] at ha'
    rcases List.mem_append.1 ha' with h' | h'
    · exact hb.acts a' h'
    · simp at h'
      subst h'
      refine ⟨ha, ?_⟩
      show ∀ p, a'.file = some p → (k.burn.file p).isSome = true
      rw [s4]; exact hl
  · intro f x hx
    have e2 : (k.did a).room = k.room + 1 := by show k.burn.room + 1 = _; rw [s5]
    have := hb.small f x hx
    rw [s5] at this
    rw [e2]
    exact Nat.le_trans this (Nat.mul_le_mul_right _ (Nat.le_succ _))
theorem Dk.more_ok {k : Dk} (h : k.ok) {f : Nat} {b : List UInt8} (hf : (k.file f).isSome = true) (hb : b.length ≤ 65536) : (k.more f b).ok := by
  obtain ⟨x, hx⟩ := Option.isSome_iff_exists.1 hf
  have hs := h.small f x hx
  have hg : k.got f = x := by unfold Dk.got; rw [hx]; rfl
  have hu := h.used
  have hup : ∀ p, (k.file p).isSome = true → ((k.more f b).file p).isSome = true := fun p hp => k.upd_live f _ p hp
  refine ⟨h.cap, h.fuse, ?_, fun s p hp => hup p (h.live s p hp), fun s p hp => hup p (h.slive s p hp), fun a ha => ⟨(h.acts a ha).1, fun p hp => hup p ((h.acts a ha).2 p hp)⟩, ?_⟩
  · have e1 : (k.more f b).used = k.used + b.length := rfl
    have e2 : (k.more f b).room = k.room + 1 := rfl
    rw [e1, e2]
    omega
  · intro p y hy
    show y.data.length ≤ (k.room + 1) * 65536
    have e : (k.more f b).file = (k.upd f ⟨(k.got f).data ++ b, (k.got f).safe⟩).file := rfl
    rw [e] at hy
    unfold Dk.upd at hy
    simp only at hy
    split at hy
    · obtain rfl := Option.some.inj hy
      rw [hg]
      simp only [List.length_append]
      omega
    · exact Nat.le_trans (h.small p y hy) (Nat.mul_le_mul_right _ (Nat.le_succ _))
theorem Dk.apped_ok {k : Dk} (h : k.ok) {s b : List UInt8} (hb : b.length ≤ 65536) : (k.apped s b).ok := by
  unfold Dk.apped
  split
  · rename_i h0
    split
    · exact h
    · split
      · refine Dk.more_ok (Dk.burn_ok h) ?_ hb
        rw [(burn_same k).2.2.2.1, (findE_got h h0).2.2.2.2]
        rfl
      · exact Dk.burn_ok h
  · exact h
theorem Dk.synced_ok {k : Dk} (h : k.ok) {s : List UInt8} : (k.synced s).ok := by
  unfold Dk.synced
  split
  · rename_i h0
    split
    · refine (Dk.burn_ok h).upd _ _ ?_
      have := h.small _ _ (findE_got h h0).2.2.2.2
      rw [(burn_same k).2.2.2.2.1]
      exact this
    · exact Dk.burn_ok h
  · exact h
theorem Dk.fused_ok {k : Dk} (h : k.ok) {n : Int} (hn : n < 9223372036854775808) : (k.fused n).ok :=
  ⟨h.cap, by have e : (k.fused n).fuse = max n (-1) := rfl
             rw [e]; omega, h.used, h.live, h.slive, h.acts, h.small⟩
theorem Dk.created_ok {k : Dk} (h : k.ok) (hr : k.room < 4000) {f : Nat} {s : ByteArray} (hs : s.size ≤ maxLen) : (k.created f s).ok := by
  unfold Dk.created
  split
  · rename_i h0
    have hu := h.upd f ⟨[], 0⟩ (Nat.zero_le _)
    split
    · refine (Dk.did_ok hu hr ⟨by show (0 : Nat) ≤ maxLen; decide, hs, ?_⟩ ?_).1
      · show true = !s.toList.isEmpty
        rw [dName_ne (findE_miss h0).2.1]; rfl
      · rintro p e
        obtain rfl := Option.some.inj e
        unfold Dk.upd; simp
    · exact Dk.burn_ok hu
  · exact h
end Go.Proofs.Ytgclancneohpbaa
