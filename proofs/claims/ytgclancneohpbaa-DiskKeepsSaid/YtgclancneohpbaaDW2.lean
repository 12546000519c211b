/- Walks: the program's disk: New, Fuse, Used, burn. -/
import Derived.Test.YtgclancneohpbaaDm
import Derived.Carry
namespace Go.Proofs.Ytgclancneohpbaa
open Go.RowKit Go.Maps
def Dk.new (cap : Int) : Dk := ⟨(min (max cap 0) 16777216).toNat, false, -1, fun _ => none, fun _ => none, [], 0, fun _ => none, 0, 0⟩
theorem dnew_at (w : World) (cap c : Int) (hc : c = (((min (max cap 0) 16777216).toNat : Nat) : Int)) : ∃ O, Disk (((w.alloc (.map #[] 0)).alloc (.map #[] 0)).alloc (.cells #[.int .i64 c, .bool false, .int .i64 (-1), .map (some w.heap.size), .map (some (w.heap.size + 1)), .slice none 0 0, .int .i64 0] 88)) w.heap.size (w.heap.size + 2) O (Dk.new cap) := by
  subst hc
  have hb := Blk.new ((w.alloc (.map #[] 0)).alloc (.map #[] 0)) 88 #[.int .i64 (((min (max cap 0) 16777216).toNat : Nat) : Int), .bool false, .int .i64 (-1), .map (some w.heap.size), .map (some (w.heap.size + 1)), .slice none 0 0, .int .i64 0]
  rw [World.size_alloc, World.size_alloc] at hb
  have m1 := World.ownsMap_made w Try.prog 9 ptrR
  have m2 := World.ownsMap_made (w.alloc (.map #[] 0)) Try.prog 9 ptrR
  rw [World.size_alloc] at m2
  refine ⟨_, w.heap.size, w.heap.size + 1, 0, .slice none 0 0, fun _ => .slice none 0 0, ⟨hb, ⟨_, (m1.alloc _).alloc _, dirIs_nil⟩, ⟨_, m2.alloc _, dirIs_nil⟩, by omega, World.ownsRow_nil _ _ _ _, fun f x h => (by cases h), fun f f' x x' b h => (by cases h), by omega, by omega, by omega⟩, ⟨Nat.le_refl _, Nat.le_refl _⟩, rfl⟩
set_option maxHeartbeats 1000000 in
theorem dnew_calls (cap : Int) (w : World) :
    Calls Try.prog 22 #[.int .i64 cap] w fun e w' => e = .returned (.pointer (some ⟨w.heap.size + 2, 0, none⟩)) ∧ (∃ O, Disk w' w.heap.size (w.heap.size + 2) O (Dk.new cap)) ∧ Below w.heap.size w w' := by
  have hmm := @run_makeMap Try.prog
  go_enter Try.func22, Try.ntmps22
  go_wp2
  all_goals
    go_ret
    exact ⟨rfl, dnew_at w cap _ (by omega), ((((Below.refl w.heap.size w).alloc (Nat.le_refl _) _).alloc (by simp) _).alloc (by simp; omega) _)⟩
def dcells (k : Dk) (bd bs : Nat) (va : Value) : Array Value := #[.int .i64 k.cap, .bool k.down, .int .i64 k.fuse, .map (some bd), .map (some bs), va, .int .i64 k.used]
theorem map_ne {H : Type} {P : Program} {kt : TypeId} {R : Value → Option (DataW H × List MemPlace)} {w : World} {b n g : Nat} {X : DataW H} {T : TypeId} {cs : Array Value} (h : w.ownsMap P kt R b n X) (hb : Blk w g T cs) : b ≠ g := by
  obtain ⟨es, clock, h1, _⟩ := h
  rintro rfl
  unfold Blk at hb
  rw [h1] at hb
  cases hb
/-- only the struct is turned, and of it no map and no row -/
theorem Disk.field {w w' : World} {B D : Nat} {O : Nat → Prop} {k k' : Dk} (h : Disk w B D O k) (hk : Keeps (fun j => j = D) w w') (hb : ∀ bd bs va, Blk w D 88 (dcells k bd bs va) → Blk w' D 88 (dcells k' bd bs va)) (hs : k'.dir = k.dir ∧ k'.safe = k.safe ∧ k'.acts = k.acts ∧ k'.file = k.file ∧ k'.room = k.room ∧ k'.slots = k.slots) :
    Disk w' B D O k' ∧ Keeps O w w' := by
  obtain ⟨bd, bs, n, va, rows, hd, hn, rfl⟩ := h
  obtain ⟨s1, s2, s3, s4, s5, s6⟩ := hs
  obtain ⟨X, h1, h2⟩ := hd.dir
  obtain ⟨Y, h3, h4⟩ := hd.safe
  refine ⟨⟨bd, bs, n, va, rows, ⟨hb _ _ _ hd.blk, ⟨X, map_keeps h1 hk (map_ne h1 hd.blk), by rw [s1]; exact h2⟩, ⟨Y, by rw [s6]; exact map_keeps h3 hk (map_ne h3 hd.blk), by rw [s2]; exact h4⟩, hd.two, by rw [s3]; exact own_keeps hd.acts hk (fun g hg e => own_blk_ne hd.acts hd.blk (by decide) (by rw [hg, e])), ?_, by rw [s4]; exact hd.apart, hd.base⟩, by rw [s3, s5, s6]; exact hn, ?_⟩, hk.mono (fun _ _ e => .inl e)⟩
  · rw [s4]
    intro f x hf
    obtain ⟨f1, f2, f3, f4⟩ := hd.file f x hf
    exact ⟨f1, f2.keeps hk (fun e => f2.ne_ hd.blk (by decide) e), own_keeps f3 hk (fun g hg e => own_blk_ne f3 hd.blk (by decide) (by rw [hg, e])), f4⟩
  · unfold dset; rw [s4]
theorem Disk.blk {w : World} {B D : Nat} {O : Nat → Prop} {k : Dk} (h : Disk w B D O k) : ∃ bd bs va, Blk w D 88 (dcells k bd bs va) := by
  obtain ⟨bd, bs, n, va, rows, hd, _⟩ := h
  exact ⟨bd, bs, va, hd.blk⟩
theorem Disk.lt {w : World} {B D : Nat} {O : Nat → Prop} {k : Dk} (h : Disk w B D O k) : ∀ j, O j → B ≤ j ∧ j < w.heap.size := by
  obtain ⟨bd, bs, n, va, rows, hd, _, rfl⟩ := h
  exact hd.from_
/-- one act is taken from the fuse: may it be done? and what is left -/
def Dk.burns (k : Dk) : Bool := !(k.fuse == 0)
def Dk.burn (k : Dk) : Dk := if k.fuse = 0 then { k with down := true } else if 0 < k.fuse then { k with fuse := k.fuse - 1 } else k
def errDown (b : Bool) : Int := if b then 0 else 6
set_option maxHeartbeats 1000000 in
theorem burn_calls (k : Dk) (B D : Nat) (O : Nat → Prop) (w : World) (hd : Disk w B D O k) (hf : -1 ≤ k.fuse ∧ k.fuse < 9223372036854775808) :
    Calls Try.prog 48 #[.pointer (some ⟨D, 0, none⟩)] w fun e w' => e = .returned (.int .i64 (errDown k.burns)) ∧ Disk w' B D O k.burn ∧ Keeps O w w' := by
  obtain ⟨bd, bs, va, hb⟩ := hd.blk
  have qc := hb.cell
  have qf := hb.frozen
  unfold dcells at qc
  have hd' := Lib.hid hd
  clear hb hd
  rcases Int.lt_trichotomy k.fuse 0 with h | h | h
  · have e1 : k.burn = k := by unfold Dk.burn; rw [if_neg (by omega), if_neg (by omega)]
    have e2 : k.burns = true := by unfold Dk.burns; simp; omega
    have e0 : (k.fuse == 0) = false := by rw [beq_eq_false_iff_ne]; omega
    have hn : ¬ 0 < k.fuse := by omega
    rw [e1, e2]
    go_enter Try.func48, Try.ntmps48
    go_wp2
    go_ret
    exact ⟨rfl, hd'.out, Keeps.refl _ _⟩
  · have e1 : k.burn = { k with down := true } := by unfold Dk.burn; rw [if_pos h]
    have e2 : k.burns = false := by unfold Dk.burns; rw [h]; rfl
    have e0 : (k.fuse == 0) = true := by rw [h]; rfl
    have hx := hd'.out.field (k' := { k with down := true }) (w' := w.setCell ⟨D, 1, none⟩ (.bool true)) (Keeps.setCell (S := fun j => j = D) (Keeps.refl _ w) (p := ⟨D, 1, none⟩) (.inl rfl) _) (fun bd bs va h => h.set_ 1 _) ⟨rfl, rfl, rfl, rfl, rfl, rfl⟩
    have hx' := Lib.hid hx
    clear hx
    rw [e1, e2]
    go_enter Try.func48, Try.ntmps48
    go_wp2
    go_ret
    exact ⟨rfl, hx'.out.1, hx'.out.2⟩
  · have e1 : k.burn = { k with fuse := k.fuse - 1 } := by unfold Dk.burn; rw [if_neg (by omega), if_pos h]
    have e2 : k.burns = true := by unfold Dk.burns; simp; omega
    have e0 : (k.fuse == 0) = false := by rw [beq_eq_false_iff_ne]; omega
    have hx := hd'.out.field (k' := { k with fuse := k.fuse - 1 }) (w' := w.setCell ⟨D, 2, none⟩ (.int .i64 (k.fuse - 1))) (Keeps.setCell (S := fun j => j = D) (Keeps.refl _ w) (p := ⟨D, 2, none⟩) (.inl rfl) _) (fun bd bs va h => h.set_ 2 _) ⟨rfl, rfl, rfl, rfl, rfl, rfl⟩
    have hx' := Lib.hid hx
    clear hx
    rw [e1, e2]
    go_enter Try.func48, Try.ntmps48
    go_wp2
    go_ret
    exact ⟨rfl, hx'.out.1, hx'.out.2⟩
end Go.Proofs.Ytgclancneohpbaa
