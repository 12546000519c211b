/- Walks: the program's disk: find. -/
import Derived.Test.YtgclancneohpbaaDW3
namespace Go.Proofs.Ytgclancneohpbaa
open Go.RowKit Go.Maps
theorem Disk.keeps {S : Nat → Prop} {w w' : World} {B D : Nat} {O : Nat → Prop} {k : Dk} (h : Disk w B D O k) (hk : Keeps S w w') (hs : ∀ j, O j → ¬ S j) : Disk w' B D O k := by
  obtain ⟨bd, bs, n, va, rows, hd, hn, rfl⟩ := h
  exact ⟨bd, bs, n, va, rows, hd.keeps hk hs, hn, rfl⟩
theorem Disk.later {w w' : World} {B D : Nat} {O : Nat → Prop} {k : Dk} (h : Disk w B D O k) (hb : Below w.heap.size w w') : Disk w' B D O k := h.keeps (S := fun _ => False) (.of_below hb) (fun _ _ => id)
/-- a file: what is told of it, and where it is -/
def Dk.findE (k : Dk) (s : List UInt8) : Int := if k.may (dName s) = 0 then (if (k.dir s).isSome then 0 else 4) else k.may (dName s)
def Dk.findF (k : Dk) (s : List UInt8) : Option Nat := if k.may (dName s) = 0 then k.dir s else none
theorem one_any (s : NameS) : (!([s].any badN)) = dName s.1.data.toList := by simp [badN]
set_option maxHeartbeats 2000000 in
set_option maxRecDepth 100000 in
theorem find_calls (k : Dk) (B D : Nat) (O : Nat → Prop) (s : ByteArray) (w : World) (hd : Disk w B D O k) (hs : s.size ≤ maxLen) :
    Calls Try.prog 46 #[.pointer (some ⟨D, 0, none⟩), .string s] w fun e w' => e = .returned (.tuple #[ptrV (k.findF s.data.toList), .int .i64 (k.findE s.data.toList)]) ∧ Below w.heap.size w w' := by
  have B1 := (Below.refl w.heap.size w).alloc (Nat.le_refl _) (.cells #[.string s] 9)
  have hd1 := hd.later B1
  have hM := dmay_calls k B D w.heap.size 1 O [⟨s, hs⟩] _ hd1 rfl (by omega) (fun j hj => by
    have hj0 : j = 0 := by simp at hj; exact hj
    subst hj0
    exact (Blk.new w 9 #[.string s]).cell 0)
  rw [one_any] at hM
  have hE : k.findE s.data.toList = if k.may (dName s.data.toList) = 0 then (if (k.dir s.data.toList).isSome then 0 else 4) else k.may (dName s.data.toList) := rfl
  have hF : k.findF s.data.toList = if k.may (dName s.data.toList) = 0 then k.dir s.data.toList else none := rfl
  have hm1 : k.may (dName s.data.toList) = 0 ∨ k.may (dName s.data.toList) = 2 ∨ k.may (dName s.data.toList) = 6 := by
    unfold Dk.may; cases k.down <;> cases dName s.data.toList <;> simp
  have hM' := Lib.hid hM
  rw [hE, hF]
  clear hM hE hF
  rcases hm1 with hm | hm | hm
  · rw [if_pos hm, if_pos hm]
    cases hdir : k.dir s.data.toList
    · simp only [Option.isSome_none, Bool.false_eq_true, if_false]
      go_enter Try.func46, Try.ntmps46
      go_wp2_with fail
      refine hM'.out.mono ?_
      rw [hm]
      rintro e w1 ⟨rfl, q, rfl⟩
      obtain ⟨W, eW, hdW, BW⟩ : ∃ W, (w.alloc (.cells #[.string s] 9)).drewN q = W ∧ Disk W B D O k ∧ Below w.heap.size w W := ⟨_, rfl, hd1.later (bdrewN (Below.refl _ _) q), bdrewN B1 q⟩
      rw [eW]
      obtain ⟨bd, bs, n, va, rows, hdat, hn, rfl⟩ := hdW
      obtain ⟨X, h1, h2⟩ := hdat.dir
      have hrun := dir_run h1 h2 hs
      have qc := hdat.blk.cell
      clear eW hd hd1 hM' B1 hdat
      rw [hdir] at hrun
      unfold ptrV at hrun
      go_wp2
      go_ret2
      exact ⟨rfl, BW⟩
    · simp only [Option.isSome_some, if_true]
      go_enter Try.func46, Try.ntmps46
      go_wp2_with fail
      refine hM'.out.mono ?_
      rw [hm]
      rintro e w1 ⟨rfl, q, rfl⟩
      obtain ⟨W, eW, hdW, BW⟩ : ∃ W, (w.alloc (.cells #[.string s] 9)).drewN q = W ∧ Disk W B D O k ∧ Below w.heap.size w W := ⟨_, rfl, hd1.later (bdrewN (Below.refl _ _) q), bdrewN B1 q⟩
      rw [eW]
      obtain ⟨bd, bs, n, va, rows, hdat, hn, rfl⟩ := hdW
      obtain ⟨X, h1, h2⟩ := hdat.dir
      have hrun := dir_run h1 h2 hs
      have qc := hdat.blk.cell
      clear eW hd hd1 hM' B1 hdat
      rw [hdir] at hrun
      unfold ptrV at hrun
      go_wp2
      go_ret2
      exact ⟨rfl, BW⟩
  all_goals
    rw [if_neg (by omega), if_neg (by omega), hm]
    go_enter Try.func46, Try.ntmps46
    go_wp2_with fail
    refine hM'.out.mono ?_
    rw [hm]
    rintro e w1 ⟨rfl, q, rfl⟩
    go_wp2
    go_ret2
    exact ⟨rfl, bdrewN B1 q⟩
set_option maxHeartbeats 1000000 in
theorem find_nil (s : ByteArray) (w : World) :
    Calls Try.prog 46 #[.pointer none, .string s] w fun e w' => e = .returned (.tuple #[.pointer none, .int .i64 6]) ∧ Below w.heap.size w w' := by
  go_enter Try.func46, Try.ntmps46
  go_wp2_with fail
  refine (dmay_nil _ _).mono ?_
  rintro e w1 ⟨rfl, rfl⟩
  go_wp2
  go_ret2
  exact ⟨rfl, (Below.refl w.heap.size w).alloc (Nat.le_refl _) _⟩
end Go.Proofs.Ytgclancneohpbaa
