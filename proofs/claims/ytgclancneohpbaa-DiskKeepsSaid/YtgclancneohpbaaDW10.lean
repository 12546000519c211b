/- Walks: the program's disk: Fuse, Used, Sync. -/
import Derived.Test.YtgclancneohpbaaDW9
namespace Go.Proofs.Ytgclancneohpbaa
open Go.RowKit Go.Maps Go.Shelf
def Dk.fused (k : Dk) (n : Int) : Dk := { k with fuse := max n (-1) }
set_option maxHeartbeats 1000000 in
theorem fuse_calls (k : Dk) (B D : Nat) (O : Nat → Prop) (n : Int) (w : World) (hd : Disk w B D O k) :
    Calls Try.prog 24 #[.pointer (some ⟨D, 0, none⟩), .int .i64 n] w fun e w' => e = .returned (.tuple #[]) ∧ Disk w' B D O (k.fused n) ∧ Keeps O w w' := by
  obtain ⟨bd, bs, va, hb⟩ := hd.blk
  have qc := hb.cell
  have qf := hb.frozen
  unfold dcells at qc
  have hx := fun x (hx : x = max n (-1)) => hd.field (k' := k.fused n) (w' := w.setCell ⟨D, 2, none⟩ (.int .i64 x)) (Keeps.setCell (S := fun j => j = D) (Keeps.refl _ w) (p := ⟨D, 2, none⟩) (.inl rfl) _) (fun bd bs va h => by subst hx; exact h.set_ 2 _) ⟨rfl, rfl, rfl, rfl, rfl, rfl⟩
  have hx' := Lib.hid hx
  clear hx hb hd
  go_enter Try.func24, Try.ntmps24
  go_wp2
  all_goals
    go_end0
    refine ⟨rfl, ?_⟩
    exact hx'.out _ (by omega)
def Dk.usedA (k : Dk) : Int := if k.down then 0 else k.used
set_option maxHeartbeats 1000000 in
theorem used_calls (k : Dk) (B D : Nat) (O : Nat → Prop) (w : World) (hd : Disk w B D O k) :
    Calls Try.prog 26 #[.pointer (some ⟨D, 0, none⟩)] w fun e w' => e = .returned (.int .i64 k.usedA) ∧ w' = w := by
  obtain ⟨bd, bs, va, hb⟩ := hd.blk
  have qc := hb.cell
  unfold dcells at qc
  clear hb hd
  unfold Dk.usedA
  cases hdn : k.down
  all_goals
    rw [hdn] at qc
    go_enter Try.func26, Try.ntmps26
    go_wp2
    go_ret
    exact ⟨rfl, rfl⟩
def Dk.syncE (k : Dk) (s : List UInt8) : Int := if k.findE s = 0 then errDown k.burns else k.findE s
def Dk.synced (k : Dk) (s : List UInt8) : Dk := if k.findE s = 0 then (if k.burns then k.burn.upd (k.name s) ⟨(k.got (k.name s)).data, (k.got (k.name s)).data.length⟩ else k.burn) else k
set_option maxHeartbeats 2000000 in
set_option maxRecDepth 100000 in
theorem sync_calls (k : Dk) (B D : Nat) (O : Nat → Prop) (s : ByteArray) (w : World) (hd : Disk w B D O k) (hk : k.ok) (hs : s.size ≤ maxLen) :
    Calls Try.prog 38 #[.pointer (some ⟨D, 0, none⟩), .string s] w fun e w' => e = .returned (.int .i64 (k.syncE s.data.toList)) ∧ Goes w B D O (k.synced s.data.toList) w' := by
  have hF := find_calls k B D O s w hd hs
  have hE : k.syncE s.data.toList = if k.findE s.data.toList = 0 then errDown k.burns else k.findE s.data.toList := rfl
  have hC : k.synced s.data.toList = if k.findE s.data.toList = 0 then (if k.burns then k.burn.upd (k.name s.data.toList) ⟨(k.got (k.name s.data.toList)).data, (k.got (k.name s.data.toList)).data.length⟩ else k.burn) else k := rfl
  rw [hE]
  clear hE
  have hFp : ∃ p, ptrV (k.findF s.data.toList) = .pointer p := by cases k.findF s.data.toList <;> exact ⟨_, rfl⟩
  obtain ⟨p, hp⟩ := hFp
  rw [hp] at hF
  have hF' := Lib.hid hF
  clear hF
  by_cases h : k.findE s.data.toList = 0
  · rw [h] at hF'
    simp only [h, if_true] at hC ⊢
    have hC' := Lib.hid hC
    clear hC
    obtain ⟨g1, g2, g3, g4, g5⟩ := findE_got hk h
    rw [g4] at hp
    unfold ptrV at hp
    obtain rfl : p = some ⟨k.name s.data.toList, 0, none⟩ := by simpa using hp.symm
    generalize k.name s.data.toList = f at *
    generalize k.got f = x at *
    clear g1 g2 g3 g4 hp h
    cases hbn : k.burns
    · go_enter Try.func38, Try.ntmps38
      go_wp2_with fail
      refine hF'.out.mono ?_
      rintro e w1 ⟨rfl, b1⟩
      have hd1 := hd.later b1
      have hB := burn_calls k B D O _ hd1 hk.fuse
      rw [hbn] at hB
      have hB' := Lib.hid hB
      clear hB
      go_wp2_with fail
      refine hB'.out.mono ?_
      rintro e w2 ⟨rfl, h2, k2⟩
      unfold errDown
      go_wp2
      go_ret
      refine ⟨rfl, ?_⟩
      rw [hC'.out, hbn]
      exact Goes.at b1 (Goes.same h2 k2)
    · go_enter Try.func38, Try.ntmps38
      go_wp2_with fail
      refine hF'.out.mono ?_
      rintro e w1 ⟨rfl, b1⟩
      have hd1 := hd.later b1
      have hB := burn_calls k B D O _ hd1 hk.fuse
      rw [hbn] at hB
      have hB' := Lib.hid hB
      clear hB
      go_wp2_with fail
      refine hB'.out.mono ?_
      rintro e w2 ⟨rfl, h2, k2⟩
      obtain ⟨v, r1, r2, r3, r4, r5, r6, r7, r8, r9⟩ := h2.refile (f := f) (x := x) (by rw [(burn_same k).2.2.2.1]; exact g5)
      have hw := r9 (w2.setCell ⟨f, 1, none⟩ (.int .i64 x.data.length)) v ⟨x.data, x.data.length⟩ (Keeps.setCell (Keeps.refl _ _) (p := ⟨f, 1, none⟩) (.inl (.inl rfl)) _) (r1.set_ 1 _) (own_keeps r2 (Keeps.setCell (S := fun j => j = f) (Keeps.refl _ w2) (p := ⟨f, 1, none⟩) (.inl rfl) _) (fun g hg e => own_blk_ne r2 r1 (by decide) (by rw [hg, e]))) (fun b hb => .inl hb) (Nat.le_refl _)
      have hw' := Lib.hid hw
      obtain ⟨p2, c2, rfl⟩ := own_slice r2
      have qc := r1.cell
      have qf := r1.frozen
      clear hw r9 r2 r1 hB' hF' hd1 h2
      unfold errDown
      go_wp2
      go_ret
      refine ⟨rfl, ?_⟩
      rw [hC'.out, hbn]
      exact Goes.at b1 (Goes.behind k2 hw'.out)
  · have hne : (k.findE s.data.toList == 0) = false := by simpa using h
    simp only [h, if_false] at hC ⊢
    generalize k.findE s.data.toList = E at *
    have hC' := Lib.hid hC
    have h0 := Lib.hid h
    clear hC h
    go_enter Try.func38, Try.ntmps38
    go_wp2_with fail
    refine hF'.out.mono ?_
    rintro e w1 ⟨rfl, b1⟩
    go_wp2
    go_ret
    exact ⟨rfl, by rw [hC'.out]; exact Goes.same (hd.later b1) (.of_below b1)⟩
end Go.Proofs.Ytgclancneohpbaa
