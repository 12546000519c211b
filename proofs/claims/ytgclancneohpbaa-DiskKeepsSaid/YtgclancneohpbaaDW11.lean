/- Walks: the program's disk: Read, Append. -/
import Derived.Test.YtgclancneohpbaaDW10
namespace Go.Proofs.Ytgclancneohpbaa
open Go.RowKit Go.Maps Go.Shelf
attribute [local go_sem ↓] dapp_op
def Dk.readB (k : Dk) (s : List UInt8) : List UInt8 := if k.findE s = 0 then (k.got (k.name s)).data else []
theorem clone_calls (B : Nat) (v : Value) (l : List UInt8) (w : World) (h : w.ownsRow B 5 1 v l.length (bcells l)) (hl : l.length ≤ 100000000000) :
    Calls Try.prog 53 #[v] w fun e w' => ∃ v', e = .returned v' ∧ w'.ownsRow w.heap.size 5 1 v' l.length (bcells l) ∧ Below w.heap.size w w' := by
  rcases Bytes0.of_own h with ⟨rfl, rfl⟩ | ⟨g, o, c, rfl, _, hc⟩
  · refine (AnyE.slices_Clone_nil Try.cloneB 0 0 w).mono ?_
    rintro e w' ⟨rfl, rfl⟩
    exact ⟨_, rfl, World.ownsRow_nil _ _ _ _, Below.refl _ _⟩
  · obtain ⟨i0, hi, hz0, hz1, hz2⟩ := info_parts info_u8
    refine (AnyE.slices_Clone Try.cloneB i0 (.int .u8 0) 1 1 hi hz0 hz1 hz2 rfl (by decide) (fun w => Try.sizeOf5 w) g o l.length c (bcells l) w (by rw [bcells_length, Nat.mul_one]) (by unfold maxLen; omega) (by omega) (fun j u hj => ?_) (bcells_one l)).mono ?_
    · rw [bcells_get] at hj
      cases hx : l[j]? with
      | none => rw [hx] at hj; cases hj
      | some x =>
        rw [hx] at hj
        obtain rfl := Option.some.inj hj
        exact hc j x hx
    · rintro e w' ⟨v', rfl, h1, _, h3⟩
      exact ⟨v', rfl, h1, h3⟩
def ReadPost (w : World) (E : Int) (l : List UInt8) (e : Ending) (w' : World) : Prop := ∃ v, e = .returned (.tuple #[v, .int .i64 E]) ∧ w'.ownsRow w.heap.size 5 1 v l.length (bcells l) ∧ Below w.heap.size w w'
set_option maxHeartbeats 2000000 in
set_option maxRecDepth 100000 in
theorem read_calls (k : Dk) (B D : Nat) (O : Nat → Prop) (s : ByteArray) (w : World) (hd : Disk w B D O k) (hk : k.ok) (hr : k.room ≤ 4000) (hs : s.size ≤ maxLen) :
    Calls Try.prog 29 #[.pointer (some ⟨D, 0, none⟩), .string s] w (ReadPost w (k.findE s.data.toList) (k.readB s.data.toList)) := by
  have hF := find_calls k B D O s w hd hs
  have hC : k.readB s.data.toList = if k.findE s.data.toList = 0 then (k.got (k.name s.data.toList)).data else [] := rfl
  have hFp : ∃ p, ptrV (k.findF s.data.toList) = .pointer p := by cases k.findF s.data.toList <;> exact ⟨_, rfl⟩
  obtain ⟨p, hp⟩ := hFp
  rw [hp] at hF
  have hF' := Lib.hid hF
  clear hF
  by_cases h : k.findE s.data.toList = 0
  · rw [h] at hF'
    simp only [h, if_true] at hC ⊢
    rw [hC]
    clear hC
    obtain ⟨g1, g2, g3, g4, g5⟩ := findE_got hk h
    rw [g4] at hp
    unfold ptrV at hp
    obtain rfl : p = some ⟨k.name s.data.toList, 0, none⟩ := by simpa using hp.symm
    generalize k.name s.data.toList = f at *
    generalize k.got f = x at *
    have hl := hk.small f x g5
    clear g1 g2 g3 g4 hp h
    go_enter Try.func29, Try.ntmps29
    go_wp2_with fail
    refine hF'.out.mono ?_
    rintro e w1 ⟨rfl, b1⟩
    have hd1 := hd.later b1
    obtain ⟨v, r1, r2, r3, _⟩ := hd1.refile g5
    have hCl := clone_calls B v x.data w1 r2 (by omega)
    have hCl' := Lib.hid hCl
    have qc := r1.cell
    obtain ⟨p2, c2, rfl⟩ := own_slice r2
    clear hCl hF' r2 r1 hd1 g5
    go_wp2_with fail
    refine hCl'.out.mono ?_
    rintro e w2 ⟨v', rfl, h3, b2⟩
    have h3' := Lib.hid h3
    clear h3
    go_wp2
    go_ret2
    refine ⟨v', rfl, ?_, b1.trans (b2.mono b1.size)⟩
    obtain ⟨q1, q2⟩ := h3'.out
    refine ⟨q1, q2.imp id ?_⟩
    rintro ⟨g, cap, cur, q3, q4, q5⟩
    exact ⟨g, cap, cur, q3, Nat.le_trans b1.size q4, q5⟩
  · have hne : (k.findE s.data.toList == 0) = false := by simpa using h
    simp only [h, if_false] at hC ⊢
    rw [hC]
    generalize k.findE s.data.toList = E at *
    have h0 := Lib.hid h
    clear hC h
    go_enter Try.func29, Try.ntmps29
    go_wp2_with fail
    refine hF'.out.mono ?_
    rintro e w1 ⟨rfl, b1⟩
    go_wp2
    go_ret2
    exact ⟨_, rfl, World.ownsRow_nil _ _ _ _, b1⟩
def Dk.appE (k : Dk) (s : List UInt8) (n : Nat) : Int := if k.findE s = 0 then (if k.cap - k.used < n then 5 else errDown k.burns) else k.findE s
def Dk.more (k : Dk) (f : Nat) (b : List UInt8) : Dk := { k.upd f ⟨(k.got f).data ++ b, (k.got f).safe⟩ with used := k.used + b.length, room := k.room + 1 }
def Dk.apped (k : Dk) (s b : List UInt8) : Dk := if k.findE s = 0 then (if k.cap - k.used < b.length then k else if k.burns then k.burn.more (k.name s) b else k.burn) else k
theorem Disk.roomier {w : World} {B D : Nat} {O : Nat → Prop} {k : Dk} (h : Disk w B D O k) : Disk w B D O { k with room := k.room + 1 } := by
  obtain ⟨bd, bs, n, va, rows, hd, hn, rfl⟩ := h
  exact ⟨bd, bs, n, va, rows, ⟨hd.blk, hd.dir, hd.safe, hd.two, hd.acts, hd.file, hd.apart, hd.base⟩, ⟨by show n ≤ k.room + 1; omega, by show k.slots + k.acts.length ≤ k.room + 1; omega⟩, rfl⟩
set_option maxHeartbeats 4000000 in
set_option maxRecDepth 100000 in
theorem append_calls (k : Dk) (B D : Nat) (O : Nat → Prop) (s : ByteArray) (v : Value) (b : List UInt8) (w : World) (hd : Disk w B D O k) (hk : k.ok) (hr : k.room < 4000) (hs : s.size ≤ maxLen) (hB : B ≤ w.heap.size) (hb : Bytes w v b) (hv : ∀ g, v.ownBlock = some g → b ≠ [] → ¬ O g) (hbl : b.length ≤ 65536) :
    Calls Try.prog 25 #[.pointer (some ⟨D, 0, none⟩), .string s, v] w fun e w' => e = .returned (.int .i64 (k.appE s.data.toList b.length)) ∧ Goes w B D O (k.apped s.data.toList b) w' := by
  have hF := find_calls k B D O s w hd hs
  have hE : k.appE s.data.toList b.length = if k.findE s.data.toList = 0 then (if k.cap - k.used < b.length then 5 else errDown k.burns) else k.findE s.data.toList := rfl
  have hC : k.apped s.data.toList b = if k.findE s.data.toList = 0 then (if k.cap - k.used < b.length then k else if k.burns then k.burn.more (k.name s.data.toList) b else k.burn) else k := rfl
  rw [hE]
  clear hE
  have hFp : ∃ p, ptrV (k.findF s.data.toList) = .pointer p := by cases k.findF s.data.toList <;> exact ⟨_, rfl⟩
  obtain ⟨p, hp⟩ := hFp
  rw [hp] at hF
  have hF' := Lib.hid hF
  clear hF
  obtain ⟨pv, cv, rfl⟩ := hb.slice
  have hcap := hk.cap
  have hused : -1000000000000000000 ≤ k.used ∧ k.used ≤ 1000000000000000000 := by have := hk.used; omega
  by_cases h : k.findE s.data.toList = 0
  · rw [h] at hF'
    simp only [h, if_true] at hC ⊢
    obtain ⟨g1, g2, g3, g4, g5⟩ := findE_got hk h
    rw [g4] at hp
    unfold ptrV at hp
    obtain rfl : p = some ⟨k.name s.data.toList, 0, none⟩ := by simpa using hp.symm
    generalize k.name s.data.toList = f at *
    have hl := hk.small f _ g5
    clear g1 g2 g3 g4 hp h
    by_cases hsp : k.cap - k.used < b.length
    · simp only [hsp, if_true] at hC ⊢
      have hC' := Lib.hid hC
      clear hC
      go_enter Try.func25, Try.ntmps25
      go_wp2_with fail
      refine hF'.out.mono ?_
      rintro e w1 ⟨rfl, b1⟩
      have hd1 := hd.later b1
      obtain ⟨bd, bs, va, hblk⟩ := hd1.blk
      have qc := hblk.cell
      unfold dcells at qc
      clear hblk hd1 hF'
      go_wp2_with fail
      go_quiet (fail)
      go_wp2
      go_ret
      refine ⟨rfl, ?_⟩
      rw [hC'.out]
      exact Goes.same (hd.later (bdrewN b1 _)) (.of_below (bdrewN b1 _))
    · simp only [hsp, if_false] at hC ⊢
      cases hbn : k.burns
      · rw [hbn] at hC
        have hC' := Lib.hid hC
        clear hC
        go_enter Try.func25, Try.ntmps25
        go_wp2_with fail
        refine hF'.out.mono ?_
        rintro e w1 ⟨rfl, b1⟩
        have hd1 := hd.later b1
        obtain ⟨bd, bs, va, hblk⟩ := hd1.blk
        have qc := hblk.cell
        unfold dcells at qc
        clear hblk hF'
        go_wp2_with fail
        go_quiet (fail)
        rename_i nq
        have hB := burn_calls k B D O _ (hd.later (bdrewN b1 nq)) hk.fuse
        rw [hbn] at hB
        have hB' := Lib.hid hB
        clear hB
        go_wp2_with fail
        refine hB'.out.mono ?_
        rintro e w2 ⟨rfl, h2, k2⟩
        unfold errDown
        go_wp2
        go_ret
        refine ⟨rfl, ?_⟩
        rw [hC'.out]
        exact Goes.at (bdrewN b1 nq) (Goes.same h2 k2)
      · rw [hbn] at hC
        have hC' := Lib.hid hC
        clear hC
        go_enter Try.func25, Try.ntmps25
        go_wp2_with fail
        refine hF'.out.mono ?_
        rintro e w1 ⟨rfl, b1⟩
        have hd1 := hd.later b1
        obtain ⟨bd, bs, va, hblk⟩ := hd1.blk
        have qc := hblk.cell
        unfold dcells at qc
        clear hblk hF'
        go_wp2_with fail
        go_quiet (fail)
        rename_i nq
        have hB := burn_calls k B D O _ (hd.later (bdrewN b1 nq)) hk.fuse
        rw [hbn] at hB
        have hB' := Lib.hid hB
        clear hB
        go_wp2_with fail
        refine hB'.out.mono ?_
        rintro e w2 ⟨rfl, h2, k2⟩
        obtain ⟨r, r1, r2, r3, r4, r5, r6, r7, r8, r9⟩ := h2.refile (f := f) (x := k.got f) (by rw [(burn_same k).2.2.2.1]; exact g5)
        have hb2 : Bytes w2 (.slice pv b.length cv) b := (hb.later (bdrewN b1 nq)).keepsP k2 hv
        obtain ⟨v', w3, e3, o3, g3, l3⟩ := bytes_append r2 hb2 (by omega) (by have := k2.size; have := b1.size; simp at *; omega)
        obtain ⟨pn, cn, hv'⟩ := own_slice o3
        generalize ((k.got f).data ++ b).length = N at hv'
        have kg : Keeps (fun j => r.ownBlock = some j) w2 w3 := (Keeps.refl _ w2).grown g3 (fun j e => .inl e)
        have r1' := r1.keeps kg (fun e => own_blk_ne r2 r1 (by decide) e)
        have nf : v'.ownBlock ≠ some f := own_blk_ne o3 r1' (by decide)
        have hw := r9 (w3.setCell ⟨f, 0, none⟩ v') v' ⟨(k.got f).data ++ b, (k.got f).safe⟩ ((kg.mono (fun _ _ e => .inr e)).setCell (p := ⟨f, 0, none⟩) (.inl (.inl rfl)) _) (r1'.set_ 0 _) (own_keeps o3 (Keeps.setCell (S := fun j => j = f) (Keeps.refl _ w3) (p := ⟨f, 0, none⟩) (.inl rfl) _) (fun g hg e => nf (by rw [hg, e]))) (fun j hj => by
          rcases l3 with e | e
          · exact .inl (by rw [← e]; exact hj)
          · rw [e] at hj; exact .inr (by have := Option.some.inj hj; omega)) (by simp; omega)
        obtain ⟨O3, hd3, hg3⟩ := hw.next
        obtain ⟨bd3, bs3, va3, hblk3'⟩ := h2.blk
        have hblk3 := hblk3'.keeps kg r7
        have hlast := hd3.field (w' := (w3.setCell ⟨f, 0, none⟩ v').setCell ⟨D, 6, none⟩ (.int .i64 (k.used + b.length))) (k' := { k.burn.upd f ⟨(k.got f).data ++ b, (k.got f).safe⟩ with used := k.used + b.length }) (Keeps.setCell (S := fun j => j = D) (Keeps.refl _ _) (p := ⟨D, 6, none⟩) (.inl rfl) _) (fun bd bs va h => h.set_ 6 _) ⟨rfl, rfl, rfl, rfl, rfl, rfl⟩
        have hgo : Goes w2 B D O (k.burn.more f b) ((w3.setCell ⟨f, 0, none⟩ v').setCell ⟨D, 6, none⟩ (.int .i64 (k.used + b.length))) := by
          refine hg3 _ _ (Goes.same ?_ hlast.2)
          have := hlast.1.roomier
          unfold Dk.more Dk.got
          rw [(burn_same k).2.2.2.1, (burn_same k).2.2.2.2.2.1]
          exact this
        have hgo' := Lib.hid hgo
        have e1 : (dappOp _ _ _).run Try.prog _ = _ := e3
        have qc := r1.cell
        have qf := r1'.frozen
        have qcf3 := r1'.cell
        have qc3 := hblk3.cell
        have qf3 := hblk3.frozen
        unfold dcells at qc3
        have hbu : k.burn.used = k.used := (burn_same k).2.2.2.2.2.1
        rw [hbu] at qc3
        subst hv'
        clear hw r9 r2 hB' hd1 h2 hlast hd3 hg3 hblk3 hblk3' hbu e3 hb2 hb
        unfold errDown
        go_wp2
        go_ret
        refine ⟨rfl, ?_⟩
        rw [hC'.out]
        exact Goes.at (bdrewN b1 nq) (Goes.behind k2 hgo'.out)
  · have hne : (k.findE s.data.toList == 0) = false := by simpa using h
    simp only [h, if_false] at hC ⊢
    generalize k.findE s.data.toList = E at *
    have hC' := Lib.hid hC
    have h0 := Lib.hid h
    clear hC h
    go_enter Try.func25, Try.ntmps25
    go_wp2_with fail
    refine hF'.out.mono ?_
    rintro e w1 ⟨rfl, b1⟩
    go_wp2
    go_ret
    exact ⟨rfl, by rw [hC'.out]; exact Goes.same (hd.later b1) (.of_below b1)⟩
end Go.Proofs.Ytgclancneohpbaa
