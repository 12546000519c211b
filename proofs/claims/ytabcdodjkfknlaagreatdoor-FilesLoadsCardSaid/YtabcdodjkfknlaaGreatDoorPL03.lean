/- Walks: the program's disk: Fuse, Used, Sync. Walks: the program's disk: Read, Append. Disks that may be stay so. Walks: the program's disk: SyncDir. Walks: the program's disk: Rename, Remove. Contracts of the Go library on sorted keys of a map, laid at this translation by a program of the kit: maps.Keys, slices.Sorted, slices.Sort; each under the premises that it states. -/
import Derived.Test.YtabcdodjkfknlaaGreatDoorPL02
import Derived.Shelf.SlIter.Nil
import Derived.Shelf.SortM.Plain
import Derived.Shelf.SortM.SortNone
import Derived.Test.YtabcdodjkfknlaaGreatDoorProg
namespace Go.Proofs.YtabcdodjkfknlaaGreatDoor
open Go.RowKit Go.Maps Go.Shelf
def Dk.fused (k : Dk) (n : Int) : Dk := { k with fuse := max n (-1) }
def Dk.usedA (k : Dk) : Int := if k.down then 0 else k.used
def Dk.syncE (k : Dk) (s : List UInt8) : Int := if k.findE s = 0 then errDown k.burns else k.findE s
def Dk.synced (k : Dk) (s : List UInt8) : Dk := if k.findE s = 0 then (if k.burns then k.burn.upd (k.name s) ⟨(k.got (k.name s)).data, (k.got (k.name s)).data.length⟩ else k.burn) else k
set_option maxHeartbeats 2000000 in
set_option maxRecDepth 100000 in
theorem sync_calls (k : Dk) (B D : Nat) (O : Nat → Prop) (s : ByteArray) (w : World) (hd : Disk w B D O k) (hk : k.ok) (hs : s.size ≤ maxLen) :
    Calls Tryz.prog 97 #[.pointer (some ⟨D, 0, none⟩), .string s] w fun e w' => e = .returned (.int .i64 (k.syncE s.data.toList)) ∧ Goes w B D O (k.synced s.data.toList) w' := by
  have hF := find_calls k B D O s w hd hs
  have hE : k.syncE s.data.toList = if k.findE s.data.toList = 0 then errDown k.burns else k.findE s.data.toList := rfl
  have hC : k.synced s.data.toList = if k.findE s.data.toList = 0 then (if k.burns then k.burn.upd (k.name s.data.toList) ⟨(k.got (k.name s.data.toList)).data, (k.got (k.name s.data.toList)).data.length⟩ else k.burn) else k := rfl
  rw [hE]
  clear hE
  have hFp : ∃ p, ptrV (k.findF s.data.toList) = .pointer p := by cases k.findF s.data.toList <;> exact ⟨_, rfl⟩
  obtain ⟨p, hp⟩ := hFp
  rw [hp] at hF
  have hF' := Lib.hid hF
  clear hF
  by_cases h : k.findE s.data.toList = 0
  · rw [h] at hF'
    simp only [h, if_true] at hC ⊢
    have hC' := Lib.hid hC
    clear hC
    obtain ⟨g1, g2, g3, g4, g5⟩ := findE_got hk h
    rw [g4] at hp
    unfold ptrV at hp
    obtain rfl : p = some ⟨k.name s.data.toList, 0, none⟩ := by simpa using hp.symm
    generalize k.name s.data.toList = f at *
    generalize k.got f = x at *
    clear g1 g2 g3 g4 hp h
    cases hbn : k.burns
    · go_enter Tryz.func97, Tryz.ntmps97
      go_wp2_with fail
      refine hF'.out.mono ?_
      rintro e w1 ⟨rfl, b1⟩
      have hd1 := hd.later b1
      have hB := burn_calls k B D O _ hd1 hk.fuse
      rw [hbn] at hB
      have hB' := Lib.hid hB
      clear hB
      go_wp2_with fail
      refine hB'.out.mono ?_
      rintro e w2 ⟨rfl, h2, k2⟩
      unfold errDown
      go_wp2
      go_ret
      refine ⟨rfl, ?_⟩
      rw [hC'.out, hbn]
      exact Goes.at b1 (Goes.same h2 k2)
    · go_enter Tryz.func97, Tryz.ntmps97
      go_wp2_with fail
      refine hF'.out.mono ?_
      rintro e w1 ⟨rfl, b1⟩
      have hd1 := hd.later b1
      have hB := burn_calls k B D O _ hd1 hk.fuse
      rw [hbn] at hB
      have hB' := Lib.hid hB
      clear hB
      go_wp2_with fail
      refine hB'.out.mono ?_
      rintro e w2 ⟨rfl, h2, k2⟩
      obtain ⟨v, r1, r2, r3, r4, r5, r6, r7, r8, r9⟩ := h2.refile (f := f) (x := x) (by rw [(burn_same k).2.2.2.1]; exact g5)
      have hw := r9 (w2.setCell ⟨f, 1, none⟩ (.int .i64 x.data.length)) v ⟨x.data, x.data.length⟩ (Keeps.setCell (Keeps.refl _ _) (p := ⟨f, 1, none⟩) (.inl (.inl rfl)) _) (r1.set_ 1 _) (own_keeps r2 (Keeps.setCell (S := fun j => j = f) (Keeps.refl _ w2) (p := ⟨f, 1, none⟩) (.inl rfl) _) (fun g hg e => own_blk_ne r2 r1 (by decide) (by rw [hg, e]))) (fun b hb => .inl hb) (Nat.le_refl _)
      have hw' := Lib.hid hw
      obtain ⟨p2, c2, rfl⟩ := own_slice r2
      have qc := r1.cell
      have qf := r1.frozen
      clear hw r9 r2 r1 hB' hF' hd1 h2
      unfold errDown
      go_wp2
      go_ret
      refine ⟨rfl, ?_⟩
      rw [hC'.out, hbn]
      exact Goes.at b1 (Goes.behind k2 hw'.out)
  · have hne : (k.findE s.data.toList == 0) = false := by simpa using h
    simp only [h, if_false] at hC ⊢
    generalize k.findE s.data.toList = E at *
    have hC' := Lib.hid hC
    have h0 := Lib.hid h
    clear hC h
    go_enter Tryz.func97, Tryz.ntmps97
    go_wp2_with fail
    refine hF'.out.mono ?_
    rintro e w1 ⟨rfl, b1⟩
    go_wp2
    go_ret
    exact ⟨rfl, by rw [hC'.out]; exact Goes.same (hd.later b1) (.of_below b1)⟩
end Go.Proofs.YtabcdodjkfknlaaGreatDoor
namespace Go.Proofs.YtabcdodjkfknlaaGreatDoor
open Go.RowKit Go.Maps Go.Shelf
attribute [local go_sem ↓] dapp_op
def Dk.readB (k : Dk) (s : List UInt8) : List UInt8 := if k.findE s = 0 then (k.got (k.name s)).data else []
theorem clone_calls (B : Nat) (v : Value) (l : List UInt8) (w : World) (h : w.ownsRow B 5 1 v l.length (bcells l)) (hl : l.length ≤ 100000000000) :
    Calls Tryz.prog 101 #[v] w fun e w' => ∃ v', e = .returned v' ∧ w'.ownsRow w.heap.size 5 1 v' l.length (bcells l) ∧ Below w.heap.size w w' := by
  rcases Bytes0.of_own h with ⟨rfl, rfl⟩ | ⟨g, o, c, rfl, _, hc⟩
  · refine (AnyE.slices_Clone_nil Tryz.cloneB 0 0 w).mono ?_
    rintro e w' ⟨rfl, rfl⟩
    exact ⟨_, rfl, World.ownsRow_nil _ _ _ _, Below.refl _ _⟩
  · obtain ⟨i0, hi, hz0, hz1, hz2⟩ := info_parts info_u8
    refine (AnyE.slices_Clone Tryz.cloneB i0 (.int .u8 0) 1 1 hi hz0 hz1 hz2 rfl (by decide) (fun w => Tryz.sizeOf5 w) g o l.length c (bcells l) w (by rw [bcells_length, Nat.mul_one]) (by unfold maxLen; omega) (by omega) (fun j u hj => ?_) (bcells_one l)).mono ?_
    · rw [bcells_get] at hj
      cases hx : l[j]? with
      | none => rw [hx] at hj; cases hj
      | some x =>
        rw [hx] at hj
        obtain rfl := Option.some.inj hj
        exact hc j x hx
    · rintro e w' ⟨v', rfl, h1, _, h3⟩
      exact ⟨v', rfl, h1, h3⟩
def ReadPost (w : World) (E : Int) (l : List UInt8) (e : Ending) (w' : World) : Prop := ∃ v, e = .returned (.tuple #[v, .int .i64 E]) ∧ w'.ownsRow w.heap.size 5 1 v l.length (bcells l) ∧ Below w.heap.size w w'
set_option maxHeartbeats 2000000 in
set_option maxRecDepth 100000 in
theorem read_calls (k : Dk) (B D : Nat) (O : Nat → Prop) (s : ByteArray) (w : World) (hd : Disk w B D O k) (hk : k.ok) (hr : k.room ≤ 4000) (hs : s.size ≤ maxLen) :
    Calls Tryz.prog 59 #[.pointer (some ⟨D, 0, none⟩), .string s] w (ReadPost w (k.findE s.data.toList) (k.readB s.data.toList)) := by
  have hF := find_calls k B D O s w hd hs
  have hC : k.readB s.data.toList = if k.findE s.data.toList = 0 then (k.got (k.name s.data.toList)).data else [] := rfl
  have hFp : ∃ p, ptrV (k.findF s.data.toList) = .pointer p := by cases k.findF s.data.toList <;> exact ⟨_, rfl⟩
  obtain ⟨p, hp⟩ := hFp
  rw [hp] at hF
  have hF' := Lib.hid hF
  clear hF
  by_cases h : k.findE s.data.toList = 0
  · rw [h] at hF'
    simp only [h, if_true] at hC ⊢
    rw [hC]
    clear hC
    obtain ⟨g1, g2, g3, g4, g5⟩ := findE_got hk h
    rw [g4] at hp
    unfold ptrV at hp
    obtain rfl : p = some ⟨k.name s.data.toList, 0, none⟩ := by simpa using hp.symm
    generalize k.name s.data.toList = f at *
    generalize k.got f = x at *
    have hl := hk.small f x g5
    clear g1 g2 g3 g4 hp h
    go_enter Tryz.func59, Tryz.ntmps59
    go_wp2_with fail
    refine hF'.out.mono ?_
    rintro e w1 ⟨rfl, b1⟩
    have hd1 := hd.later b1
    obtain ⟨v, r1, r2, r3, _⟩ := hd1.refile g5
    have hCl := clone_calls B v x.data w1 r2 (by omega)
    have hCl' := Lib.hid hCl
    have qc := r1.cell
    obtain ⟨p2, c2, rfl⟩ := own_slice r2
    clear hCl hF' r2 r1 hd1 g5
    go_wp2_with fail
    refine hCl'.out.mono ?_
    rintro e w2 ⟨v', rfl, h3, b2⟩
    have h3' := Lib.hid h3
    clear h3
    go_wp2
    go_ret2
    refine ⟨v', rfl, ?_, b1.trans (b2.mono b1.size)⟩
    obtain ⟨q1, q2⟩ := h3'.out
    refine ⟨q1, q2.imp id ?_⟩
    rintro ⟨g, cap, cur, q3, q4, q5⟩
    exact ⟨g, cap, cur, q3, Nat.le_trans b1.size q4, q5⟩
  · have hne : (k.findE s.data.toList == 0) = false := by simpa using h
    simp only [h, if_false] at hC ⊢
    rw [hC]
    generalize k.findE s.data.toList = E at *
    have h0 := Lib.hid h
    clear hC h
    go_enter Tryz.func59, Tryz.ntmps59
    go_wp2_with fail
    refine hF'.out.mono ?_
    rintro e w1 ⟨rfl, b1⟩
    go_wp2
    go_ret2
    exact ⟨_, rfl, World.ownsRow_nil _ _ _ _, b1⟩
def Dk.appE (k : Dk) (s : List UInt8) (n : Nat) : Int := if k.findE s = 0 then (if k.cap - k.used < n then 5 else errDown k.burns) else k.findE s
def Dk.more (k : Dk) (f : Nat) (b : List UInt8) : Dk := { k.upd f ⟨(k.got f).data ++ b, (k.got f).safe⟩ with used := k.used + b.length, room := k.room + 1 }
def Dk.apped (k : Dk) (s b : List UInt8) : Dk := if k.findE s = 0 then (if k.cap - k.used < b.length then k else if k.burns then k.burn.more (k.name s) b else k.burn) else k
theorem Disk.roomier {w : World} {B D : Nat} {O : Nat → Prop} {k : Dk} (h : Disk w B D O k) : Disk w B D O { k with room := k.room + 1 } := by
  obtain ⟨bd, bs, n, va, rows, hd, hn, rfl⟩ := h
  exact ⟨bd, bs, n, va, rows, ⟨hd.blk, hd.dir, hd.safe, hd.two, hd.acts, hd.file, hd.apart, hd.base⟩, ⟨by show n ≤ k.room + 1; omega, by show k.slots + k.acts.length ≤ k.room + 1; omega⟩, rfl⟩
set_option maxHeartbeats 4000000 in
set_option maxRecDepth 100000 in
theorem append_calls (k : Dk) (B D : Nat) (O : Nat → Prop) (s : ByteArray) (v : Value) (b : List UInt8) (w : World) (hd : Disk w B D O k) (hk : k.ok) (hr : k.room < 4000) (hs : s.size ≤ maxLen) (hB : B ≤ w.heap.size) (hb : Bytes w v b) (hv : ∀ g, v.ownBlock = some g → b ≠ [] → ¬ O g) (hbl : b.length ≤ 65536) :
    Calls Tryz.prog 21 #[.pointer (some ⟨D, 0, none⟩), .string s, v] w fun e w' => e = .returned (.int .i64 (k.appE s.data.toList b.length)) ∧ Goes w B D O (k.apped s.data.toList b) w' := by
  have hF := find_calls k B D O s w hd hs
  have hE : k.appE s.data.toList b.length = if k.findE s.data.toList = 0 then (if k.cap - k.used < b.length then 5 else errDown k.burns) else k.findE s.data.toList := rfl
  have hC : k.apped s.data.toList b = if k.findE s.data.toList = 0 then (if k.cap - k.used < b.length then k else if k.burns then k.burn.more (k.name s.data.toList) b else k.burn) else k := rfl
  rw [hE]
  clear hE
  have hFp : ∃ p, ptrV (k.findF s.data.toList) = .pointer p := by cases k.findF s.data.toList <;> exact ⟨_, rfl⟩
  obtain ⟨p, hp⟩ := hFp
  rw [hp] at hF
  have hF' := Lib.hid hF
  clear hF
  obtain ⟨pv, cv, rfl⟩ := hb.slice
  have hcap := hk.cap
  have hused : -1000000000000000000 ≤ k.used ∧ k.used ≤ 1000000000000000000 := by have := hk.used; omega
  by_cases h : k.findE s.data.toList = 0
  · rw [h] at hF'
    simp only [h, if_true] at hC ⊢
    obtain ⟨g1, g2, g3, g4, g5⟩ := findE_got hk h
    rw [g4] at hp
    unfold ptrV at hp
    obtain rfl : p = some ⟨k.name s.data.toList, 0, none⟩ := by simpa using hp.symm
    generalize k.name s.data.toList = f at *
    have hl := hk.small f _ g5
    clear g1 g2 g3 g4 hp h
    by_cases hsp : k.cap - k.used < b.length
    · simp only [hsp, if_true] at hC ⊢
      have hC' := Lib.hid hC
      clear hC
      go_enter Tryz.func21, Tryz.ntmps21
      go_wp2_with fail
      refine hF'.out.mono ?_
      rintro e w1 ⟨rfl, b1⟩
      have hd1 := hd.later b1
      obtain ⟨bd, bs, va, hblk⟩ := hd1.blk
      have qc := hblk.cell
      unfold dcells at qc
      clear hblk hd1 hF'
      go_wp2_with fail
      go_quiet (fail)
      go_wp2
      go_ret
      refine ⟨rfl, ?_⟩
      rw [hC'.out]
      exact Goes.same (hd.later (bdrewN b1 _)) (.of_below (bdrewN b1 _))
    · simp only [hsp, if_false] at hC ⊢
      cases hbn : k.burns
      · rw [hbn] at hC
        have hC' := Lib.hid hC
        clear hC
        go_enter Tryz.func21, Tryz.ntmps21
        go_wp2_with fail
        refine hF'.out.mono ?_
        rintro e w1 ⟨rfl, b1⟩
        have hd1 := hd.later b1
        obtain ⟨bd, bs, va, hblk⟩ := hd1.blk
        have qc := hblk.cell
        unfold dcells at qc
        clear hblk hF'
        go_wp2_with fail
        go_quiet (fail)
        rename_i nq
        have hB := burn_calls k B D O _ (hd.later (bdrewN b1 nq)) hk.fuse
        rw [hbn] at hB
        have hB' := Lib.hid hB
        clear hB
        go_wp2_with fail
        refine hB'.out.mono ?_
        rintro e w2 ⟨rfl, h2, k2⟩
        unfold errDown
        go_wp2
        go_ret
        refine ⟨rfl, ?_⟩
        rw [hC'.out]
        exact Goes.at (bdrewN b1 nq) (Goes.same h2 k2)
      · rw [hbn] at hC
        have hC' := Lib.hid hC
        clear hC
        go_enter Tryz.func21, Tryz.ntmps21
        go_wp2_with fail
        refine hF'.out.mono ?_
        rintro e w1 ⟨rfl, b1⟩
        have hd1 := hd.later b1
        obtain ⟨bd, bs, va, hblk⟩ := hd1.blk
        have qc := hblk.cell
        unfold dcells at qc
        clear hblk hF'
        go_wp2_with fail
        go_quiet (fail)
        rename_i nq
        have hB := burn_calls k B D O _ (hd.later (bdrewN b1 nq)) hk.fuse
        rw [hbn] at hB
        have hB' := Lib.hid hB
        clear hB
        go_wp2_with fail
        refine hB'.out.mono ?_
        rintro e w2 ⟨rfl, h2, k2⟩
        obtain ⟨r, r1, r2, r3, r4, r5, r6, r7, r8, r9⟩ := h2.refile (f := f) (x := k.got f) (by rw [(burn_same k).2.2.2.1]; exact g5)
        have hb2 : Bytes w2 (.slice pv b.length cv) b := (hb.later (bdrewN b1 nq)).keepsP k2 hv
        obtain ⟨v', w3, e3, o3, g3, l3⟩ := bytes_append r2 hb2 (by omega) (by have := k2.size; have := b1.size; simp at *; omega)
        obtain ⟨pn, cn, hv'⟩ := own_slice o3
        generalize ((k.got f).data ++ b).length = N at hv'
        have kg : Keeps (fun j => r.ownBlock = some j) w2 w3 := (Keeps.refl _ w2).grown g3 (fun j e => .inl e)
        have r1' := r1.keeps kg (fun e => own_blk_ne r2 r1 (by decide) e)
        have nf : v'.ownBlock ≠ some f := own_blk_ne o3 r1' (by decide)
        have hw := r9 (w3.setCell ⟨f, 0, none⟩ v') v' ⟨(k.got f).data ++ b, (k.got f).safe⟩ ((kg.mono (fun _ _ e => .inr e)).setCell (p := ⟨f, 0, none⟩) (.inl (.inl rfl)) _) (r1'.set_ 0 _) (own_keeps o3 (Keeps.setCell (S := fun j => j = f) (Keeps.refl _ w3) (p := ⟨f, 0, none⟩) (.inl rfl) _) (fun g hg e => nf (by rw [hg, e]))) (fun j hj => by
          rcases l3 with e | e
          · exact .inl (by rw [← e]; exact hj)
          · rw [e] at hj; exact .inr (by have := Option.some.inj hj; omega)) (by simp; omega)
        obtain ⟨O3, hd3, hg3⟩ := hw.next
        obtain ⟨bd3, bs3, va3, hblk3'⟩ := h2.blk
        have hblk3 := hblk3'.keeps kg r7
        have hlast := hd3.field (w' := (w3.setCell ⟨f, 0, none⟩ v').setCell ⟨D, 6, none⟩ (.int .i64 (k.used + b.length))) (k' := { k.burn.upd f ⟨(k.got f).data ++ b, (k.got f).safe⟩ with used := k.used + b.length }) (Keeps.setCell (S := fun j => j = D) (Keeps.refl _ _) (p := ⟨D, 6, none⟩) (.inl rfl) _) (fun bd bs va h => h.set_ 6 _) ⟨rfl, rfl, rfl, rfl, rfl, rfl⟩
        have hgo : Goes w2 B D O (k.burn.more f b) ((w3.setCell ⟨f, 0, none⟩ v').setCell ⟨D, 6, none⟩ (.int .i64 (k.used + b.length))) := by
          refine hg3 _ _ (Goes.same ?_ hlast.2)
          have := hlast.1.roomier
          unfold Dk.more Dk.got
          rw [(burn_same k).2.2.2.1, (burn_same k).2.2.2.2.2.1]
          exact this
        have hgo' := Lib.hid hgo
        have e1 : (dappOp _ _ _).run Tryz.prog _ = _ := e3
        have qc := r1.cell
        have qf := r1'.frozen
        have qcf3 := r1'.cell
        have qc3 := hblk3.cell
        have qf3 := hblk3.frozen
        unfold dcells at qc3
        have hbu : k.burn.used = k.used := (burn_same k).2.2.2.2.2.1
        rw [hbu] at qc3
        subst hv'
        clear hw r9 r2 hB' hd1 h2 hlast hd3 hg3 hblk3 hblk3' hbu e3 hb2 hb
        unfold errDown
        go_wp2
        go_ret
        refine ⟨rfl, ?_⟩
        rw [hC'.out]
        exact Goes.at (bdrewN b1 nq) (Goes.behind k2 hgo'.out)
  · have hne : (k.findE s.data.toList == 0) = false := by simpa using h
    simp only [h, if_false] at hC ⊢
    generalize k.findE s.data.toList = E at *
    have hC' := Lib.hid hC
    have h0 := Lib.hid h
    clear hC h
    go_enter Tryz.func21, Tryz.ntmps21
    go_wp2_with fail
    refine hF'.out.mono ?_
    rintro e w1 ⟨rfl, b1⟩
    go_wp2
    go_ret
    exact ⟨rfl, by rw [hC'.out]; exact Goes.same (hd.later b1) (.of_below b1)⟩
end Go.Proofs.YtabcdodjkfknlaaGreatDoor
namespace Go.Proofs.YtabcdodjkfknlaaGreatDoor
open Go.RowKit Go.Maps Go.Shelf
theorem Dk.burn_ok {k : Dk} (h : k.ok) : k.burn.ok := by
  obtain ⟨s1, s2, s3, s4, s5, s6, s7, s8⟩ := burn_same k
  refine ⟨by rw [s7]; exact h.cap, ?_, by rw [s5, s6]; exact h.used, by rw [s1, s4]; exact h.live, by rw [s2, s4]; exact h.slive, by rw [s3, s4]; exact h.acts, by rw [s4, s5]; exact h.small⟩
  have := h.fuse
  unfold Dk.burn
  split
  · exact this
  · split
    · constructor
      · show -1 ≤ k.fuse - 1; omega
      · show k.fuse - 1 < _; omega
    · exact this
theorem Dk.size_le {k : Dk} (h : k.ok) (f : Nat) : k.size f ≤ k.room * 65536 := by
  unfold Dk.size
  cases hf : k.file f with
  | none => simp
  | some x => exact h.small f x hf
theorem Dk.usedBy_le {k : Dk} (h : k.ok) (a : DAct) : k.used - k.room * 65536 ≤ k.usedBy a ∧ k.usedBy a ≤ k.used := by
  unfold Dk.usedBy
  split
  · omega
  · rename_i f _
    have := Dk.size_le h f
    split <;> omega
theorem does_live {k : Dk} {a : DAct} {g : List UInt8 → Option Nat} (hg : ∀ s f, g s = some f → (k.file f).isSome = true) (ha : ∀ p, a.file = some p → (k.file p).isSome = true) : ∀ s f, a.does g s = some f → (k.file f).isSome = true := by
  intro s f h
  unfold DAct.does at h
  have hd : ∀ f, (if a.frm.toList.isEmpty then g else drop g a.frm.data.toList) s = some f → (k.file f).isSome = true := by
    intro f h
    split at h
    · exact hg s f h
    · unfold drop at h
      split at h
      · cases h
      · exact hg s f h
  cases hf : a.file with
  | none => rw [hf] at h; exact hd f h
  | some p =>
    rw [hf] at h
    change lay _ _ p s = some f at h
    unfold lay at h
    split at h
    · obtain rfl := Option.some.inj h
      exact ha p hf
    · exact hd f h
theorem Dk.did_ok {k : Dk} (h : k.ok) (hr : k.room < 4000) {a : DAct} (ha : a.ok) (hl : ∀ p, a.file = some p → (k.file p).isSome = true) : (k.did a).ok ∧ k.used - k.room * 65536 ≤ (k.did a).used ∧ (k.did a).used ≤ k.used := by
  have hb := Dk.burn_ok h
  obtain ⟨s1, s2, s3, s4, s5, s6, s7, s8⟩ := burn_same k
  have hu := Dk.usedBy_le hb a
  rw [s5, s6] at hu
  have h1 := h.used
  refine ⟨⟨hb.cap, hb.fuse, ?_, ?_, ?_, ?_, ?_⟩, hu⟩
  · have e : (k.did a).used = k.burn.usedBy a := rfl
    have e2 : (k.did a).room = k.room + 1 := by show k.burn.room + 1 = _; rw [s5]
    rw [e, e2]
    omega
  · intro s f hs
    have e : (k.did a).dir = a.does k.burn.dir := rfl
    rw [e] at hs
    exact does_live (k := k.burn) hb.live (by rw [s4]; exact hl) s f hs
  · exact hb.slive
  · intro a' ha'
    have e : (k.did a).acts = k.burn.acts ++ [a] := rfl
    rw [e] at ha'
    rcases List.mem_append.1 ha' with h' | h'
    · exact hb.acts a' h'
    · simp at h'
      subst h'
      refine ⟨ha, ?_⟩
      show ∀ p, a'.file = some p → (k.burn.file p).isSome = true
      rw [s4]; exact hl
  · intro f x hx
    have e2 : (k.did a).room = k.room + 1 := by show k.burn.room + 1 = _; rw [s5]
    have := hb.small f x hx
    rw [s5] at this
    rw [e2]
    exact Nat.le_trans this (Nat.mul_le_mul_right _ (Nat.le_succ _))
theorem Dk.more_ok {k : Dk} (h : k.ok) {f : Nat} {b : List UInt8} (hf : (k.file f).isSome = true) (hb : b.length ≤ 65536) : (k.more f b).ok := by
  obtain ⟨x, hx⟩ := Option.isSome_iff_exists.1 hf
  have hs := h.small f x hx
  have hg : k.got f = x := by unfold Dk.got; rw [hx]; rfl
  have hu := h.used
  have hup : ∀ p, (k.file p).isSome = true → ((k.more f b).file p).isSome = true := fun p hp => k.upd_live f _ p hp
  refine ⟨h.cap, h.fuse, ?_, fun s p hp => hup p (h.live s p hp), fun s p hp => hup p (h.slive s p hp), fun a ha => ⟨(h.acts a ha).1, fun p hp => hup p ((h.acts a ha).2 p hp)⟩, ?_⟩
  · have e1 : (k.more f b).used = k.used + b.length := rfl
    have e2 : (k.more f b).room = k.room + 1 := rfl
    rw [e1, e2]
    omega
  · intro p y hy
    show y.data.length ≤ (k.room + 1) * 65536
    have e : (k.more f b).file = (k.upd f ⟨(k.got f).data ++ b, (k.got f).safe⟩).file := rfl
    rw [e] at hy
    unfold Dk.upd at hy
    simp only at hy
    split at hy
    · obtain rfl := Option.some.inj hy
      rw [hg]
      simp only [List.length_append]
      omega
    · exact Nat.le_trans (h.small p y hy) (Nat.mul_le_mul_right _ (Nat.le_succ _))
theorem Dk.apped_ok {k : Dk} (h : k.ok) {s b : List UInt8} (hb : b.length ≤ 65536) : (k.apped s b).ok := by
  unfold Dk.apped
  split
  · rename_i h0
    split
    · exact h
    · split
      · refine Dk.more_ok (Dk.burn_ok h) ?_ hb
        rw [(burn_same k).2.2.2.1, (findE_got h h0).2.2.2.2]
        rfl
      · exact Dk.burn_ok h
  · exact h
theorem Dk.synced_ok {k : Dk} (h : k.ok) {s : List UInt8} : (k.synced s).ok := by
  unfold Dk.synced
  split
  · rename_i h0
    split
    · refine (Dk.burn_ok h).upd _ _ ?_
      have := h.small _ _ (findE_got h h0).2.2.2.2
      rw [(burn_same k).2.2.2.2.1]
      exact this
    · exact Dk.burn_ok h
  · exact h
theorem Dk.created_ok {k : Dk} (h : k.ok) (hr : k.room < 4000) {f : Nat} {s : ByteArray} (hs : s.size ≤ maxLen) : (k.created f s).ok := by
  unfold Dk.created
  split
  · rename_i h0
    have hu := h.upd f ⟨[], 0⟩ (Nat.zero_le _)
    split
    · refine (Dk.did_ok hu hr ⟨by show (0 : Nat) ≤ maxLen; decide, hs, ?_⟩ ?_).1
      · show true = !s.toList.isEmpty
        rw [dName_ne (findE_miss h0).2.1]; rfl
      · rintro p e
        obtain rfl := Option.some.inj e
        unfold Dk.upd; simp
    · exact Dk.burn_ok hu
  · exact h
end Go.Proofs.YtabcdodjkfknlaaGreatDoor
namespace Go.Proofs.YtabcdodjkfknlaaGreatDoor
open Go.RowKit Go.Maps Go.Shelf
def Dk.saved (k : Dk) : Dk := { k with safe := k.dir, acts := [], slots := k.room }
theorem map_again {w w' : World} {b b' n : Nat} {X : DataW Unit} {es : Array MapEntry} {clock : Nat} (h : w.ownsMap Tryz.prog 9 ptrR b n X) (h1 : w.heap[b]? = some (.map es clock)) (h2 : w'.heap[b']? = some (.map es clock)) : w'.ownsMap Tryz.prog 9 ptrR b' n X := by
  obtain ⟨es', clock', h3, h4⟩ := h
  rw [h1] at h3
  obtain ⟨rfl, rfl⟩ : es = es' ∧ clock = clock' := by cases h3; exact ⟨rfl, rfl⟩
  exact ⟨es, clock, h2, h4⟩
theorem map_block {w : World} {b n : Nat} {X : DataW Unit} (h : w.ownsMap Tryz.prog 9 ptrR b n X) : ∃ es clock, w.heap[b]? = some (.map es clock) := by
  obtain ⟨es, clock, h, _⟩ := h
  exact ⟨es, clock, h⟩
theorem Disk.save {w : World} {B D : Nat} {O : Nat → Prop} {k : Dk} (h : Disk w B D O k) (hB : B ≤ w.heap.size) : ∃ bd bs va es clock, Blk w D 82 (dcells k bd bs va) ∧ w.heap[bd]? = some (.map es clock) ∧
    Goes w B D O k.saved (((w.setCell ⟨D, 4, none⟩ (.map (some w.heap.size))).setCell ⟨D, 5, none⟩ (.slice none 0 0)).alloc (.map es clock)) := by
  have hlt := h.lt
  obtain ⟨bd, bs, n, va, rows, hd, hn, rfl⟩ := h
  obtain ⟨X, h1, h2⟩ := hd.dir
  obtain ⟨es, clock, he⟩ := map_block h1
  have lD := hlt D (.inl rfl)
  have hk2 := Keeps.setCell (S := fun j => j = D) (Keeps.setCell (S := fun j => j = D) (Keeps.refl _ w) (p := ⟨D, 4, none⟩) (.inl rfl) (.map (some w.heap.size))) (p := ⟨D, 5, none⟩) (.inl rfl) (.slice none 0 0)
  have hk := hk2.alloc (.map es clock)
  have hsz : ((w.setCell ⟨D, 4, none⟩ (.map (some w.heap.size))).setCell ⟨D, 5, none⟩ (.slice none 0 0)).heap.size = w.heap.size := by simp
  have hnew' := heap_alloc_new ((w.setCell ⟨D, 4, none⟩ (.map (some w.heap.size))).setCell ⟨D, 5, none⟩ (.slice none 0 0)) (.map es clock)
  rw [hsz] at hnew'
  have hb := ((hd.blk.set_ 4 (.map (some w.heap.size))).set_ 5 (.slice none 0 0)).alloc (.map es clock)
  have hm := map_keeps h1 hk (map_ne h1 hd.blk)
  refine ⟨bd, bs, va, es, clock, hd.blk, he, ⟨_, ⟨bd, w.heap.size, n, .slice none 0 0, rows, ⟨hb, ⟨X, hm, h2⟩, ⟨X, ?_, h2⟩, ?_, World.ownsRow_nil _ _ _ _, ?_, hd.apart, ?_⟩, ⟨hn.1, ?_⟩, rfl⟩, ?_⟩, hk.mono (fun _ _ e => .inl e)⟩
  · exact (map_again h1 he hnew').mono hn.1
  · exact fun e => by have := hlt bd (.inr (.inl rfl)); omega
  · intro f x hx
    obtain ⟨f1, f2, f3, f4⟩ := hd.file f x hx
    exact ⟨f1, f2.keeps hk (fun e => f2.ne_ hd.blk (by decide) e), own_keeps f3 hk (fun g hg e => own_blk_ne f3 hd.blk (by decide) (by rw [hg, e])), f4⟩
  · exact ⟨hd.base.1, hd.base.2.1, hB⟩
  · show k.room + 0 ≤ k.room; omega
  · rintro j (h | h | h | h | h)
    · exact .inl (.inl h)
    · exact .inl (.inr (.inl h))
    · exact .inr (by omega)
    · cases h
    · exact .inl (.inr (.inr (.inr (.inr h))))
def Dk.syncDirE (k : Dk) : Int := if k.down then 6 else errDown k.burns
def Dk.syncedDir (k : Dk) : Dk := if k.down then k else if k.burns then k.burn.saved else k.burn
set_option maxHeartbeats 2000000 in
set_option maxRecDepth 100000 in
theorem syncDir_calls (k : Dk) (B D : Nat) (O : Nat → Prop) (w : World) (hd : Disk w B D O k) (hk : k.ok) (hB : B ≤ w.heap.size) :
    Calls Tryz.prog 52 #[.pointer (some ⟨D, 0, none⟩)] w fun e w' => e = .returned (.int .i64 k.syncDirE) ∧ Goes w B D O k.syncedDir w' := by
  have hM := dmay_none k B D O w hd
  have hE : k.syncDirE = if k.down then 6 else errDown k.burns := rfl
  have hC : k.syncedDir = if k.down then k else if k.burns then k.burn.saved else k.burn := rfl
  have hMe : k.may true = if k.down then 6 else 0 := by unfold Dk.may; cases k.down <;> rfl
  rw [hE]
  rw [hMe] at hM
  clear hE hMe
  cases hdn : k.down
  · rw [hdn] at hM hC
    simp only [Bool.false_eq_true, if_false] at hM hC ⊢
    have hM' := Lib.hid hM
    have hC' := Lib.hid hC
    have hB' := Lib.hid (burn_calls k B D O w hd hk.fuse)
    clear hM hC
    cases hbn : k.burns
    · rw [hbn] at hB'
      go_enter Tryz.func52, Tryz.ntmps52
      go_wp2_with fail
      refine hM'.out.mono ?_
      rintro e w1 ⟨rfl, rfl⟩
      go_wp2_with fail
      refine hB'.out.mono ?_
      rintro e w2 ⟨rfl, h2, k2⟩
      unfold errDown
      go_wp2
      go_ret
      refine ⟨rfl, ?_⟩
      rw [hC'.out, hbn]
      exact Goes.same h2 k2
    · rw [hbn] at hB'
      go_enter Tryz.func52, Tryz.ntmps52
      go_wp2_with fail
      refine hM'.out.mono ?_
      rintro e w1 ⟨rfl, rfl⟩
      go_wp2_with fail
      refine hB'.out.mono ?_
      rintro e w2 ⟨rfl, h2, k2⟩
      obtain ⟨bd, bs, va, es, clock, r1, r2, r3⟩ := h2.save (Nat.le_trans hB k2.size)
      have hq := AnyW.maps_Clone Tryz.cloneM bd es clock w2 r2
      have hq' := Lib.hid hq
      have r3' := Lib.hid r3
      have qc := r1.cell
      have qf := r1.frozen
      have ql := r1.lt
      unfold dcells at qc
      clear r1 r2 r3 hq hB' hM' h2
      unfold errDown
      go_wp2_with fail
      refine hq'.out.mono ?_
      rintro e w3 ⟨rfl, rfl⟩
      go_wp2
      go_ret
      refine ⟨rfl, ?_⟩
      rw [hC'.out, hbn]
      exact Goes.behind k2 r3'.out
  · rw [hdn] at hM hC
    simp only [if_true] at hM hC ⊢
    have hM' := Lib.hid hM
    have hC' := Lib.hid hC
    clear hM hC
    go_enter Tryz.func52, Tryz.ntmps52
    go_wp2_with fail
    refine hM'.out.mono ?_
    rintro e w1 ⟨rfl, rfl⟩
    go_wp2
    go_ret
    exact ⟨rfl, by rw [hC'.out]; exact Goes.same hd (Keeps.refl _ _)⟩
theorem Dk.saved_ok {k : Dk} (h : k.ok) : k.saved.ok := ⟨h.cap, h.fuse, h.used, h.live, h.live, fun a ha => (by cases ha), h.small⟩
theorem Dk.syncedDir_ok {k : Dk} (h : k.ok) : k.syncedDir.ok := by
  unfold Dk.syncedDir
  split
  · exact h
  · split
    · exact Dk.saved_ok (Dk.burn_ok h)
    · exact Dk.burn_ok h
end Go.Proofs.YtabcdodjkfknlaaGreatDoor
namespace Go.Proofs.YtabcdodjkfknlaaGreatDoor
open Go.RowKit Go.Maps Go.Shelf
def Dk.renameE (k : Dk) (a b : List UInt8) : Int := if k.may (dName a && dName b) = 0 then (if k.findE a = 0 then errDown k.burns else k.findE a) else k.may (dName a && dName b)
def Dk.renamed (k : Dk) (a b : ByteArray) : Dk := if k.may (dName a.data.toList && dName b.data.toList) = 0 then (if k.findE a.data.toList = 0 then (if k.burns then k.did ⟨a, b, some (k.name a.data.toList)⟩ else k.burn) else k) else k
theorem two_any (a b : NameS) : (!([a, b].any badN)) = (dName a.1.data.toList && dName b.1.data.toList) := by simp [badN]
theorem may_cases (k : Dk) (b : Bool) : k.may b = 0 ∧ k.down = false ∧ b = true ∨ k.may b = 2 ∨ k.may b = 6 := by
  unfold Dk.may; cases k.down <;> cases b <;> simp
set_option maxHeartbeats 2000000 in
set_option maxRecDepth 100000 in
theorem rename_calls (k : Dk) (B D : Nat) (O : Nat → Prop) (s t : ByteArray) (w : World) (hd : Disk w B D O k) (hk : k.ok) (hr : k.room < 4000) (hs : s.size ≤ maxLen) (ht : t.size ≤ maxLen) (hB : B ≤ w.heap.size) :
    Calls Tryz.prog 51 #[.pointer (some ⟨D, 0, none⟩), .string s, .string t] w fun e w' => e = .returned (.int .i64 (k.renameE s.data.toList t.data.toList)) ∧ Goes w B D O (k.renamed s t) w' := by
  have hE : k.renameE s.data.toList t.data.toList = if k.may (dName s.data.toList && dName t.data.toList) = 0 then (if k.findE s.data.toList = 0 then errDown k.burns else k.findE s.data.toList) else k.may (dName s.data.toList && dName t.data.toList) := rfl
  have hC : k.renamed s t = if k.may (dName s.data.toList && dName t.data.toList) = 0 then (if k.findE s.data.toList = 0 then (if k.burns then k.did ⟨s, t, some (k.name s.data.toList)⟩ else k.burn) else k) else k := rfl
  rw [hE]
  clear hE
  have B1 := (Below.refl w.heap.size w).alloc (Nat.le_refl _) (.cells #[.string s, .string t] 9)
  have hd1 := hd.later B1
  have hM := dmay_calls k B D w.heap.size 2 O [⟨s, hs⟩, ⟨t, ht⟩] _ hd1 rfl (by omega) (fun j hj => by
    have hb := (Blk.new w 9 #[.string s, .string t]).cell
    have hj0 : j = 0 ∨ j = 1 := by simp at hj; omega
    rcases hj0 with rfl | rfl
    · exact hb 0
    · exact hb 1)
  rw [two_any] at hM
  rcases may_cases k (dName s.data.toList && dName t.data.toList) with ⟨hm, hdn, hnn⟩ | hm | hm
  · rw [hm] at hM
    simp only [hm, if_true] at hC ⊢
    have hM' := Lib.hid hM
    clear hM
    have hF := fun w hd => find_calls k B D O s w hd hs
    have hFp : ∃ p, ptrV (k.findF s.data.toList) = .pointer p := by cases k.findF s.data.toList <;> exact ⟨_, rfl⟩
    obtain ⟨p, hp⟩ := hFp
    rw [hp] at hF
    have hF' := Lib.hid hF
    clear hF
    by_cases h : k.findE s.data.toList = 0
    · rw [h] at hF'
      simp only [h, if_true] at hC ⊢
      obtain ⟨g1, g2, g3, g4, g5⟩ := findE_got hk h
      rw [g4] at hp
      unfold ptrV at hp
      obtain rfl : p = some ⟨k.name s.data.toList, 0, none⟩ := by simpa using hp.symm
      generalize k.name s.data.toList = f at *
      have hdn2 : dName t.data.toList = true := by simp at hnn; exact hnn.2
      have hD := fun W hd hB => do_calls k B D O ⟨s, t, some f⟩ W hd hk ⟨hs, ht, by show true = !t.toList.isEmpty; rw [dName_ne hdn2]; rfl⟩ (fun p e => by obtain rfl := Option.some.inj e; rw [g5]; rfl) hr hB
      have hD' := Lib.hid hD
      have hC' := Lib.hid hC
      clear hC hD g1 g2 g3 g4 g5 hp h hm hdn hnn hdn2
      go_enter Tryz.func51, Tryz.ntmps51
      go_wp2_with fail
      refine hM'.out.mono ?_
      rintro e w1 ⟨rfl, q, rfl⟩
      go_wp2_with fail
      refine (hF'.out _ (hd.later (bdrewN B1 q))).mono ?_
      rintro e w2 ⟨rfl, b2⟩
      have b3 : Below w.heap.size w w2 := (bdrewN B1 q).trans (b2.mono (by simp))
      clear b2
      go_wp2_with fail
      refine (hD'.out _ (hd.later b3) (Nat.le_trans hB b3.size)).mono ?_
      rintro e w3 ⟨rfl, h3⟩
      have h3' := Lib.hid h3
      clear h3
      go_wp2
      go_ret
      refine ⟨rfl, ?_⟩
      rw [hC'.out]
      exact Goes.at b3 h3'.out
    · have hne : (k.findE s.data.toList == 0) = false := by simpa using h
      simp only [h, if_false] at hC ⊢
      generalize k.findE s.data.toList = E at *
      have hC' := Lib.hid hC
      have h0 := Lib.hid h
      clear hC h hm hdn hnn
      go_enter Tryz.func51, Tryz.ntmps51
      go_wp2_with fail
      refine hM'.out.mono ?_
      rintro e w1 ⟨rfl, q, rfl⟩
      go_wp2_with fail
      refine (hF'.out _ (hd.later (bdrewN B1 q))).mono ?_
      rintro e w2 ⟨rfl, b2⟩
      have b3 : Below w.heap.size w w2 := (bdrewN B1 q).trans (b2.mono (by simp))
      clear b2
      go_wp2
      go_ret
      exact ⟨rfl, by rw [hC'.out]; exact Goes.same (hd.later b3) (.of_below b3)⟩
  all_goals
    rw [hm] at hM
    simp only [hm, if_neg (show ¬ (2 : Int) = 0 by decide), if_neg (show ¬ (6 : Int) = 0 by decide)] at hC ⊢
    have hM' := Lib.hid hM
    have hC' := Lib.hid hC
    clear hM hC hm
    go_enter Tryz.func51, Tryz.ntmps51
    go_wp2_with fail
    refine hM'.out.mono ?_
    rintro e w1 ⟨rfl, q, rfl⟩
    go_wp2
    go_ret
    exact ⟨rfl, by rw [hC'.out]; exact Goes.same (hd.later (bdrewN B1 q)) (.of_below (bdrewN B1 q))⟩
def Dk.removeE (k : Dk) (a : List UInt8) : Int := if k.findE a = 0 then errDown k.burns else k.findE a
def Dk.gone (k : Dk) (a : ByteArray) (f : Nat) : Dk := { k.did ⟨a, ⟨#[]⟩, none⟩ with used := (k.did ⟨a, ⟨#[]⟩, none⟩).used - (k.got f).data.length }
def Dk.removed (k : Dk) (a : ByteArray) : Dk := if k.findE a.data.toList = 0 then (if k.burns then k.gone a (k.name a.data.toList) else k.burn) else k
theorem did_file (k : Dk) (a : DAct) : (k.did a).file = k.file := (burn_same k).2.2.2.1
set_option maxHeartbeats 4000000 in
set_option maxRecDepth 100000 in
theorem remove_calls (k : Dk) (B D : Nat) (O : Nat → Prop) (s : ByteArray) (w : World) (hd : Disk w B D O k) (hk : k.ok) (hr : k.room < 4000) (hs : s.size ≤ maxLen) (hB : B ≤ w.heap.size) :
    Calls Tryz.prog 46 #[.pointer (some ⟨D, 0, none⟩), .string s] w fun e w' => e = .returned (.int .i64 (k.removeE s.data.toList)) ∧ Goes w B D O (k.removed s) w' := by
  have hF := find_calls k B D O s w hd hs
  have hE : k.removeE s.data.toList = if k.findE s.data.toList = 0 then errDown k.burns else k.findE s.data.toList := rfl
  have hC : k.removed s = if k.findE s.data.toList = 0 then (if k.burns then k.gone s (k.name s.data.toList) else k.burn) else k := rfl
  rw [hE]
  clear hE
  have hFp : ∃ p, ptrV (k.findF s.data.toList) = .pointer p := by cases k.findF s.data.toList <;> exact ⟨_, rfl⟩
  obtain ⟨p, hp⟩ := hFp
  rw [hp] at hF
  have hF' := Lib.hid hF
  clear hF
  by_cases h : k.findE s.data.toList = 0
  · rw [h] at hF'
    simp only [h, if_true] at hC ⊢
    obtain ⟨g1, g2, g3, g4, g5⟩ := findE_got hk h
    rw [g4] at hp
    unfold ptrV at hp
    obtain rfl : p = some ⟨k.name s.data.toList, 0, none⟩ := by simpa using hp.symm
    generalize k.name s.data.toList = f at *
    have hl : (k.got f).data.length ≤ 16777216000 := by have := hk.small f _ g5; omega
    have hao : DAct.ok ⟨s, ⟨#[]⟩, none⟩ := ⟨hs, by show (0 : Nat) ≤ maxLen; decide, by show false = !(ByteArray.toList ⟨#[]⟩).isEmpty; rw [Lib.toList_data]; rfl⟩
    have hul : -1000000000000000000 ≤ (k.did ⟨s, ⟨#[]⟩, none⟩).used ∧ (k.did ⟨s, ⟨#[]⟩, none⟩).used ≤ 1000000000000000000 := by
      have h1 := (Dk.did_ok hk hr hao (fun p e => by cases e)).2
      have h2 := hk.used
      omega
    have hD := fun W hd hB => do_calls k B D O ⟨s, ⟨#[]⟩, none⟩ W hd hk hao (fun p e => by cases e) hr hB
    have hD' := Lib.hid hD
    clear hD g1 g2 g3 g4 hp h hao
    unfold DAct.v ptrV at hD'
    cases hbn : k.burns
    · rw [hbn] at hC hD'
      have hC' := Lib.hid hC
      clear hC
      go_enter Tryz.func46, Tryz.ntmps46
      go_wp2_with fail
      refine hF'.out.mono ?_
      rintro e w2 ⟨rfl, b3⟩
      go_wp2_with fail
      refine (hD'.out _ (hd.later b3) (Nat.le_trans hB b3.size)).mono ?_
      rintro e w3 ⟨rfl, h3⟩
      have h3' := Lib.hid h3
      clear h3
      unfold errDown
      go_wp2
      go_ret
      refine ⟨rfl, ?_⟩
      rw [hC'.out]
      exact Goes.at b3 h3'.out
    · rw [hbn] at hC hD'
      have hC' := Lib.hid hC
      clear hC
      go_enter Tryz.func46, Tryz.ntmps46
      go_wp2_with fail
      refine hF'.out.mono ?_
      rintro e w2 ⟨rfl, b3⟩
      go_wp2_with fail
      refine (hD'.out _ (hd.later b3) (Nat.le_trans hB b3.size)).mono ?_
      rintro e w3 ⟨rfl, h3⟩
      have h4 : Goes w2 B D O (k.did ⟨s, ⟨#[]⟩, none⟩) w3 := h3
      obtain ⟨O1, d1, n1⟩ := h4.next
      obtain ⟨r, r1, r2, r3, r4, r5, r6, r7, r8, _⟩ := d1.refile (f := f) (x := k.got f) (by rw [did_file]; exact g5)
      obtain ⟨bd, bs, va, r9⟩ := d1.blk
      have hlast := fun q => (d1.later (bdrewN (Below.refl _ _) q)).field (w' := (w3.drewN q).setCell ⟨D, 6, none⟩ (.int .i64 ((k.did ⟨s, ⟨#[]⟩, none⟩).used - (k.got f).data.length))) (k' := k.gone s f) (Keeps.setCell (S := fun j => j = D) (Keeps.refl _ _) (p := ⟨D, 6, none⟩) (.inl rfl) _) (fun bd bs va h => h.set_ 6 _) ⟨rfl, rfl, rfl, rfl, rfl, rfl⟩
      have hgo : ∀ q, Goes w2 B D O (k.gone s f) ((w3.drewN q).setCell ⟨D, 6, none⟩ (.int .i64 ((k.did ⟨s, ⟨#[]⟩, none⟩).used - (k.got f).data.length))) := fun q =>
        n1 _ _ (Goes.behind ((Keeps.refl _ _).drewN q) (Goes.same (hlast q).1 (hlast q).2))
      have hgo' := Lib.hid hgo
      have qc := r9.cell
      have qf := r9.frozen
      have ql := r9.lt
      have ql2 := r1.lt
      obtain ⟨p2, c2, hr2⟩ := own_slice r2
      subst hr2
      have qc2 := r1.cell
      unfold dcells at qc
      generalize (k.did ⟨s, ⟨#[]⟩, none⟩).used = U at *
      generalize (k.got f).data.length = L at *
      clear h3 h4 n1 r1 r2 r3 r4 r5 r6 r7 r9 hlast hgo d1 hD' hF'
      unfold errDown
      go_wp2_with fail
      go_region
      go_wp2
      go_ret
      refine ⟨rfl, ?_⟩
      rw [hC'.out]
      exact Goes.at b3 (hgo'.out 1)
  · have hne : (k.findE s.data.toList == 0) = false := by simpa using h
    simp only [h, if_false] at hC ⊢
    generalize k.findE s.data.toList = E at *
    have hC' := Lib.hid hC
    have h0 := Lib.hid h
    clear hC h
    go_enter Tryz.func46, Tryz.ntmps46
    go_wp2_with fail
    refine hF'.out.mono ?_
    rintro e w1 ⟨rfl, b1⟩
    go_wp2
    go_ret
    exact ⟨rfl, by rw [hC'.out]; exact Goes.same (hd.later b1) (.of_below b1)⟩
theorem Dk.renamed_ok {k : Dk} (h : k.ok) (hr : k.room < 4000) {a b : ByteArray} (ha : a.size ≤ maxLen) (hb : b.size ≤ maxLen) : (k.renamed a b).ok := by
  unfold Dk.renamed
  split
  · rename_i hm
    split
    · rename_i h0
      split
      · refine (Dk.did_ok h hr ⟨ha, hb, ?_⟩ ?_).1
        · rcases may_cases k (dName a.data.toList && dName b.data.toList) with ⟨_, _, h3⟩ | h3 | h3
          · show true = !b.toList.isEmpty
            rw [dName_ne (by simp at h3; exact h3.2)]; rfl
          · rw [h3] at hm; cases hm
          · rw [h3] at hm; cases hm
        · rintro p e
          obtain rfl := Option.some.inj e
          rw [(findE_got h h0).2.2.2.2]; rfl
      · exact Dk.burn_ok h
    · exact h
  · exact h
theorem Dk.removed_ok {k : Dk} (h : k.ok) (hr : k.room < 4000) {a : ByteArray} (ha : a.size ≤ maxLen) : (k.removed a).ok := by
  unfold Dk.removed
  split
  · rename_i h0
    split
    · have hao : DAct.ok ⟨a, ⟨#[]⟩, none⟩ := ⟨ha, by show (0 : Nat) ≤ maxLen; decide, by show false = !(ByteArray.toList ⟨#[]⟩).isEmpty; rw [Lib.toList_data]; rfl⟩
      obtain ⟨h1, h2, h3⟩ := Dk.did_ok h hr hao (fun p e => by cases e)
      refine ⟨h1.cap, h1.fuse, ?_, h1.live, h1.slive, h1.acts, h1.small⟩
      have hs := h.small _ _ (findE_got h h0).2.2.2.2
      have hu := h.used
      have e1 : (k.gone a (k.name a.data.toList)).used = (k.did ⟨a, ⟨#[]⟩, none⟩).used - (k.got (k.name a.data.toList)).data.length := rfl
      have e2 : (k.gone a (k.name a.data.toList)).room = k.room + 1 := by show k.burn.room + 1 = _; rw [(burn_same k).2.2.2.2.1]
      rw [e1, e2]
      omega
    · exact Dk.burn_ok h
  · exact h
end Go.Proofs.YtabcdodjkfknlaaGreatDoor
namespace Go.Proofs
open Go.Shelf
def Tryz.keys45_ren : Go.Shelf.Ren := ⟨fun | 7 => 65 | 10 => 113 | n => n, fun | 23 => 79 | 26 => 9 | 3 => 97 | 28 => 112 | 0 => 0 | 27 => 111 | 33 => 124 | 4 => 4 | n => n, fun | n => n⟩
def Tryz.sorted44_ren : Go.Shelf.Ren := ⟨fun | 6 => 64 | 8 => 111 | 9 => 112 | 11 => 148 | 13 => 147 | 12 => 149 | 23 => 177 | 24 => 178 | 14 => 179 | 15 => 180 | 16 => 181 | 17 => 182 | 18 => 183 | 19 => 184 | 20 => 185 | 21 => 186 | 22 => 187 | 25 => 201 | 26 => 197 | 27 => 198 | 28 => 202 | 29 => 203 | 30 => 167 | 31 => 207 | n => n, fun | 26 => 9 | 28 => 112 | 24 => 51 | 0 => 0 | 3 => 3 | 37 => 141 | 48 => 93 | 50 => 28 | 4 => 4 | 40 => 206 | 39 => 205 | 45 => 210 | 5 => 5 | 9 => 9 | 51 => 230 | 55 => 233 | 57 => 237 | 58 => 238 | 33 => 124 | n => n, fun | n => n⟩
theorem Tryz.sorted44 : Go.Proofs.SlLaysZ.n6 Tryz.prog Tryz.sorted44_ren := {
  mixed := by kernel_rfl
  f6 := ⟨Tryz.f64.name, by decide, Tryz.func64.trans (congrArg some (by kernel_rfl))⟩
  f8 := ⟨Tryz.f111.name, by decide, Tryz.func111.trans (congrArg some (by kernel_rfl))⟩
  f11 := ⟨Tryz.f148.name, by decide, Tryz.func148.trans (congrArg some (by kernel_rfl))⟩
  t0 := Tryz.underlying0
  a0 := Tryz.isAgg0
  z0 := Tryz.sizeOf0
  v0 := Tryz.zeroValue0
  t24 := Tryz.underlying51
  a24 := Tryz.isAgg51
  z24 := Tryz.sizeOf51
  v24 := Tryz.zeroValue51
  t26 := Tryz.underlying9
  a26 := Tryz.isAgg9
  z26 := Tryz.sizeOf9
  v26 := Tryz.zeroValue9
  t28 := Tryz.underlying112
  a28 := Tryz.isAgg112
  z28 := Tryz.sizeOf112
  v28 := Tryz.zeroValue112
  i26 := by kernel_rfl }
def Tryz.sort67_ren : Go.Shelf.Ren := ⟨fun | 6 => 112 | 8 => 147 | 9 => 149 | 19 => 177 | 20 => 178 | 21 => 179 | 22 => 180 | 23 => 181 | 24 => 182 | 25 => 183 | 26 => 184 | 27 => 185 | 28 => 186 | 29 => 187 | 36 => 201 | 31 => 197 | 32 => 198 | 37 => 202 | 38 => 203 | 39 => 167 | 41 => 207 | n => n, fun | 27 => 51 | 29 => 9 | 3 => 3 | 32 => 141 | 26 => 51 | 0 => 0 | 44 => 93 | 46 => 28 | 4 => 4 | 36 => 206 | 35 => 205 | 41 => 210 | 5 => 5 | 9 => 9 | 53 => 230 | 57 => 233 | 63 => 237 | 64 => 238 | n => n, fun | n => n⟩
theorem Tryz.sort67 : Go.Proofs.SlLaysM.n6 Tryz.prog Tryz.sort67_ren := {
  mixed := by kernel_rfl
  f6 := ⟨Tryz.f112.name, by decide, Tryz.func112.trans (congrArg some (by kernel_rfl))⟩
  f8 := Tryz.func147.trans (congrArg some (by kernel_rfl))
  f9 := ⟨Tryz.f149.name, by decide, Tryz.func149.trans (congrArg some (by kernel_rfl))⟩
  f19 := Tryz.func177.trans (congrArg some (by kernel_rfl))
  f20 := Tryz.func178.trans (congrArg some (by kernel_rfl))
  f21 := ⟨Tryz.f179.name, by decide, Tryz.func179.trans (congrArg some (by kernel_rfl))⟩
  f22 := ⟨Tryz.f180.name, by decide, Tryz.func180.trans (congrArg some (by kernel_rfl))⟩
  f23 := ⟨Tryz.f181.name, by decide, Tryz.func181.trans (congrArg some (by kernel_rfl))⟩
  f24 := ⟨Tryz.f182.name, by decide, Tryz.func182.trans (congrArg some (by kernel_rfl))⟩
  f25 := ⟨Tryz.f183.name, by decide, Tryz.func183.trans (congrArg some (by kernel_rfl))⟩
  f26 := ⟨Tryz.f184.name, by decide, Tryz.func184.trans (congrArg some (by kernel_rfl))⟩
  f27 := ⟨Tryz.f185.name, by decide, Tryz.func185.trans (congrArg some (by kernel_rfl))⟩
  f28 := ⟨Tryz.f186.name, by decide, Tryz.func186.trans (congrArg some (by kernel_rfl))⟩
  f29 := ⟨Tryz.f187.name, by decide, Tryz.func187.trans (congrArg some (by kernel_rfl))⟩
  f31 := Tryz.func197.trans (congrArg some (by kernel_rfl))
  f32 := Tryz.func198.trans (congrArg some (by kernel_rfl))
  f36 := ⟨Tryz.f201.name, by decide, Tryz.func201.trans (congrArg some (by kernel_rfl))⟩
  f37 := ⟨Tryz.f202.name, by decide, Tryz.func202.trans (congrArg some (by kernel_rfl))⟩
  f38 := ⟨Tryz.f203.name, by decide, Tryz.func203.trans (congrArg some (by kernel_rfl))⟩
  f39 := ⟨Tryz.f167.name, by decide, Tryz.func167.trans (congrArg some (by kernel_rfl))⟩
  f41 := ⟨Tryz.f207.name, by decide, Tryz.func207.trans (congrArg some (by kernel_rfl))⟩
  t0 := Tryz.underlying0
  a0 := Tryz.isAgg0
  z0 := Tryz.sizeOf0
  v0 := Tryz.zeroValue0
  t3 := Tryz.underlying3
  a3 := Tryz.isAgg3
  z3 := Tryz.sizeOf3
  v3 := Tryz.zeroValue3
  t4 := Tryz.underlying4
  a4 := Tryz.isAgg4
  z4 := Tryz.sizeOf4
  v4 := Tryz.zeroValue4
  t5 := Tryz.underlying5
  a5 := Tryz.isAgg5
  z5 := Tryz.sizeOf5
  v5 := Tryz.zeroValue5
  t9 := Tryz.underlying9
  a9 := Tryz.isAgg9
  z9 := Tryz.sizeOf9
  v9 := Tryz.zeroValue9
  t26 := Tryz.underlying51
  a26 := Tryz.isAgg51
  z26 := Tryz.sizeOf51
  v26 := Tryz.zeroValue51
  t27 := Tryz.underlying51
  a27 := Tryz.isAgg51
  z27 := Tryz.sizeOf51
  v27 := Tryz.zeroValue51
  t29 := Tryz.underlying9
  a29 := Tryz.isAgg9
  z29 := Tryz.sizeOf9
  v29 := Tryz.zeroValue9
  t32 := Tryz.underlying141
  a32 := Tryz.isAgg141
  z32 := Tryz.sizeOf141
  v32 := Tryz.zeroValue141
  t35 := Tryz.underlying205
  a35 := Tryz.isAgg205
  z35 := Tryz.sizeOf205
  v35 := Tryz.zeroValue205
  t36 := Tryz.underlying206
  a36 := Tryz.isAgg206
  z36 := Tryz.sizeOf206
  v36 := Tryz.zeroValue206
  t41 := Tryz.underlying210
  a41 := Tryz.isAgg210
  z41 := Tryz.sizeOf210
  v41 := Tryz.zeroValue210
  t44 := Tryz.underlying93
  a44 := Tryz.isAgg93
  z44 := Tryz.sizeOf93
  v44 := Tryz.zeroValue93
  t46 := Tryz.underlying28
  a46 := Tryz.isAgg28
  z46 := Tryz.sizeOf28
  v46 := Tryz.zeroValue28
  t53 := Tryz.underlying230
  a53 := Tryz.isAgg230
  z53 := Tryz.sizeOf230
  v53 := Tryz.zeroValue230
  t57 := Tryz.underlying233
  a57 := Tryz.isAgg233
  z57 := Tryz.sizeOf233
  v57 := Tryz.zeroValue233
  t63 := Tryz.underlying237
  a63 := Tryz.isAgg237
  z63 := Tryz.sizeOf237
  v63 := Tryz.zeroValue237
  t64 := Tryz.underlying238
  a64 := Tryz.isAgg238
  z64 := Tryz.sizeOf238
  v64 := Tryz.zeroValue238 }
end Go.Proofs
namespace Go.Proofs
open Go.RowKit Go.Maps Go.Sort Go.Shelf
theorem Tryz.sorts44 (m : Nat) : AnyZ.SortsIn Tryz.prog Tryz.sorted44_ren Fence.wide m :=
  ⟨fun blk off cap ss W hH hblk hsz => callsIn_wide.2 (AnyM.slices_Sort_string Tryz.sort67 blk off cap ss W hH hblk hsz),
   fun p cap W => callsIn_wide.2 (AnyM.slices_Sort_string_none Tryz.sort67 p cap W)⟩
end Go.Proofs
