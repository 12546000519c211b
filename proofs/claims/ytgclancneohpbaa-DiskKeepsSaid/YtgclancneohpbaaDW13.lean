/- Walks: the program's disk: Rename, Remove. -/
import Derived.Test.YtgclancneohpbaaDW12
namespace Go.Proofs.Ytgclancneohpbaa
open Go.RowKit Go.Maps Go.Shelf
def Dk.renameE (k : Dk) (a b : List UInt8) : Int := if k.may (dName a && dName b) = 0 then (if k.findE a = 0 then errDown k.burns else k.findE a) else k.may (dName a && dName b)
def Dk.renamed (k : Dk) (a b : ByteArray) : Dk := if k.may (dName a.data.toList && dName b.data.toList) = 0 then (if k.findE a.data.toList = 0 then (if k.burns then k.did ⟨a, b, some (k.name a.data.toList)⟩ else k.burn) else k) else k
theorem two_any (a b : NameS) : (!([a, b].any badN)) = (dName a.1.data.toList && dName b.1.data.toList) := by simp [badN]
theorem may_cases (k : Dk) (b : Bool) : k.may b = 0 ∧ k.down = false ∧ b = true ∨ k.may b = 2 ∨ k.may b = 6 := by
  unfold Dk.may; cases k.down <;> cases b <;> simp
set_option maxHeartbeats 2000000 in
set_option maxRecDepth 100000 in
theorem rename_calls (k : Dk) (B D : Nat) (O : Nat → Prop) (s t : ByteArray) (w : World) (hd : Disk w B D O k) (hk : k.ok) (hr : k.room < 4000) (hs : s.size ≤ maxLen) (ht : t.size ≤ maxLen) (hB : B ≤ w.heap.size) :
    Calls Try.prog 40 #[.pointer (some ⟨D, 0, none⟩), .string s, .string t] w fun e w' => e = .returned (.int .i64 (k.renameE s.data.toList t.data.toList)) ∧ Goes w B D O (k.renamed s t) w' := by
  have hE : k.renameE s.data.toList t.data.toList = if k.may (dName s.data.toList && dName t.data.toList) = 0 then (if k.findE s.data.toList = 0 then errDown k.burns else k.findE s.data.toList) else k.may (dName s.data.toList && dName t.data.toList) := rfl
  have hC : k.renamed s t = if k.may (dName s.data.toList && dName t.data.toList) = 0 then (if k.findE s.data.toList = 0 then (if k.burns then k.did ⟨s, t, some (k.name s.data.toList)⟩ else k.burn) else k) else k := rfl
  rw [hE]
  clear hE
  have B1 := (Below.refl w.heap.size w).alloc (Nat.le_refl _) (.cells #[.string s, .string t] 9)
  have hd1 := hd.later B1
  have hM := dmay_calls k B D w.heap.size 2 O [⟨s, hs⟩, ⟨t, ht⟩] _ hd1 rfl (by omega) (fun j hj => by
    have hb := (Blk.new w 9 #[.string s, .string t]).cell
    have hj0 : j = 0 ∨ j = 1 := by simp at hj; omega
    rcases hj0 with rfl | rfl
    · exact hb 0
    · exact hb 1)
  rw [two_any] at hM
  rcases may_cases k (dName s.data.toList && dName t.data.toList) with ⟨hm, hdn, hnn⟩ | hm | hm
  · rw [hm] at hM
    simp only [hm, if_true] at hC ⊢
    have hM' := Lib.hid hM
    clear hM
    have hF := fun w hd => find_calls k B D O s w hd hs
    have hFp : ∃ p, ptrV (k.findF s.data.toList) = .pointer p := by cases k.findF s.data.toList <;> exact ⟨_, rfl⟩
    obtain ⟨p, hp⟩ := hFp
    rw [hp] at hF
    have hF' := Lib.hid hF
    clear hF
    by_cases h : k.findE s.data.toList = 0
    · rw [h] at hF'
      simp only [h, if_true] at hC ⊢
      obtain ⟨g1, g2, g3, g4, g5⟩ := findE_got hk h
      rw [g4] at hp
      unfold ptrV at hp
      obtain rfl : p = some ⟨k.name s.data.toList, 0, none⟩ := by simpa using hp.symm
      generalize k.name s.data.toList = f at *
      have hdn2 : dName t.data.toList = true := by simp at hnn; exact hnn.2
      have hD := fun W hd hB => do_calls k B D O ⟨s, t, some f⟩ W hd hk ⟨hs, ht, by show true = !t.toList.isEmpty; rw [dName_ne hdn2]; rfl⟩ (fun p e => by obtain rfl := Option.some.inj e; rw [g5]; rfl) hr hB
      have hD' := Lib.hid hD
      have hC' := Lib.hid hC
      clear hC hD g1 g2 g3 g4 g5 hp h hm hdn hnn hdn2
      go_enter Try.func40, Try.ntmps40
      go_wp2_with fail
      refine hM'.out.mono ?_
      rintro e w1 ⟨rfl, q, rfl⟩
      go_wp2_with fail
      refine (hF'.out _ (hd.later (bdrewN B1 q))).mono ?_
      rintro e w2 ⟨rfl, b2⟩
      have b3 : Below w.heap.size w w2 := (bdrewN B1 q).trans (b2.mono (by simp))
      clear b2
      go_wp2_with fail
      refine (hD'.out _ (hd.later b3) (Nat.le_trans hB b3.size)).mono ?_
      rintro e w3 ⟨rfl, h3⟩
      have h3' := Lib.hid h3
      clear h3
      go_wp2
      go_ret
      refine ⟨rfl, ?_⟩
      rw [hC'.out]
      exact Goes.at b3 h3'.out
    · have hne : (k.findE s.data.toList == 0) = false := by simpa using h
      simp only [h, if_false] at hC ⊢
      generalize k.findE s.data.toList = E at *
      have hC' := Lib.hid hC
      have h0 := Lib.hid h
      clear hC h hm hdn hnn
      go_enter Try.func40, Try.ntmps40
      go_wp2_with fail
      refine hM'.out.mono ?_
      rintro e w1 ⟨rfl, q, rfl⟩
      go_wp2_with fail
      refine (hF'.out _ (hd.later (bdrewN B1 q))).mono ?_
      rintro e w2 ⟨rfl, b2⟩
      have b3 : Below w.heap.size w w2 := (bdrewN B1 q).trans (b2.mono (by simp))
      clear b2
      go_wp2
      go_ret
      exact ⟨rfl, by rw [hC'.out]; exact Goes.same (hd.later b3) (.of_below b3)⟩
  all_goals
    rw [hm] at hM
    simp only [hm, if_neg (show ¬ (2 : Int) = 0 by decide), if_neg (show ¬ (6 : Int) = 0 by decide)] at hC ⊢
    have hM' := Lib.hid hM
    have hC' := Lib.hid hC
    clear hM hC hm
    go_enter Try.func40, Try.ntmps40
    go_wp2_with fail
    refine hM'.out.mono ?_
    rintro e w1 ⟨rfl, q, rfl⟩
    go_wp2
    go_ret
    exact ⟨rfl, by rw [hC'.out]; exact Goes.same (hd.later (bdrewN B1 q)) (.of_below (bdrewN B1 q))⟩
def Dk.removeE (k : Dk) (a : List UInt8) : Int := if k.findE a = 0 then errDown k.burns else k.findE a
def Dk.gone (k : Dk) (a : ByteArray) (f : Nat) : Dk := { k.did ⟨a, ⟨#[]⟩, none⟩ with used := (k.did ⟨a, ⟨#[]⟩, none⟩).used - (k.got f).data.length }
def Dk.removed (k : Dk) (a : ByteArray) : Dk := if k.findE a.data.toList = 0 then (if k.burns then k.gone a (k.name a.data.toList) else k.burn) else k
theorem did_file (k : Dk) (a : DAct) : (k.did a).file = k.file := (burn_same k).2.2.2.1
set_option maxHeartbeats 4000000 in
set_option maxRecDepth 100000 in
theorem remove_calls (k : Dk) (B D : Nat) (O : Nat → Prop) (s : ByteArray) (w : World) (hd : Disk w B D O k) (hk : k.ok) (hr : k.room < 4000) (hs : s.size ≤ maxLen) (hB : B ≤ w.heap.size) :
    Calls Try.prog 30 #[.pointer (some ⟨D, 0, none⟩), .string s] w fun e w' => e = .returned (.int .i64 (k.removeE s.data.toList)) ∧ Goes w B D O (k.removed s) w' := by
  have hF := find_calls k B D O s w hd hs
  have hE : k.removeE s.data.toList = if k.findE s.data.toList = 0 then errDown k.burns else k.findE s.data.toList := rfl
  have hC : k.removed s = if k.findE s.data.toList = 0 then (if k.burns then k.gone s (k.name s.data.toList) else k.burn) else k := rfl
  rw [hE]
  clear hE
  have hFp : ∃ p, ptrV (k.findF s.data.toList) = .pointer p := by cases k.findF s.data.toList <;> exact ⟨_, rfl⟩
  obtain ⟨p, hp⟩ := hFp
  rw [hp] at hF
  have hF' := Lib.hid hF
  clear hF
  by_cases h : k.findE s.data.toList = 0
  · rw [h] at hF'
    simp only [h, if_true] at hC ⊢
    obtain ⟨g1, g2, g3, g4, g5⟩ := findE_got hk h
    rw [g4] at hp
    unfold ptrV at hp
    obtain rfl : p = some ⟨k.name s.data.toList, 0, none⟩ := by simpa using hp.symm
    generalize k.name s.data.toList = f at *
    have hl : (k.got f).data.length ≤ 16777216000 := by have := hk.small f _ g5; omega
    have hao : DAct.ok ⟨s, ⟨#[]⟩, none⟩ := ⟨hs, by show (0 : Nat) ≤ maxLen; decide, by show false = !(ByteArray.toList ⟨#[]⟩).isEmpty; rw [Lib.toList_data]; rfl⟩
    have hul : -1000000000000000000 ≤ (k.did ⟨s, ⟨#[]⟩, none⟩).used ∧ (k.did ⟨s, ⟨#[]⟩, none⟩).used ≤ 1000000000000000000 := by
      have h1 := (Dk.did_ok hk hr hao (fun p e => by cases e)).2
      have h2 := hk.used
      omega
    have hD := fun W hd hB => do_calls k B D O ⟨s, ⟨#[]⟩, none⟩ W hd hk hao (fun p e => by cases e) hr hB
    have hD' := Lib.hid hD
    clear hD g1 g2 g3 g4 hp h hao
    unfold DAct.v ptrV at hD'
    cases hbn : k.burns
    · rw [hbn] at hC hD'
      have hC' := Lib.hid hC
      clear hC
      go_enter Try.func30, Try.ntmps30
      go_wp2_with fail
      refine hF'.out.mono ?_
      rintro e w2 ⟨rfl, b3⟩
      go_wp2_with fail
      refine (hD'.out _ (hd.later b3) (Nat.le_trans hB b3.size)).mono ?_
      rintro e w3 ⟨rfl, h3⟩
      have h3' := Lib.hid h3
      clear h3
      unfold errDown
      go_wp2
      go_ret
      refine ⟨rfl, ?_⟩
      rw [hC'.out]
      exact Goes.at b3 h3'.out
    · rw [hbn] at hC hD'
      have hC' := Lib.hid hC
      clear hC
      go_enter Try.func30, Try.ntmps30
      go_wp2_with fail
      refine hF'.out.mono ?_
      rintro e w2 ⟨rfl, b3⟩
      go_wp2_with fail
      refine (hD'.out _ (hd.later b3) (Nat.le_trans hB b3.size)).mono ?_
      rintro e w3 ⟨rfl, h3⟩
      have h4 : Goes w2 B D O (k.did ⟨s, ⟨#[]⟩, none⟩) w3 := h3
      obtain ⟨O1, d1, n1⟩ := h4.next
      obtain ⟨r, r1, r2, r3, r4, r5, r6, r7, r8, _⟩ := d1.refile (f := f) (x := k.got f) (by rw [did_file]; exact g5)
      obtain ⟨bd, bs, va, r9⟩ := d1.blk
      have hlast := fun q => (d1.later (bdrewN (Below.refl _ _) q)).field (w' := (w3.drewN q).setCell ⟨D, 6, none⟩ (.int .i64 ((k.did ⟨s, ⟨#[]⟩, none⟩).used - (k.got f).data.length))) (k' := k.gone s f) (Keeps.setCell (S := fun j => j = D) (Keeps.refl _ _) (p := ⟨D, 6, none⟩) (.inl rfl) _) (fun bd bs va h => h.set_ 6 _) ⟨rfl, rfl, rfl, rfl, rfl, rfl⟩
      have hgo : ∀ q, Goes w2 B D O (k.gone s f) ((w3.drewN q).setCell ⟨D, 6, none⟩ (.int .i64 ((k.did ⟨s, ⟨#[]⟩, none⟩).used - (k.got f).data.length))) := fun q =>
        n1 _ _ (Goes.behind ((Keeps.refl _ _).drewN q) (Goes.same (hlast q).1 (hlast q).2))
      have hgo' := Lib.hid hgo
      have qc := r9.cell
      have qf := r9.frozen
      have ql := r9.lt
      have ql2 := r1.lt
      obtain ⟨p2, c2, hr2⟩ := own_slice r2
      subst hr2
      have qc2 := r1.cell
      unfold dcells at qc
      generalize (k.did ⟨s, ⟨#[]⟩, none⟩).used = U at *
      generalize (k.got f).data.length = L at *
      clear h3 h4 n1 r1 r2 r3 r4 r5 r6 r7 r9 hlast hgo d1 hD' hF'
      unfold errDown
      go_wp2_with fail
      go_region
      go_wp2
      go_ret
      refine ⟨rfl, ?_⟩
      rw [hC'.out]
      exact Goes.at b3 (hgo'.out 1)
  · have hne : (k.findE s.data.toList == 0) = false := by simpa using h
    simp only [h, if_false] at hC ⊢
    generalize k.findE s.data.toList = E at *
    have hC' := Lib.hid hC
    have h0 := Lib.hid h
    clear hC h
    go_enter Try.func30, Try.ntmps30
    go_wp2_with fail
    refine hF'.out.mono ?_
    rintro e w1 ⟨rfl, b1⟩
    go_wp2
    go_ret
    exact ⟨rfl, by rw [hC'.out]; exact Goes.same (hd.later b1) (.of_below b1)⟩
theorem Dk.renamed_ok {k : Dk} (h : k.ok) (hr : k.room < 4000) {a b : ByteArray} (ha : a.size ≤ maxLen) (hb : b.size ≤ maxLen) : (k.renamed a b).ok := by
  unfold Dk.renamed
  split
  · rename_i hm
    split
    · rename_i h0
      split
      · refine (Dk.did_ok h hr ⟨ha, hb, ?_⟩ ?_).1
        · rcases may_cases k (dName a.data.toList && dName b.data.toList) with ⟨_, _, h3⟩ | h3 | h3
          · show true = !b.toList.isEmpty
            rw [dName_ne (by simp at h3; exact h3.2)]; rfl
          · rw [h3] at hm; cases hm
          · rw [h3] at hm; cases hm
        · rintro p e
          obtain rfl := Option.some.inj e
          rw [(findE_got h h0).2.2.2.2]; rfl
      · exact Dk.burn_ok h
    · exact h
  · exact h
theorem Dk.removed_ok {k : Dk} (h : k.ok) (hr : k.room < 4000) {a : ByteArray} (ha : a.size ≤ maxLen) : (k.removed a).ok := by
  unfold Dk.removed
  split
  · rename_i h0
    split
    · have hao : DAct.ok ⟨a, ⟨#[]⟩, none⟩ := ⟨ha, by show (0 : Nat) ≤ maxLen; decide, by show false = !(ByteArray.toList ⟨#[]⟩).isEmpty; rw [Lib.toList_data]; rfl⟩
      obtain ⟨h1, h2, h3⟩ := Dk.did_ok h hr hao (fun p e => by cases e)
      refine ⟨h1.cap, h1.fuse, ?_, h1.live, h1.slive, h1.acts, h1.small⟩
      have hs := h.small _ _ (findE_got h h0).2.2.2.2
      have hu := h.used
      have e1 : (k.gone a (k.name a.data.toList)).used = (k.did ⟨a, ⟨#[]⟩, none⟩).used - (k.got (k.name a.data.toList)).data.length := rfl
      have e2 : (k.gone a (k.name a.data.toList)).room = k.room + 1 := by show k.burn.room + 1 = _; rw [(burn_same k).2.2.2.2.1]
      rw [e1, e2]
      omega
    · exact Dk.burn_ok h
  · exact h
end Go.Proofs.Ytgclancneohpbaa
