/- Walk: tuple.Cmp, and that it draws no fewer times: what a sort asks of it. -/
import Derived.Test.YtaikedlkkjnffaaGreatDoorW7
import Derived.Test.YtaikedlkkjnffaaGreatDoorUQ2
import Derived.Test.YtaikedlkkjnffaaGreatDoorUR1
import Derived.Shelf.SlSortCmp.WholeK
namespace Go.Proofs.YtaikedlkkjnffaaGreatDoor
open Go.RowKit Go.Sort
attribute [local go_sem ↓] eql_tup
theorem of_dr (t : Tup) (w : World) :
    Calls Tryz.prog 47 #[t.v] w fun e w' => e = .returned t.v ∧ Below w.heap.size w w' ∧ w.drawn ≤ w'.drawn := by
  unfold Tup.v
  go_enter Tryz.func47, Tryz.ntmps47
  go_wp2
  exact bodyPost_ret (v := t.v) (by simp [results, Tryz.results47, go_sem, Tup.v]) rfl ⟨rfl, ((Below.refl _ _).alloc (Nat.le_refl _) _).alloc (by simp) _, Nat.le_refl _⟩
theorem dr_set (w : World) (p : Addr) (v : Value) : (w.setCell p v).drawn = w.drawn := rfl
theorem six_dr {n g : Nat} {w : World} (t : Tup) (h : n ≤ w.drawn) : n ≤ (World.setCell (World.setCell (World.setCell (World.setCell (World.setCell (World.setCell w ⟨g, 0, none⟩ (.string t.a)) ⟨g, 1, none⟩ (.string t.b)) ⟨g, 2, none⟩ (.string t.c)) ⟨g, 3, none⟩ (.string t.d)) ⟨g, 4, none⟩ (.string t.e)) ⟨g, 5, none⟩ (.string t.f)).drawn := by
  rw [dr_set, dr_set, dr_set, dr_set, dr_set, dr_set]; exact h
theorem grow_of_below {w w' : World} (hb : Below w.heap.size w w') (hd : w.drawn ≤ w'.drawn) : ∃ q os, w' = grow (w.drewN q) os := by
  refine ⟨w'.drawn - w.drawn, w'.heap.extract w.heap.size w'.heap.size, ?_⟩
  obtain ⟨h1, h2, h3, h4, h5⟩ := hb
  cases w' with
  | mk heap tape drawn os output =>
    cases w with
    | mk heap0 tape0 drawn0 os0 output0 =>
      simp only at h1 h2 h3 h4 h5 hd
      subst h1 h2 h3
      unfold grow World.drewN
      simp only [World.mk.injEq, true_and, and_true]
      refine ⟨?_, by omega⟩
      apply Array.ext_getElem?
      intro i
      rcases Nat.lt_or_ge i heap0.size with h | h
      · rw [h5 i h, Array.getElem?_append_left h]
      · rw [Array.getElem?_append_right h, Array.getElem?_extract]
        split
        · rw [show heap0.size + (i - heap0.size) = i by omega]
        · rw [Array.getElem?_eq_none (by omega)]
set_option maxHeartbeats 2000000 in
theorem cmp_dr (t u : Tup) (w : World) :
    Calls Tryz.prog 26 #[t.v, u.v] w fun e w' => e = .returned (.int .i64 (cmpT t u)) ∧ Below w.heap.size w w' ∧ w.drawn ≤ w'.drawn := by
  unfold Tup.v
  cases hs : t.same u
  · have hs' : same6 t.a t.b t.c t.d t.e t.f u.a u.b u.c u.d u.e u.f = false := hs
    have b0 : ∀ i, ((w.alloc (.cells t.cells 60)).alloc (.cells u.cells 60)).cell? ⟨w.heap.size, i, none⟩ = (#[.string t.a, .string t.b, .string t.c, .string t.d, .string t.e, .string t.f] : Array Value)[i]? := fun i => ((Blk.new w 60 t.cells).alloc _).cell i
    have b1 : ∀ i, ((w.alloc (.cells t.cells 60)).alloc (.cells u.cells 60)).cell? ⟨w.heap.size + 1, i, none⟩ = (#[.string u.a, .string u.b, .string u.c, .string u.d, .string u.e, .string u.f] : Array Value)[i]? := fun i => by
      have h := (Blk.new (w.alloc (.cells t.cells 60)) 60 u.cells).cell i
      simp only [World.size_alloc] at h
      exact h
    go_enter Tryz.func26, Tryz.ntmps26
    go_wp2_with fail
    refine wp_region_inv (by kernel_rfl) (fun l a w' => ∃ x5 x6 x12 x13 x14 x15, a = ⟨#[.agg #[.string t.a, .string t.b, .string t.c, .string t.d, .string t.e, .string t.f], .agg #[.string u.a, .string u.b, .string u.c, .string u.d, .string u.e, .string u.f], .pointer (some ⟨w.heap.size, 0, none⟩), .pointer (some ⟨w.heap.size + 1, 0, none⟩), .int .i64 0, x5, x6, undef, undef, .agg #[.string t.a, .string t.b, .string t.c, .string t.d, .string t.e, .string t.f], .agg #[.string u.a, .string u.b, .string u.c, .string u.d, .string u.e, .string u.f], .bool false, x12, x13, x14, x15, undef, undef, undef, undef, undef, undef, undef, undef, undef, undef, undef, undef, undef, undef], []⟩ ∧ CmpF t u (w.heap.size + 2) ((w.alloc (.cells t.cells 60)).alloc (.cells u.cells 60)) l x5 x6 x12 x13 x14 x15 w' ∧ w.drawn ≤ w'.drawn) ?_ ?_ ?_
    · refine ⟨_, _, _, _, _, _, rfl, ?_, Nat.le_succ _⟩
      refine ⟨?_, ?_, ?_, ?_, (Below.refl _ _).drew, ?_, ?_, ?_, ?_, ?_⟩ <;> (intro h; simp at h)
    · rintro l a wx i ⟨x5, x6, x12, x13, x14, x15, rfl, hF, hd⟩ hi
      obtain ⟨hlt, hfree⟩ := ready_free hi
      have c0 := fun i => (hF.below.cell (p := ⟨w.heap.size, i, none⟩) (by simp)).trans (b0 i)
      have c1 := fun i => (hF.below.cell (p := ⟨w.heap.size + 1, i, none⟩) (by simp)).trans (b1 i)
      have hB : w.heap.size + 2 ≤ wx.heap.size := by have := hF.below.size; simpa using this
      rcases i with _ | _ | _ | _ | _ | _ | _ | _ | i
      · refine wpOp_one rfl ?_
        go_wp2_with fail
        exact ⟨_, _, _, _, _, _, rfl, hF.s0, hd⟩
      · have e := hF.h12 (ready_on hi rfl ⟨0, .data⟩ (by simp) rfl)
        subst e
        refine wpOp_one rfl ?_
        go_wp2_with (go_at_call 47; refine (of_dr t _).mono ?_; rintro e w3 ⟨rfl, hb3, hd3⟩)
        exact ⟨_, _, _, _, _, _, rfl, (hF.later hB hb3).s1, Nat.le_trans hd hd3⟩
      · refine wpOp_one rfl ?_
        go_wp2_with fail
        exact ⟨_, _, _, _, _, _, rfl, hF.s2, hd⟩
      · have e := hF.h14 (ready_on hi rfl ⟨2, .data⟩ (by simp) rfl)
        subst e
        refine wpOp_one rfl ?_
        go_wp2_with (go_at_call 47; refine (of_dr u _).mono ?_; rintro e w3 ⟨rfl, hb3, hd3⟩)
        exact ⟨_, _, _, _, _, _, rfl, (hF.later hB hb3).s3, Nat.le_trans hd hd3⟩
      · refine wpOp_one rfl ?_
        go_wp2_with fail
        exact ⟨_, _, _, _, _, _, rfl, hF.s4 hB hfree, hd⟩
      · refine wpOp_one rfl ?_
        go_wp2_with fail
        exact ⟨_, _, _, _, _, _, rfl, hF.s5 hB hfree, hd⟩
      · have h4 := ready_on hi rfl ⟨4, .data⟩ (by simp) rfl
        have e := hF.h13 (ready_on hi rfl ⟨1, .data⟩ (by simp) rfl)
        obtain ⟨g, e5, hg, hk⟩ := hF.p5 h4
        subst e e5
        rw [not_listed hfree] at hk
        have hk' : Blk wx g 113 #[.string ⟨#[]⟩, .string ⟨#[]⟩, .string ⟨#[]⟩, .string ⟨#[]⟩, .string ⟨#[]⟩, .string ⟨#[]⟩] := hk
        have k1 := hk'.cell
        have k2 := hk'.frozen
        refine wpOp_one rfl ?_
        go_wp2_with fail
        exact ⟨_, _, _, _, _, _, rfl, hF.s6 h4 hfree, six_dr t hd⟩
      · have h5 := ready_on hi rfl ⟨5, .data⟩ (by simp) rfl
        have e := hF.h15 (ready_on hi rfl ⟨3, .data⟩ (by simp) rfl)
        obtain ⟨g, e6, hg, hk⟩ := hF.p6 h5
        subst e e6
        rw [not_listed hfree] at hk
        have hk' : Blk wx g 113 #[.string ⟨#[]⟩, .string ⟨#[]⟩, .string ⟨#[]⟩, .string ⟨#[]⟩, .string ⟨#[]⟩, .string ⟨#[]⟩] := hk
        have k1 := hk'.cell
        have k2 := hk'.frozen
        refine wpOp_one rfl ?_
        go_wp2_with fail
        exact ⟨_, _, _, _, _, _, rfl, hF.s7 h5 hfree, six_dr u hd⟩
      · simp at hlt; omega
    · rintro l a wx ⟨x5, x6, x12, x13, x14, x15, rfl, hF, hd⟩ hsz hr
      have D := ready_all hsz hr (by kernel_rfl)
      obtain ⟨g1, e5, hg1, k1⟩ := hF.p5 (D 4 (by simp))
      obtain ⟨g2, e6, hg2, k2⟩ := hF.p6 (D 5 (by simp))
      rw [if_pos (D 6 (by simp))] at k1
      rw [if_pos (D 7 (by simp))] at k2
      subst e5 e6
      have B1 : Below w.heap.size w wx := (((Below.refl _ _).alloc (Nat.le_refl _) _).alloc (by simp) _).trans (hF.below.mono (by omega))
      clear D hr hsz hF b0 b1
      have k1' := Lib.hid k1
      have k2' := Lib.hid k2
      clear k1 k2
      go_wp2
      go_loopw [16] (fun i wr => ∃ k : Nat, k ≤ 6 ∧ i = .int .i64 k ∧ (∀ j, j < k → Lib.compareBytes (t.part j).data.toList (u.part j).data.toList = 0) ∧ Below wx.heap.size wx wr ∧ w.drawn ≤ wr.drawn) (fun i _ => 6 - (intOf i).toNat)
      case atStart => exact ⟨0, by omega, rfl, fun j hj => absurd hj (by omega), Below.refl _ _, hd⟩
      case round =>
        obtain ⟨k, hk, rfl, hsm, hb, hdr⟩ := hrel
        have hsm' := Lib.hid hsm
        clear hsm
        by_cases hlt : k < 6
        · have q1 : wr.cell? ⟨g1, k, none⟩ = some (.string (t.part k)) := (hb.cell (p := ⟨g1, k, none⟩) k1'.out.lt).trans ((k1'.out.cell k).trans (cells_part t k hlt))
          have q2 : wr.cell? ⟨g2, k, none⟩ = some (.string (u.part k)) := (hb.cell (p := ⟨g2, k, none⟩) k2'.out.lt).trans ((k2'.out.cell k).trans (cells_part u k hlt))
          go_wp2_with fail
          go_quiet ((go_at_call 48; exact Calls.quiet_of_same (Tryz.strings_Compare _ _ _)))
          go_wp2
          all_goals first
            | (go_roundw
               case rel => exact ⟨k + 1, by omega, by go_num, cb_next hsm'.out (by simpa using ‹(Lib.compareBytes (t.part k).data.toList (u.part k).data.toList != 0) = false›), bdrewN hb _, Nat.le_trans hdr (Nat.le_add_right _ _)⟩
               case measure => simp [intOf]; omega)
            | (go_ret
               exact ⟨ret_int (cmpT_at t u k hlt hsm'.out (by simpa using ‹(Lib.compareBytes (t.part k).data.toList (u.part k).data.toList != 0) = true›)).symm, B1.trans ((bdrewN hb _).mono (by have := B1.size; omega)), Nat.le_trans hdr (Nat.le_add_right _ _)⟩)
        · have hn := cmpT_all t u fun j hj => hsm'.out j (by omega)
          have hn' := Lib.hid hn
          clear hn
          go_wp2
          go_ret
          exact ⟨ret_int hn'.out.symm, B1.trans (hb.mono (by have := B1.size; omega)), hdr⟩
  · go_enter Tryz.func26, Tryz.ntmps26
    have hs' : same6 t.a t.b t.c t.d t.e t.f u.a u.b u.c u.d u.e u.f = true := hs
    go_wp2
    go_ret
    exact ⟨ret_int (cmpT_same hs).symm, ((Below.refl _ _).alloc (Nat.le_refl _) _).alloc (by simp) _, Nat.le_refl _⟩

def encL (t : Tup) : List Value := t.cells.toList
instance : Inhabited Tup := ⟨Tup.zero⟩
theorem cmp_lays (blk off size : Nat) (w : World) : CmpLays Tryz.prog 26 #[] encL 6 cmpT blk off size w :=
  fun _ _ _ _ x y => (cmp_dr x y _).mono fun _ _ ⟨he, hb, hd⟩ => ⟨he, grow_of_below hb hd⟩
theorem ltT (x y : Tup) : ltOf cmpT x y = decide (cmpT x y < 0) := rfl
theorem swoT : SWO (ltOf cmpT) where
  irrefl x := by rw [ltT, cmpT_self]; rfl
  trans x y z h1 h2 := by
    rw [ltT, decide_eq_true_eq] at *
    exact cmpT_trans h1 h2
  ntrans x y z h1 h2 := by
    rw [ltT, decide_eq_false_iff_not] at *
    intro h3
    by_cases e : x = y
    · subst e; exact h2 h3
    · have h4 := cmpT_gt h1 e
      exact h2 (cmpT_trans h4 h3)
end Go.Proofs.YtaikedlkkjnffaaGreatDoor
