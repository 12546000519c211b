/- Walks: the closures of Decode. Walks: something is read as often as a number says. Walks: an edit is read out of bytes. Walks: whether all numbers of an edit are written. Walks: whether all numbers of an edit are written: drops; the edit. Walks: Encode: numbers put. -/
import Derived.Test.YtabcdodjkfknlaaGreatDoorPL09
import Derived.RegionTactic
import Derived.BigRegion
import Derived.Test.YtabcdodjkfknlaaGreatDoorPL08
namespace Go.Proofs.YtabcdodjkfknlaaGreatDoor
open Go.RowKit
attribute [local go_sem ↓] dapp_op dslK_op
attribute [local go_sem] Oper.semAt_some
set_option maxHeartbeats 2000000 in
set_option maxRecDepth 100000 in
theorem dec1_calls (B R E SM TX Z : Nat) (w0 w : World) (r : Rdr) (e : Edt) (av dv : Value) (hR0 : RdAt B w R r) (hD0 : DecAt B w0 w R E SM TX Z av dv e) (hl : e.add.length ≤ 1000000) :
    Calls Tryz.prog 106 #[.pointer (some ⟨E, 0, none⟩), .pointer (some ⟨SM, 0, none⟩), .pointer (some ⟨TX, 0, none⟩)] w fun x w' => x = .returned (.tuple #[]) ∧ RdAt B w' R r.tblR ∧ ∃ av', DecAt B w0 w' R E SM TX Z av' dv { e with add := e.add ++ [r.tbl] } := by
  have hD0 := hD0.later (Below.refl w.heap.size w).drew
  have hR0 := hR0.later (Below.refl w.heap.size w).drew
  have hS0 := hD0.sees
  obtain ⟨p, c, rfl⟩ := hD0.add.slice
  go_enter Tryz.func106, Tryz.ntmps106
  go_wp2
  refine wp_region_s (fun w' => w'.cell? ⟨E, 0, none⟩ = some (.slice p e.add.length c) ∧ w'.cell? ⟨SM, 0, none⟩ = some (.func (.func 103) #[.pointer (some ⟨R, 0, none⟩)] #[]) ∧ w'.cell? ⟨TX, 0, none⟩ = some (.func (.func 104) #[.pointer (some ⟨R, 0, none⟩)] #[])) [16] [(true, 0), (true, 1), (true, 2), (true, 4), (true, 6), (true, 8), (true, 10), (false, 3), (false, 5), (false, 7), (false, 9), (false, 11), (false, 12), (false, 13), (false, 14), (false, 15), (false, 16)] (by kernel_rfl) (by kernel_rfl) (by kernel_rfl) (by kernel_rfl) (fun _ _ _ _ _ h => h) hS0 ?_
  refine wpS_take (v := ?_) rfl (.inl ⟨by rfl, fun w' hS => ?_⟩) ?_
  rotate_left
  · (try dsimp only at hS); go_simp; try with_reducible rfl
  simp only [Act.put, List.setIfInBounds_toArray, List.set_cons_zero, List.set_cons_succ]
  refine wpS_take (v := ?_) rfl (.inl ⟨by rfl, fun w' hS => ?_⟩) ?_
  rotate_left
  · (try dsimp only at hS); go_simp; try with_reducible rfl
  simp only [Act.put, List.setIfInBounds_toArray, List.set_cons_zero, List.set_cons_succ]
  refine wpS_take (v := ?_) rfl (.inl ⟨by rfl, fun w' hS => ?_⟩) ?_
  rotate_left
  · (try dsimp only at hS); go_simp; try with_reducible rfl
  simp only [Act.put, List.setIfInBounds_toArray, List.set_cons_zero, List.set_cons_succ]
  refine wpS_take (v := ?_) rfl (.inl ⟨by rfl, fun w' hS => ?_⟩) ?_
  rotate_left
  · (try dsimp only at hS); go_simp; try with_reducible rfl
  simp only [Act.put, List.setIfInBounds_toArray, List.set_cons_zero, List.set_cons_succ]
  refine wpS_take (v := ?_) rfl (.inl ⟨by rfl, fun w' hS => ?_⟩) ?_
  rotate_left
  · (try dsimp only at hS); go_simp; try with_reducible rfl
  simp only [Act.put, List.setIfInBounds_toArray, List.set_cons_zero, List.set_cons_succ]
  refine wpS_take (v := ?_) rfl (.inl ⟨by rfl, fun w' hS => ?_⟩) ?_
  rotate_left
  · (try dsimp only at hS); go_simp; try with_reducible rfl
  simp only [Act.put, List.setIfInBounds_toArray, List.set_cons_zero, List.set_cons_succ]
  refine wpS_take (v := ?_) rfl (.inl ⟨by rfl, fun w' hS => ?_⟩) ?_
  rotate_left
  · (try dsimp only at hS); go_simp; try with_reducible rfl
  simp only [Act.put, List.setIfInBounds_toArray, List.set_cons_zero, List.set_cons_succ]
  generalize w.drew = w00 at *
  refine wpS_go rfl ?_
  have C0 := Lib.hid (small_calls B R _ _ hR0)
  have hD0' := Lib.hid hD0
  have bR0 := Lib.hid hR0.blk
  clear hD0 hR0
  go_wp2_with (go_at_call 103; (with_reducible refine C0.out.mono ?_); rintro x w1 ⟨rfl, hR1, hK1⟩)
  have hD1 := hD0'.out.rd hK1 bR0.out
  refine ⟨fun _ => hD1.sees, ?_⟩
  clear hK1 C0 bR0 hD0'
  refine wpS_go rfl ?_
  have C1 := Lib.hid (small_calls B R _ _ hR1)
  have hD1' := Lib.hid hD1
  have bR1 := Lib.hid hR1.blk
  clear hD1 hR1
  go_wp2_with (go_at_call 103; (with_reducible refine C1.out.mono ?_); rintro x w2 ⟨rfl, hR2, hK2⟩)
  have hD2 := hD1'.out.rd hK2 bR1.out
  refine ⟨fun _ => hD2.sees, ?_⟩
  clear hK2 C1 bR1 hD1'
  refine wpS_go rfl ?_
  have C2 := Lib.hid (small_calls B R _ _ hR2)
  have hD2' := Lib.hid hD2
  have bR2 := Lib.hid hR2.blk
  clear hD2 hR2
  go_wp2_with (go_at_call 103; (with_reducible refine C2.out.mono ?_); rintro x w3 ⟨rfl, hR3, hK3⟩)
  have hD3 := hD2'.out.rd hK3 bR2.out
  refine ⟨fun _ => hD3.sees, ?_⟩
  clear hK3 C2 bR2 hD2'
  refine wpS_go rfl ?_
  have C3 := Lib.hid (text_calls B R _ _ hR3)
  have hD3' := Lib.hid hD3
  have bR3 := Lib.hid hR3.blk
  clear hD3 hR3
  go_wp2_with (go_at_call 104; (with_reducible refine C3.out.mono ?_); rintro x w4 ⟨rfl, hR4, hK4⟩)
  have hD4 := hD3'.out.rd hK4 bR3.out
  refine ⟨fun _ => hD4.sees, ?_⟩
  clear hK4 C3 bR3 hD3'
  refine wpS_go rfl ?_
  have C4 := Lib.hid (text_calls B R _ _ hR4)
  have hD4' := Lib.hid hD4
  have bR4 := Lib.hid hR4.blk
  clear hD4 hR4
  go_wp2_with (go_at_call 104; (with_reducible refine C4.out.mono ?_); rintro x w5 ⟨rfl, hR5, hK5⟩)
  have hD5 := hD4'.out.rd hK5 bR4.out
  refine ⟨fun _ => hD5.sees, ?_⟩
  clear hK5 C4 bR4 hD4'
  have hT : r.smallR.smallR.smallR.textR.textR = r.tblR := rfl
  rw [hT] at hR5
  obtain ⟨p6, c6, w6, e6, f6, s6, d6, q6⟩ := hD5.put hR5 r.tbl hl
  dsimp only [Rdr.tbl] at e6
  have sA := Lib.hid (hD5.later ((Below.refl w5.heap.size w5).alloc (Nat.le_refl _) (.cells #[.int .i64 r.small, .int .i64 r.smallR.small, .int .i64 r.smallR.smallR.small, .string r.smallR.smallR.smallR.text, .string r.smallR.smallR.smallR.textR.text] 76))).sees
  have s5 := Lib.hid hD5.sees
  have s6' := Lib.hid s6
  have d6' := Lib.hid d6
  have q6' := Lib.hid q6
  have c6' := s6.1
  clear hT hD5 hR5 s6 d6 q6 hD0 hR0 hS0
  refine wpS_go rfl ?_
  go_wp2
  refine ⟨by first | exact s5.out | exact fun _ => s5.out, ?_⟩
  refine wpS_go rfl ?_
  go_wp2
  refine ⟨by first | exact sA.out | exact fun _ => sA.out, ?_⟩
  refine wpS_go rfl ?_
  go_wp2
  refine ⟨by first | exact s6'.out | exact fun _ => s6'.out, ?_⟩
  refine wpS_go rfl ?_
  go_wp2
  refine ⟨by first | exact s6'.out | exact fun _ => s6'.out, ?_⟩
  refine wpS_go rfl ?_
  go_wp2
  refine ⟨fun h => absurd h (by decide), ?_⟩
  refine wpS_end ?_
  go_end0
  exact ⟨rfl, q6'.out, _, d6'.out⟩
set_option maxHeartbeats 2000000 in
set_option maxRecDepth 100000 in
theorem dec2_calls (B R E SM TX Z : Nat) (w0 w : World) (r : Rdr) (e : Edt) (av dv : Value) (hR0 : RdAt B w R r) (hD0 : DecAt B w0 w R E SM TX Z av dv e) (hl : e.drop.length ≤ 1000000) :
    Calls Tryz.prog 107 #[.pointer (some ⟨E, 0, none⟩), .pointer (some ⟨SM, 0, none⟩)] w fun x w' => x = .returned (.tuple #[]) ∧ RdAt B w' R r.smallR ∧ ∃ dv', DecAt B w0 w' R E SM TX Z av dv' { e with drop := e.drop ++ [r.small] } := by
  have hD0 := hD0.later (Below.refl w.heap.size w).drew
  have hR0 := hR0.later (Below.refl w.heap.size w).drew
  have hS0 := hD0.seesI
  obtain ⟨p, c, rfl⟩ := hD0.drop.slice
  go_enter Tryz.func107, Tryz.ntmps107
  go_wp2
  refine wp_region_s (fun w' => w'.cell? ⟨E, 1, none⟩ = some (.slice p e.drop.length c) ∧ w'.cell? ⟨SM, 0, none⟩ = some (.func (.func 103) #[.pointer (some ⟨R, 0, none⟩)] #[])) [7] [(true, 0), (true, 1), (true, 2), (false, 3), (false, 4), (false, 5), (false, 6), (false, 7)] (by kernel_rfl) (by kernel_rfl) (by kernel_rfl) (by kernel_rfl) (fun _ _ _ _ _ h => h) hS0 ?_
  refine wpS_take (v := ?_) rfl (.inl ⟨by rfl, fun w' hS => ?_⟩) ?_
  rotate_left
  · (try dsimp only at hS); go_simp; try with_reducible rfl
  simp only [Act.put, List.setIfInBounds_toArray, List.set_cons_zero, List.set_cons_succ]
  refine wpS_take (v := ?_) rfl (.inl ⟨by rfl, fun w' hS => ?_⟩) ?_
  rotate_left
  · (try dsimp only at hS); go_simp; try with_reducible rfl
  simp only [Act.put, List.setIfInBounds_toArray, List.set_cons_zero, List.set_cons_succ]
  refine wpS_take (v := ?_) rfl (.inl ⟨by rfl, fun w' hS => ?_⟩) ?_
  rotate_left
  · (try dsimp only at hS); go_simp; try with_reducible rfl
  simp only [Act.put, List.setIfInBounds_toArray, List.set_cons_zero, List.set_cons_succ]
  generalize w.drew = w00 at *
  refine wpS_go rfl ?_
  have C0 := Lib.hid (small_calls B R _ _ hR0)
  have hD0' := Lib.hid hD0
  have bR0 := Lib.hid hR0.blk
  clear hD0 hR0
  go_wp2_with (go_at_call 103; (with_reducible refine C0.out.mono ?_); rintro x w1 ⟨rfl, hR1, hK1⟩)
  have hD1 := hD0'.out.rd hK1 bR0.out
  refine ⟨fun _ => hD1.seesI, ?_⟩
  clear hK1 C0 bR0 hD0'
  obtain ⟨p6, c6, w6, e6, f6, s6, d6, q6⟩ := hD1.putI hR1 r.small hl
  have sA := Lib.hid (hD1.later ((Below.refl w1.heap.size w1).alloc (Nat.le_refl _) (.cells #[.int .i64 r.small] 3))).seesI
  have s6' := Lib.hid s6
  have d6' := Lib.hid d6
  have q6' := Lib.hid q6
  have c6' := s6.1
  clear hD1 hR1 s6 d6 q6 hD0 hR0 hS0
  refine wpS_go rfl ?_
  go_wp2
  refine ⟨by first | exact sA.out | exact fun _ => sA.out, ?_⟩
  refine wpS_go rfl ?_
  go_wp2
  refine ⟨by first | exact s6'.out | exact fun _ => s6'.out, ?_⟩
  refine wpS_go rfl ?_
  go_wp2
  refine ⟨by first | exact s6'.out | exact fun _ => s6'.out, ?_⟩
  refine wpS_go rfl ?_
  go_wp2
  refine ⟨fun h => absurd h (by decide), ?_⟩
  refine wpS_end ?_
  go_end0
  exact ⟨rfl, q6'.out, _, d6'.out⟩
end Go.Proofs.YtabcdodjkfknlaaGreatDoor
namespace Go.Proofs.YtabcdodjkfknlaaGreatDoor
open Go.RowKit
attribute [local go_sem ↓] dapp_op dslK_op
attribute [local go_sem] Oper.semAt_some
def TimesPost {α : Type} (B R : Nat) (J : Rdr → List α → World → Prop) (r : Rdr) (xs : List α) (x : Ending) (w' : World) : Prop := x = .returned (.tuple #[]) ∧ RdAt B w' R r ∧ J r xs w'
theorem many_stop {α : Type} {f : Rdr → Rdr} {G : Rdr → α} {r : Rdr} {k : Nat} (h : k = 0 ∨ r.e ≠ 0) : Rdr.manyR f k r = r ∧ Rdr.many f G k r = [] := by
  cases k with
  | zero => exact ⟨rfl, rfl⟩
  | succ k =>
    have he : r.e ≠ 0 := by rcases h with h | h; cases h; exact h
    unfold Rdr.manyR Rdr.many
    rw [if_pos he, if_pos he]
    exact ⟨rfl, rfl⟩
theorem many_next {α : Type} {f : Rdr → Rdr} {G : Rdr → α} {r : Rdr} {k : Nat} (h : r.e = 0) : Rdr.manyR f (k + 1) r = Rdr.manyR f k (f r) ∧ Rdr.many f G (k + 1) r = G r :: Rdr.many f G k (f r) := by
  have he : ¬ r.e ≠ 0 := by simpa using h
  constructor
  · show (if r.e ≠ 0 then r else Rdr.manyR f k (f r)) = _
    rw [if_neg he]
  · show (if r.e ≠ 0 then [] else G r :: Rdr.many f G k (f r)) = _
    rw [if_neg he]
set_option maxHeartbeats 2000000 in
set_option maxRecDepth 100000 in
theorem times_calls {α : Type} (B R : Nat) (f : Rdr → Rdr) (G : Rdr → α) (F : Nat) (caps : Array Value) (hE : ∀ args w, (callFunc F args).run Tryz.prog w = .ok (.enter F args) w) (J : Rdr → List α → World → Prop)
    (hJ : ∀ r xs w w', J r xs w → RdAt B w R r → RdKeeps R w w' → J r.numR xs w')
    (hstep : ∀ r xs w, r.e = 0 → RdAt B w R r → J r xs w → Calls Tryz.prog F caps w (TimesPost B R J (f r) (xs ++ [G r])))
    (r : Rdr) (w : World) (hR : RdAt B w R r) (h0 : J r [] w) :
    Calls Tryz.prog 105 #[.pointer (some ⟨R, 0, none⟩), .func (.func F) #[] caps] w (TimesPost B R J (r.timesR f) (r.times f G)) := by
  have hN := Lib.hid (number_calls B R r w hR)
  have hJ' := Lib.hid (fun w' hk => hJ r [] w w' h0 hR hk)
  have hs := Lib.hid hstep
  have hF1 : r.timesR f = Rdr.manyR f r.num r.numR := rfl
  have hF2 : r.times f G = Rdr.many f G r.num r.numR := rfl
  have hlt := num_lt r
  rw [hF1, hF2]
  generalize r.num = m at *
  generalize r.numR = r1 at *
  obtain ⟨FR, hFR⟩ : ∃ FR, Rdr.manyR f m r1 = FR := ⟨_, rfl⟩
  obtain ⟨FX, hFX⟩ : ∃ FX, Rdr.many f G m r1 = FX := ⟨_, rfl⟩
  rw [hFR, hFX]
  have hFR' := Lib.hid hFR
  have hFX' := Lib.hid hFX
  clear hF1 hF2 hFR hFX hJ hstep hR h0
  go_enter Tryz.func105, Tryz.ntmps105
  go_wp2_with fail
  with_reducible refine hN.out.mono ?_
  rintro x w1 ⟨rfl, hR1, hK1⟩
  have hJ1 := hJ'.out w1 hK1
  go_wp2
  go_loopw [4] (fun n wr => ∃ (k : Nat) (r' : Rdr) (xs : List α), n = .int .u64 k ∧ k < 18446744073709551616 ∧ RdAt B wr R r' ∧ J r' xs wr ∧ Rdr.manyR f k r' = FR ∧ xs ++ Rdr.many f G k r' = FX) (fun n _ => (intOf n).toNat)
  case atStart => exact ⟨m, r1, [], rfl, hlt, hR1, hJ1, hFR'.out, by rw [List.nil_append]; exact hFX'.out⟩
  case round =>
    clear hR1 hJ1 hK1 hlt hN hJ'
    obtain ⟨k, r', xs, rfl, hk, hRr, hJr, h1, h2⟩ := hrel
    have hRb := hRr.2
    obtain ⟨bv, hb, _⟩ := hRb
    have hc : wr.cell? ⟨R, 1, none⟩ = some (.int .i64 r'.e) := by rw [hb.cell]; rfl
    have hRr' := Lib.hid hRr
    have hJr' := Lib.hid hJr
    by_cases hst : k = 0 ∨ r'.e ≠ 0
    · obtain ⟨e1, e2⟩ := many_stop (f := f) (G := G) hst
      rw [e1] at h1
      rw [e2, List.append_nil] at h2
      have hP : TimesPost B R J FR FX (.returned (.tuple #[])) wr := by rw [← h1, ← h2]; exact ⟨rfl, hRr, hJr⟩
      have hP' := Lib.hid hP
      clear hP h1 h2 e1 e2 hRr hJr hb
      rcases Nat.eq_zero_or_pos k with h0 | h0
      · subst h0
        clear hst
        go_wp2
        go_end0
        exact hP'.out
      · have t1 : (0 : Int) < (k : Int) := by omega
        have t2 : (r'.e == 0) = false := by
          rcases hst with h | h
          · omega
          · simpa using h
        generalize r'.e = q at *
        clear hst h0
        go_wp2
        go_end0
        exact hP'.out
    · have hk0 : k ≠ 0 := fun e => hst (.inl e)
      have he : r'.e = 0 := Classical.byContradiction fun e => hst (.inr e)
      obtain ⟨k, rfl⟩ : ∃ k', k = k' + 1 := ⟨k - 1, by omega⟩
      obtain ⟨e1, e2⟩ := many_next (f := f) (G := G) (k := k) he
      rw [e1] at h1
      rw [e2] at h2
      have hS := Lib.hid (hs.out r' xs wr he hRr hJr)
      have t1 : (0 : Int) < ((k + 1 : Nat) : Int) := by omega
      have h1' := Lib.hid h1
      have h2' := Lib.hid h2
      rw [he] at hc
      clear hst he h1 h2 e1 e2 hRr hJr hb hk0
      go_wp2_with fail
      with_reducible refine hS.out.mono ?_
      rintro x w2 ⟨rfl, hR2, hJ2⟩
      have hR2' := Lib.hid hR2
      have hJ2' := Lib.hid hJ2
      clear hR2 hJ2 hS
      go_wp2
      go_roundw
      case rel => exact ⟨k, f r', xs ++ [G r'], by go_num, by omega, hR2'.out, hJ2'.out, h1'.out, by rw [List.append_assoc]; exact h2'.out⟩
      case measure => simp [intOf]
end Go.Proofs.YtabcdodjkfknlaaGreatDoor
namespace Go.Proofs.YtabcdodjkfknlaaGreatDoor
open Go.RowKit
attribute [local go_sem ↓] dapp_op dslK_op
attribute [local go_sem] Oper.semAt_some
theorem took_le (r : Rdr) (n : Nat) (e : Int) : (r.took n e).l.length ≤ r.l.length := by
  unfold Rdr.took
  split
  · exact Nat.le_refl _
  · split
    · exact Nat.le_refl _
    · show (r.l.drop n).length ≤ _; rw [List.length_drop]; omega
theorem took_e {r : Rdr} {n : Nat} {e : Int} (h : (r.took n e).e = 0) : r.e = 0 ∧ e = 0 ∧ r.took n e = ⟨r.l.drop n, 0⟩ := by
  unfold Rdr.took at h ⊢
  split at h
  · rename_i h1; exact absurd h h1
  · rename_i h1
    split at h
    · rename_i h2; exact absurd h h2
    · rename_i h2
      rw [if_neg h1, if_neg h2]
      exact ⟨by simpa using h1, by simpa using h2, rfl⟩
theorem numR_lt {r : Rdr} (h : r.numR.e = 0) : r.e = 0 ∧ r.numR.l.length < r.l.length := by
  obtain ⟨h1, h2, h3⟩ := took_e (r := r) (n := (getN r.l).n) (e := (getN r.l).e) h
  have hg := getN_le r.l
  refine ⟨h1, ?_⟩
  show (r.took (getN r.l).n (getN r.l).e).l.length < _
  rw [h3]
  show (r.l.drop (getN r.l).n).length < _
  rw [List.length_drop]
  rcases hg.2.2 with ⟨_, h4⟩ | ⟨_, _, h4⟩
  · have := hg.2.1; omega
  · omega
theorem numR_le (r : Rdr) : r.numR.l.length ≤ r.l.length := took_le _ _ _
theorem smallR_le (r : Rdr) : r.smallR.l.length ≤ r.l.length := by
  unfold Rdr.smallR
  split
  · exact Nat.le_trans (took_le _ _ _) (numR_le r)
  · exact numR_le r
theorem smallR_lt {r : Rdr} (h : r.smallR.e = 0) : r.e = 0 ∧ r.smallR.l.length < r.l.length := by
  unfold Rdr.smallR at h ⊢
  split at h
  · obtain ⟨_, h2, _⟩ := took_e h; exact absurd h2 (by decide)
  · rename_i h1; rw [if_neg h1]; exact numR_lt h
theorem textR_le (r : Rdr) : r.textR.l.length ≤ r.l.length := took_le _ _ _
theorem textR_e {r : Rdr} (h : r.textR.e = 0) : r.e = 0 := (took_e h).1
theorem tblR_le (r : Rdr) : r.tblR.l.length ≤ r.l.length :=
  Nat.le_trans (textR_le _) (Nat.le_trans (textR_le _) (Nat.le_trans (smallR_le _) (Nat.le_trans (smallR_le _) (smallR_le r))))
theorem tblR_lt {r : Rdr} (h : r.tblR.e = 0) : r.tblR.l.length < r.l.length := by
  have h1 := textR_e (r := r.smallR.smallR.smallR.textR) h
  have h2 := textR_e h1
  have h3 := (smallR_lt h2).1
  have h4 := (smallR_lt h3).1
  exact Nat.lt_of_le_of_lt (Nat.le_trans (textR_le _) (Nat.le_trans (textR_le _) (Nat.le_trans (smallR_le _) (smallR_le _)))) (smallR_lt h4).2
/-- so much was read -/
def Bd (r : Rdr) (n : Nat) : Prop := n + r.l.length ≤ 900000 ∨ (r.e ≠ 0 ∧ n + r.l.length ≤ 900001)
theorem Bd.le {r : Rdr} {n : Nat} (h : Bd r n) : n ≤ 900001 := by rcases h with h | ⟨_, h⟩ <;> omega
theorem Bd.num {r : Rdr} {n : Nat} (h : Bd r n) : Bd r.numR n := by
  have := numR_le r
  rcases h with h | ⟨h0, h⟩
  · exact .inl (by omega)
  · refine .inr ⟨fun e => h0 (numR_lt e).1, by omega⟩
theorem Bd.step {r r' : Rdr} {n : Nat} (h : Bd r n) (h0 : r.e = 0) (h1 : r'.l.length ≤ r.l.length) (h2 : r'.e = 0 → r'.l.length < r.l.length) : Bd r' (n + 1) := by
  have hb : n + r.l.length ≤ 900000 := by
    rcases h with h | ⟨h3, _⟩
    · exact h
    · exact absurd h0 h3
  by_cases h3 : r'.e = 0
  · have := h2 h3; exact .inl (by omega)
  · exact .inr ⟨h3, by omega⟩
section
variable {B : Nat} {w0 w w' : World} {R E SM TX Z : Nat} {av dv : Value} {e : Edt} {r : Rdr}
theorem DecAt.set_ (h : DecAt B w0 w R E SM TX Z av dv e) (hR : RdAt B w R r) (i : Nat) (u : Value) (e' : Edt) (ha : e'.add = e.add) (hd : e'.drop = e.drop)
    (hc : (#[av, dv, .int .u64 e.floor, .int .u64 e.head, .int .i64 e.log, .int .i64 e.next] : Array Value).setIfInBounds i u = #[av, dv, .int .u64 e'.floor, .int .u64 e'.head, .int .i64 e'.log, .int .i64 e'.next]) :
    DecAt B w0 (w.setCell ⟨E, i, none⟩ u) R E SM TX Z av dv e' ∧ RdAt B (w.setCell ⟨E, i, none⟩ u) R r := by
  have ks : Keeps (fun j => j = E) w (w.setCell ⟨E, i, none⟩ u) := (Keeps.refl (fun j => j = E) w).setCell (p := ⟨E, i, none⟩) (.inl rfl) _
  have hb := h.blk.set_ i u
  rw [hc] at hb
  refine ⟨⟨h.low, h.nz, h.ne, Keeps.below_step h.below h.size ks fun j e => by rw [e]; exact h.low.2.1, hb, ?_, ?_, ?_, ?_, h.z.keeps ks h.nz.1⟩, hR.keeps ks fun j e => ⟨by rw [e]; exact h.low.2.1, by rw [e]; exact h.ne.1⟩⟩
  · rw [ha]; exact h.add.keeps ks fun g hg e => h.add.blk_ne h.blk (by decide) (by rw [hg, e])
  · rw [hd]; exact h.drop.keeps ks fun g hg e => h.drop.blk_ne h.blk (by decide) (by rw [hg, e])
  · exact h.sm.keeps ks fun e => (Blk.ne_ h.sm h.blk (by decide)) e
  · exact h.tx.keeps ks fun e => (Blk.ne_ h.tx h.blk (by decide)) e
end
/-- an edit of the call's own -/
def EdtIs (B : Nat) (w : World) (v : Value) (e : Edt) : Prop := ∃ av dv, v = .agg #[av, dv, .int .u64 e.floor, .int .u64 e.head, .int .i64 e.log, .int .i64 e.next] ∧ rkT.Own B w av e.add ∧ rkI.Own B w dv e.drop
def DecPost (w : World) (x : Edt × Int) (r : Ending) (w' : World) : Prop := ∃ v, r = .returned (.tuple #[v, .int .i64 x.2]) ∧ EdtIs w.heap.size w' v x.1 ∧ Below w.heap.size w w'
theorem dec1_times (B R E SM TX Z : Nat) (w0 : World) (dv : Value) (r : Rdr) (w : World) (hR : RdAt B w R r) (hD : DecAt B w0 w R E SM TX Z (.slice none 0 0) dv Edt.zero) (hb : Bd r 0) :
    Calls Tryz.prog 105 #[.pointer (some ⟨R, 0, none⟩), .func (.func 106) #[] #[.pointer (some ⟨E, 0, none⟩), .pointer (some ⟨SM, 0, none⟩), .pointer (some ⟨TX, 0, none⟩)]] w
      (TimesPost B R (fun r xs w => Bd r xs.length ∧ ∃ av, DecAt B w0 w R E SM TX Z av dv { Edt.zero with add := xs }) (r.timesR Rdr.tblR) (r.times Rdr.tblR Rdr.tbl)) :=
  times_calls B R Rdr.tblR Rdr.tbl 106 _ (enters_of Tryz.func106 (by kernel_rfl) rfl) _
    (fun r xs w w' ⟨h1, av, h2⟩ hR hk => ⟨h1.num, av, h2.rd hk hR.blk⟩)
    (fun r xs w h0 hR ⟨h1, av, h2⟩ => (dec1_calls B R E SM TX Z w0 w r _ av dv hR h2 (by have := h1.le; show xs.length ≤ _; omega)).mono fun _ _ ⟨hx, hR', av', hD'⟩ => ⟨hx, hR', by rw [List.length_append]; exact h1.step h0 (tblR_le r) tblR_lt, av', hD'⟩)
    r w hR ⟨hb, _, hD⟩
theorem dec2_times (B R E SM TX Z : Nat) (w0 : World) (av : Value) (l : List Tbl) (r : Rdr) (w : World) (hR : RdAt B w R r) (hD : DecAt B w0 w R E SM TX Z av (.slice none 0 0) { Edt.zero with add := l }) (hb : Bd r 0) :
    Calls Tryz.prog 105 #[.pointer (some ⟨R, 0, none⟩), .func (.func 107) #[] #[.pointer (some ⟨E, 0, none⟩), .pointer (some ⟨SM, 0, none⟩)]] w
      (TimesPost B R (fun r xs w => Bd r xs.length ∧ ∃ dv, DecAt B w0 w R E SM TX Z av dv { Edt.zero with add := l, drop := xs }) (r.timesR Rdr.smallR) (r.times Rdr.smallR Rdr.small)) :=
  times_calls B R Rdr.smallR Rdr.small 107 _ (enters_of Tryz.func107 (by kernel_rfl) rfl) _
    (fun r xs w w' ⟨h1, dv, h2⟩ hR hk => ⟨h1.num, dv, h2.rd hk hR.blk⟩)
    (fun r xs w h0 hR ⟨h1, dv, h2⟩ => (dec2_calls B R E SM TX Z w0 w r _ av dv hR h2 (by have := h1.le; show xs.length ≤ _; omega)).mono fun _ _ ⟨hx, hR', dv', hD'⟩ => ⟨hx, hR', by rw [List.length_append]; exact h1.step h0 (smallR_le r) fun e => (smallR_lt e).2, dv', hD'⟩)
    r w hR ⟨hb, _, hD⟩
end Go.Proofs.YtabcdodjkfknlaaGreatDoor
namespace Go.Proofs.YtabcdodjkfknlaaGreatDoor
open Go.RowKit
attribute [local go_sem] Oper.semAt_some
def oddT (t : Tbl) : Bool := oddI t.num || oddI t.level || oddI t.size
set_option maxHeartbeats 1000000 in
set_option maxRecDepth 100000 in
theorem oddT_calls (t : Tbl) (w : World) (hl : t.lang) : Calls Tryz.prog 139 #[.agg #[.int .i64 t.num, .int .i64 t.level, .int .i64 t.size, .string t.first, .string t.last]] w fun e w' => e = .returned (.bool (oddT t)) ∧ Below w.heap.size w w' := by
  obtain ⟨l1, l2, l3, l4, l5, l6⟩ := hl
  obtain ⟨tn, tl, tz, tf, ta⟩ := t
  have hO : oddT ⟨tn, tl, tz, tf, ta⟩ = (oddI tn || oddI tl || oddI tz) := rfl
  simp only at l1 l2 l3 l4 l5 l6 ⊢
  rw [hO]
  have c1 := fun W => odd_calls tn W l1 l2
  have c2 := fun W => odd_calls tl W l3 l4
  have c3 := fun W => odd_calls tz W l5 l6
  have bT := Blk.new w 76 #[.int .i64 tn, .int .i64 tl, .int .i64 tz, .string tf, .string ta]
  have cT := bT.cell
  have hb := (Below.refl w.heap.size w).alloc (Nat.le_refl _) (.cells #[.int .i64 tn, .int .i64 tl, .int .i64 tz, .string tf, .string ta] 76)
  have hb' := Lib.hid hb
  have c1' := Lib.hid c1
  have c2' := Lib.hid c2
  have c3' := Lib.hid c3
  clear hb bT hO c1 c2 c3 l1 l2 l3 l4 l5 l6
  generalize oddI tn = a1 at *
  generalize oddI tl = a2 at *
  generalize oddI tz = a3 at *
  cases a1 <;> cases a2 <;> cases a3 <;> (
    go_enter Tryz.func139, Tryz.ntmps139
    go_wp2_with (first
      | (go_at_call_of 86 (Value.int .i64 tn); ((with_reducible refine (c1'.out _).mono ?_); rintro e w1 ⟨rfl, rfl⟩))
      | (go_at_call_of 86 (Value.int .i64 tl); ((with_reducible refine (c2'.out _).mono ?_); rintro e w1 ⟨rfl, rfl⟩))
      | (go_at_call_of 86 (Value.int .i64 tz); ((with_reducible refine (c3'.out _).mono ?_); rintro e w1 ⟨rfl, rfl⟩)))
    go_ret
    exact ⟨rfl, hb'.out⟩)
set_option maxHeartbeats 1000000 in
set_option maxRecDepth 100000 in
theorem idxT_calls (p : Option Addr) (c : Nat) (l : List Tbl) (w : World) (hA : rkT.At w p l) (hlen : l.length ≤ 1000000) (hlang : ∀ t ∈ l, t.lang) :
    Calls Tryz.prog 155 #[.slice p l.length c, .func (.func 139) #[] #[]] w fun e w' => ∃ j, e = .returned (.int .i64 j) ∧ (decide (0 ≤ j)) = l.any oddT ∧ Below w.heap.size w w' := by
  have hA' := Lib.hid hA
  have hlang' := Lib.hid hlang
  clear hA hlang
  obtain ⟨L, hL⟩ : ∃ L, l.length = L := ⟨_, rfl⟩
  have hL' := Lib.hid hL
  rw [hL] at hlen ⊢
  clear hL
  go_enter Tryz.func155, Tryz.ntmps155
  go_wp2
  go_loopw [5, 8] (fun _ i wr => ∃ k : Nat, i = .int .i64 k ∧ k ≤ L ∧ (l.take k).any oddT = false ∧ Below w.heap.size w wr) (fun _ i _ => L - (intOf i).toNat)
  case atStart => exact ⟨0, rfl, by omega, rfl, Below.refl _ _⟩
  case round =>
    obtain ⟨wo, rfl⟩ : ∃ wo : World, wo = wr := ⟨_, rfl⟩
    obtain ⟨k, rfl, hk, hany, hb⟩ := hrel
    by_cases hlt : k < L
    · obtain ⟨t, ht⟩ : ∃ t, l[k]? = some t := ⟨_, List.getElem?_eq_getElem (by rw [hL'.out]; exact hlt)⟩
      obtain ⟨a, b, rfl, hab, hbl, q0, q1, q2, q3, q4⟩ := tbl_at (hA'.out.below hb) ht
      have hc := fun W => oddT_calls t W (hlang'.out t (List.mem_of_getElem? ht))
      have htake : (l.take (k + 1)).any oddT = oddT t := by
        rw [List.take_add_one, ht, List.any_append, hany]; simp
      have hmem := List.mem_of_getElem? ht
      obtain ⟨tn, tl, tz, tf, ta⟩ := t
      simp only at q0 q1 q2 q3 q4 hc
      have hb' := Lib.hid hb
      have hc' := Lib.hid hc
      have htake' := Lib.hid htake
      have hmem' := Lib.hid hmem
      have ht' := Lib.hid ht
      have hany' := Lib.hid hany
      clear hb hc htake hmem ht hany
      have n1 : 0 < L := by omega
      go_wp2_with fail
      (with_reducible refine (hc'.out _).mono ?_)
      rintro e w1 ⟨rfl, hb1⟩
      have hb2 := Lib.hid (hb'.out.trans (hb1.mono hb'.out.size))
      clear hb1
      by_cases ho : oddT ⟨tn, tl, tz, tf, ta⟩ = true
      · rw [ho]
        go_wp2_with fail
        go_ret
        exact ⟨k, rfl, by rw [List.any_eq_true.2 ⟨_, hmem'.out, ho⟩]; simp, hb2.out⟩
      · rw [Bool.not_eq_true] at ho
        rw [ho]
        go_wp2_with fail
        exact ⟨⟨k + 1, by rw [Int.natCast_add]; rfl, by omega, by rw [htake'.out, ho], hb2.out⟩, by simp only [intOf]; omega⟩
    · obtain rfl : k = L := by omega
      rw [← hL'.out, List.take_length] at hany
      go_wp2_with fail
      go_ret
      exact ⟨-1, rfl, by rw [hany]; rfl, hb⟩
set_option maxHeartbeats 1000000 in
set_option maxRecDepth 100000 in
theorem contT_calls (p : Option Addr) (c : Nat) (l : List Tbl) (w : World) (hA : rkT.At w p l) (hlen : l.length ≤ 1000000) (hlang : ∀ t ∈ l, t.lang) :
    Calls Tryz.prog 125 #[.slice p l.length c, .func (.func 139) #[] #[]] w fun e w' => e = .returned (.bool (l.any oddT)) ∧ Below w.heap.size w w' := by
  have hI := Lib.hid (idxT_calls p c l w hA hlen hlang)
  clear hA hlang
  obtain ⟨L, hL⟩ : ∃ L, l.length = L := ⟨_, rfl⟩
  rw [hL] at hlen hI ⊢
  clear hL
  go_enter Tryz.func125, Tryz.ntmps125
  go_wp2_with (go_at_call 155; ((with_reducible refine hI.out.mono ?_); rintro e w1 ⟨j, rfl, hj, hb⟩; have hb' := Lib.hid hb; have hj' := Lib.hid hj; clear hb hj))
  go_ret
  exact ⟨by rw [← hj'.out]; rfl, hb'.out⟩
end Go.Proofs.YtabcdodjkfknlaaGreatDoor
namespace Go.Proofs.YtabcdodjkfknlaaGreatDoor
open Go.RowKit
attribute [local go_sem] Oper.semAt_some
theorem int_at {w : World} {p : Option Addr} {l : List Int} (h : rkI.At w p l) {k : Nat} {t : Int} (ht : l[k]? = some t) :
    ∃ a b : Addr, p = some a ∧ a.add k = b ∧ b.block < w.heap.size ∧ w.cell? b = some (.int .i64 t) := by
  obtain ⟨a, hp, hl, hc⟩ := h k t ht
  refine ⟨a, _, hp, rfl, by rw [addK_blk]; exact hl, ?_⟩
  have := hc 0 _ (show (rkI.en t)[0]? = some _ from rfl)
  rw [Nat.add_zero, show k * rkI.K = k from Nat.mul_one k] at this
  exact this
set_option maxHeartbeats 1000000 in
set_option maxRecDepth 100000 in
theorem idxI_calls (p : Option Addr) (c : Nat) (l : List Int) (w : World) (hA : rkI.At w p l) (hlen : l.length ≤ 1000000) (hlang : ∀ t ∈ l, -9223372036854775808 ≤ t ∧ t < 9223372036854775808) :
    Calls Tryz.prog 168 #[.slice p l.length c, .func (.func 86) #[] #[]] w fun e w' => ∃ j, e = .returned (.int .i64 j) ∧ (decide (0 ≤ j)) = l.any oddI ∧ Below w.heap.size w w' := by
  have hA' := Lib.hid hA
  have hlang' := Lib.hid hlang
  clear hA hlang
  obtain ⟨L, hL⟩ : ∃ L, l.length = L := ⟨_, rfl⟩
  have hL' := Lib.hid hL
  rw [hL] at hlen ⊢
  clear hL
  go_enter Tryz.func168, Tryz.ntmps168
  go_wp2
  go_loopw [5, 8] (fun _ i wr => ∃ k : Nat, i = .int .i64 k ∧ k ≤ L ∧ (l.take k).any oddI = false ∧ Below w.heap.size w wr) (fun _ i _ => L - (intOf i).toNat)
  case atStart => exact ⟨0, rfl, by omega, rfl, Below.refl _ _⟩
  case round =>
    obtain ⟨wo, rfl⟩ : ∃ wo : World, wo = wr := ⟨_, rfl⟩
    obtain ⟨k, rfl, hk, hany, hb⟩ := hrel
    by_cases hlt : k < L
    · obtain ⟨t, ht⟩ : ∃ t, l[k]? = some t := ⟨_, List.getElem?_eq_getElem (by rw [hL'.out]; exact hlt)⟩
      obtain ⟨a, b, rfl, hab, hbl, q0⟩ := int_at (hA'.out.below hb) ht
      have hc := fun W => odd_calls t W (hlang'.out t (List.mem_of_getElem? ht)).1 (hlang'.out t (List.mem_of_getElem? ht)).2
      have htake : (l.take (k + 1)).any oddI = oddI t := by
        rw [List.take_add_one, ht, List.any_append, hany]; simp
      have hmem := List.mem_of_getElem? ht
      have hb' := Lib.hid hb
      have hc' := Lib.hid hc
      have htake' := Lib.hid htake
      have hmem' := Lib.hid hmem
      have ht' := Lib.hid ht
      have hany' := Lib.hid hany
      clear hb hc htake hmem ht hany
      have n1 : 0 < L := by omega
      go_wp2_with fail
      (with_reducible refine (hc'.out _).mono ?_)
      rintro e w1 ⟨rfl, rfl⟩
      have hb2 := hb'
      by_cases ho : oddI t = true
      · rw [ho]
        go_wp2_with fail
        go_ret
        exact ⟨k, rfl, by rw [List.any_eq_true.2 ⟨_, hmem'.out, ho⟩]; simp, hb2.out⟩
      · rw [Bool.not_eq_true] at ho
        rw [ho]
        go_wp2_with fail
        exact ⟨⟨k + 1, by rw [Int.natCast_add]; rfl, by omega, by rw [htake'.out, ho], hb2.out⟩, by simp only [intOf]; omega⟩
    · obtain rfl : k = L := by omega
      rw [← hL'.out, List.take_length] at hany
      go_wp2_with fail
      go_ret
      exact ⟨-1, rfl, by rw [hany]; rfl, hb⟩
set_option maxHeartbeats 1000000 in
set_option maxRecDepth 100000 in
theorem contI_calls (p : Option Addr) (c : Nat) (l : List Int) (w : World) (hA : rkI.At w p l) (hlen : l.length ≤ 1000000) (hlang : ∀ t ∈ l, -9223372036854775808 ≤ t ∧ t < 9223372036854775808) :
    Calls Tryz.prog 138 #[.slice p l.length c, .func (.func 86) #[] #[]] w fun e w' => e = .returned (.bool (l.any oddI)) ∧ Below w.heap.size w w' := by
  have hI := Lib.hid (idxI_calls p c l w hA hlen hlang)
  clear hA hlang
  obtain ⟨L, hL⟩ : ∃ L, l.length = L := ⟨_, rfl⟩
  rw [hL] at hlen hI ⊢
  clear hL
  go_enter Tryz.func138, Tryz.ntmps138
  go_wp2_with (go_at_call 168; ((with_reducible refine hI.out.mono ?_); rintro e w1 ⟨j, rfl, hj, hb⟩; have hb' := Lib.hid hb; have hj' := Lib.hid hj; clear hb hj))
  go_ret
  exact ⟨by rw [← hj'.out]; rfl, hb'.out⟩
/-- an edit in memory, as a value -/
structure EdtAt (w : World) (v : Value) (x : Edt) : Prop where
  form : ∃ pa ca pd cd, v = .agg #[.slice pa x.add.length ca, .slice pd x.drop.length cd, .int .u64 x.floor, .int .u64 x.head, .int .i64 x.log, .int .i64 x.next] ∧ rkT.At w pa x.add ∧ rkI.At w pd x.drop
  len : x.add.length ≤ 1000000 ∧ x.drop.length ≤ 1000000
  lang : ∀ t ∈ x.add, t.lang
  langI : ∀ t ∈ x.drop, -9223372036854775808 ≤ t ∧ t < 9223372036854775808
  nums : x.floor < 18446744073709551616 ∧ x.head < 18446744073709551616 ∧ -9223372036854775808 ≤ x.log ∧ x.log < 9223372036854775808 ∧ -9223372036854775808 ≤ x.next ∧ x.next < 9223372036854775808
theorem EdtAt.later {w w' : World} {v : Value} {x : Edt} (h : EdtAt w v x) (hb : Below w.heap.size w w') : EdtAt w' v x := by
  obtain ⟨⟨pa, ca, pd, cd, e, hA, hD⟩, h2, h3, h4, h5⟩ := h
  exact ⟨⟨pa, ca, pd, cd, e, hA.below hb, hD.below hb⟩, h2, h3, h4, h5⟩
theorem right_eq (e : Edt) : e.right = (!oddI e.log && !oddI e.next && !e.drop.any oddI && !e.add.any oddT) := by
  have h : ∀ t : Tbl, Tbl.right t = !oddT t := fun t => by unfold Tbl.right oddT; cases oddI t.num <;> cases oddI t.level <;> cases oddI t.size <;> rfl
  unfold Edt.right
  rw [List.not_any_eq_all_not, List.not_any_eq_all_not, show Tbl.right = fun t => !oddT t from funext h]
set_option maxHeartbeats 2000000 in
set_option maxRecDepth 100000 in
theorem right_calls (v : Value) (x : Edt) (w : World) (h : EdtAt w v x) :
    Calls Tryz.prog 88 #[v] w fun e w' => e = .returned (.bool x.right) ∧ Below w.heap.size w w' := by
  obtain ⟨⟨pa, ca, pd, cd, rfl, hA, hD⟩, ⟨h1, h2⟩, h3, h4, h5, h6, h7, h8, h9, h10⟩ := h
  rw [right_eq]
  have c1 := Lib.hid (fun W => odd_calls x.log W h7 h8)
  have c2 := Lib.hid (fun W => odd_calls x.next W h9 h10)
  have c3 := Lib.hid (fun W (hb : Below w.heap.size w W) => contI_calls pd cd x.drop W (hD.below hb) h2 h4)
  have c4 := Lib.hid (fun W (hb : Below w.heap.size w W) => contT_calls pa ca x.add W (hA.below hb) h1 h3)
  obtain ⟨add, drop, fl, hd, lg, nx⟩ := x
  simp only at c1 c2 c3 c4 h5 h6 h7 h8 h9 h10 ⊢
  have bE := Blk.new w 33 #[.slice pa add.length ca, .slice pd drop.length cd, .int .u64 fl, .int .u64 hd, .int .i64 lg, .int .i64 nx]
  have hb := (Below.refl w.heap.size w).alloc (Nat.le_refl _) (.cells #[.slice pa add.length ca, .slice pd drop.length cd, .int .u64 fl, .int .u64 hd, .int .i64 lg, .int .i64 nx] 33)
  generalize oddI lg = a1 at *
  generalize oddI nx = a2 at *
  generalize drop.any oddI = a3 at *
  generalize add.any oddT = a4 at *
  generalize add.length = nA at *
  generalize drop.length = nD at *
  have cE := bE.cell
  have hb' := Lib.hid hb
  have bE' := Lib.hid bE
  clear hb bE hA hD h1 h2 h3 h4 h5 h6 h7 h8 h9 h10
  cases a1 <;> cases a2 <;> cases a3 <;> cases a4 <;> (
    go_enter Tryz.func88, Tryz.ntmps88
    go_wp2_with (first
      | (go_at_call_of 86 (Value.int .i64 lg); ((with_reducible refine (c1.out _).mono ?_); rintro e w1 ⟨rfl, rfl⟩))
      | (go_at_call_of 86 (Value.int .i64 nx); ((with_reducible refine (c2.out _).mono ?_); rintro e w1 ⟨rfl, rfl⟩))
      | (go_at_call 138; ((with_reducible refine (c3.out _ hb'.out).mono ?_); rintro e w3 ⟨rfl, hb3⟩; have hb3' := Lib.hid (hb'.out.trans (hb3.mono hb'.out.size)); have cE3 := (bE'.out.below hb3 bE'.out.lt).cell; clear hb3 cE))
      | (go_at_call 125; ((with_reducible refine (c4.out _ hb3'.out).mono ?_); rintro e w4 ⟨rfl, hb4⟩; have hb4' := Lib.hid (hb3'.out.trans (hb4.mono hb3'.out.size)); clear hb4)))
    go_ret
    exact ⟨rfl, by first | exact hb4'.out | exact hb3'.out | exact hb'.out⟩)
end Go.Proofs.YtabcdodjkfknlaaGreatDoor
namespace Go.Proofs.YtabcdodjkfknlaaGreatDoor
open Go.RowKit
attribute [local go_sem ↓] dapp_op dslK_op
attribute [local go_sem] Oper.semAt_some
theorem RowK.At.keepsP {α : Type} {r : RowK α} {S : Nat → Prop} {w w' : World} {p : Option Addr} {l : List α} (h : r.At w p l) (hk : Keeps S w w') (hs : ∀ a, p = some a → l ≠ [] → ¬ S a.block) : r.At w' p l := by
  intro k x hx
  obtain ⟨a, hp, hl, hc⟩ := h k x hx
  refine ⟨a, hp, Nat.lt_of_lt_of_le hl hk.size, fun j u hu => (World.cell?_of_block (w := w) (hk.block _ (by rw [addK_blk]; exact hl) (by rw [addK_blk]; exact hs a hp (fun e => by rw [e] at hx; cases hx)))).trans (hc j u hu)⟩
/-- bytes that are gathered in a variable -/
structure Enc (w1 w : World) (B bb : Nat) (l : List UInt8) : Prop where
  keep : Keeps (fun j => j = bb) w1 w
  lt : bb < w1.heap.size
  low : B ≤ w1.heap.size
  at_ : ∃ p c, Blk w bb 43 #[.slice p l.length c] ∧ BOwn B w (.slice p l.length c) l
theorem Enc.put {w1 w w2 : World} {B bb : Nat} {l l' : List UInt8} {p : Option Addr} {m c : Nat} (h : Enc w1 w B bb l) (hb : Below w.heap.size w w2) (hm : m = l'.length) (ho : BOwn w.heap.size w2 (.slice p m c) l') :
    Enc w1 (w2.setCell ⟨bb, 0, none⟩ (.slice p m c)) B bb l' := by
  subst hm
  obtain ⟨hk, hlt, hlow, p0, c0, hB, _⟩ := h
  have hw := hk.size
  have hk2 : Keeps (fun j => j = bb) w2 (w2.setCell ⟨bb, 0, none⟩ (.slice p l'.length c)) := (Keeps.refl (fun j => j = bb) w2).setCell (p := ⟨bb, 0, none⟩) (.inl rfl) _
  refine ⟨(hk.trans (.of_below hb)).trans hk2, hlt, hlow, p, c, (hB.below hb hB.lt).set_ 0 _, (ho.keeps hk2 fun g hg => ?_).mono (by omega)⟩
  have := (ho.lt g hg).1
  omega
theorem flat_take {α : Type} {f : α → List UInt8} {ns : List α} {k : Nat} : ((ns.take k).flatMap f).length ≤ (ns.flatMap f).length := by
  conv => rhs; rw [← List.take_append_drop k ns, List.flatMap_append, List.length_append]
  omega
theorem flat_next {α : Type} {f : α → List UInt8} {ns : List α} {k : Nat} {n : α} (h : ns[k]? = some n) : (ns.take (k + 1)).flatMap f = (ns.take k).flatMap f ++ f n := by
  rw [List.take_add_one, h, List.flatMap_append]; simp
set_option maxHeartbeats 1000000 in
set_option maxRecDepth 100000 in
theorem enc1_calls (w1 w : World) (B bb : Nat) (l : List UInt8) (p : Option Addr) (c : Nat) (ns : List Int) (h : Enc w1 w B bb l) (hA : rkI.At w p ns) (hp : ∀ a, p = some a → ns ≠ [] → a.block ≠ bb)
    (hr : ∀ n ∈ ns, 0 ≤ n ∧ n < 4611686018427387904) (hn : ns.length ≤ 1000000) (hl : l.length + (ns.flatMap uvI).length ≤ 10000000) :
    Calls Tryz.prog 89 #[.slice p ns.length c, .pointer (some ⟨bb, 0, none⟩)] w fun e w' => e = .returned (.tuple #[]) ∧ Enc w1 w' B bb (l ++ ns.flatMap uvI) ∧ Keeps (fun j => j = bb) w w' := by
  have h' := Lib.hid h
  have hA' := Lib.hid hA
  have hp' := Lib.hid hp
  have hr' := Lib.hid hr
  clear h hA hp hr
  obtain ⟨L, hL⟩ : ∃ L, ns.length = L := ⟨_, rfl⟩
  have hL' := Lib.hid hL
  rw [hL] at hn ⊢
  clear hL
  go_enter Tryz.func89, Tryz.ntmps89
  go_wp2
  go_loopw [4, 7] (fun _ i wr => ∃ k : Nat, i = .int .i64 k ∧ k ≤ L ∧ Enc w1 wr B bb (l ++ (ns.take k).flatMap uvI) ∧ Keeps (fun j => j = bb) w wr) (fun _ i _ => L - (intOf i).toNat)
  case atStart => exact ⟨0, rfl, by omega, by rw [List.take_zero, List.flatMap_nil, List.append_nil]; exact h'.out, Keeps.refl _ _⟩
  case round =>
    obtain ⟨wo, rfl⟩ : ∃ wo : World, wo = wr := ⟨_, rfl⟩
    obtain ⟨k, rfl, hk, hE, hK⟩ := hrel
    by_cases hlt : k < L
    · obtain ⟨n, ht⟩ : ∃ t, ns[k]? = some t := ⟨_, List.getElem?_eq_getElem (by rw [hL'.out]; exact hlt)⟩
      obtain ⟨hn0, hn1⟩ := hr'.out n (List.mem_of_getElem? ht)
      obtain ⟨a, b, rfl, hab, hbl, q0⟩ := int_at (hA'.out.keepsP hK hp'.out) ht
      obtain ⟨m, rfl⟩ : ∃ m : Nat, n = (m : Int) := ⟨n.toNat, by omega⟩
      have hfl := flat_take (f := uvI) (ns := ns) (k := k)
      have hfn := flat_next (f := uvI) ht
      have hE' := Lib.hid hE
      have hK' := Lib.hid hK
      obtain ⟨p1, c1, hB, ho⟩ := hE.at_
      have cB := hB.cell
      have fB := hB.frozen
      have hP := put_calls _ _ m wo ho.bytes (by rw [List.length_append]; omega) (by omega)
      have hu : uvI (m : Int) = uv m := rfl
      rw [hu] at hfn
      obtain ⟨x, hx⟩ : ∃ x, l ++ (ns.take k).flatMap uvI = x := ⟨_, rfl⟩
      rw [hx] at hP hE' hB cB
      have hfx : l ++ (ns.take (k + 1)).flatMap uvI = x ++ uv m := by rw [hfn, ← List.append_assoc, hx]
      have hP' := Lib.hid hP
      have hfx' := Lib.hid hfx
      have hB' := Lib.hid hB
      clear hP hfn hE hK hB ho ht hfl hx hfx
      obtain ⟨X, hX⟩ : ∃ X, x.length = X := ⟨_, rfl⟩
      rw [hX] at hP' hB' cB
      have hlt' : bb < wo.heap.size := hB'.out.lt
      have n1 : 0 < L := by omega
      clear hX
      go_wp2_with (go_at_call 90; ((with_reducible refine hP'.out.mono ?_); rintro e w2 ⟨p2, c2, rfl, o2, hb2⟩; obtain ⟨X2, hX2⟩ : ∃ X2, (x ++ uv m).length = X2 := ⟨_, rfl⟩; rw [hX2] at o2 ⊢; have hE2 := Lib.hid (hE'.out.put hb2 hX2.symm o2); have hK2 := Lib.hid ((hK'.out.trans (.of_below hb2)).setCell (p := ⟨bb, 0, none⟩) (.inl rfl) (.slice p2 X2 c2)); have cB2 := (hB'.out.below hb2 hlt').cell; have fB2 := (hB'.out.below hb2 hlt').frozen; clear hX2 hb2 cB fB))
      refine ⟨⟨k + 1, by rw [Int.natCast_add]; rfl, by omega, by rw [hfx'.out]; exact hE2.out, hK2.out⟩, by simp only [intOf]; omega⟩
    · obtain rfl : k = L := by omega
      rw [← hL'.out, List.take_length] at hE
      go_wp2
      go_end0
      exact ⟨rfl, hE, hK⟩
end Go.Proofs.YtabcdodjkfknlaaGreatDoor
