/- Walks: the reader of an edit: took, number, small, text. Walks: the reader of an edit: number, small, text. The order of tables, which versions may be, what an edit makes of one. No program in sight. -/
import Derived.Test.YtabcdodjkfknlaaGreatDoorPN12
namespace Go.Proofs.YtabcdodjkfknlaaGreatDoor
open Go.RowKit
attribute [local go_sem ↓] dapp_op dslK_op
/-- a reader at block R, its bytes below block B -/
def RdAt (B : Nat) (w : World) (R : Nat) (r : Rdr) : Prop := B ≤ R ∧ ∃ bv, Blk w R 144 #[bv, .int .i64 r.e] ∧ Bytes w bv r.l ∧ (∀ g, bv.ownBlock = some g → r.l ≠ [] → g < B) ∧ r.l.length ≤ 90000000
/-- all stands but the reader's block -/
def RdKeeps (R : Nat) (w w' : World) : Prop := Keeps (fun j => j = R) w w'
section
variable {w w' w'' : World} {B R : Nat} {r : Rdr}
theorem RdAt.lt (h : RdAt B w R r) : B ≤ R ∧ R < w.heap.size := by obtain ⟨h0, _, h1, _⟩ := h; exact ⟨h0, h1.lt⟩
theorem RdAt.keeps {S : Nat → Prop} (h : RdAt B w R r) (hk : Keeps S w w') (hs : ∀ j, S j → B ≤ j ∧ j ≠ R) : RdAt B w' R r := by
  obtain ⟨h0, bv, h1, h2, h3, h4⟩ := h
  exact ⟨h0, bv, h1.keeps hk fun e => (hs R e).2 rfl, h2.keepsP hk fun g hg hl hS => by have := h3 g hg hl; have := (hs g hS).1; omega, h3, h4⟩
theorem RdAt.later (h : RdAt B w R r) (hb : Below w.heap.size w w') : RdAt B w' R r := h.keeps (S := fun _ => False) (.of_below hb) fun _ e => e.elim
theorem RdKeeps.refl (R : Nat) (w : World) : RdKeeps R w w := Keeps.refl _ _
theorem RdKeeps.trans (h : RdKeeps R w w') (h' : RdKeeps R w' w'') : RdKeeps R w w'' := Keeps.trans h h'
/-- the error laid -/
theorem RdAt.set_e (h : RdAt B w R r) (e : Int) : RdAt B (w.setCell ⟨R, 1, none⟩ (.int .i64 e)) R ⟨r.l, e⟩ ∧ RdKeeps R w (w.setCell ⟨R, 1, none⟩ (.int .i64 e)) := by
  obtain ⟨h0, bv, h1, h2, h3, h4⟩ := h
  have hk : Keeps (fun j => j = R) w (w.setCell ⟨R, 1, none⟩ (.int .i64 e)) := (Keeps.refl (fun j => j = R) w).setCell (p := ⟨R, 1, none⟩) (.inl rfl) _
  exact ⟨⟨h0, bv, h1.set_ 1 _, h2.keepsP hk fun g hg hl hS => by have := h3 g hg hl; omega, h3, h4⟩, hk⟩
/-- the bytes cut -/
theorem RdAt.cut {p : Option Addr} {m c : Nat} {bv : Value} (h0 : B ≤ R) (h1 : Blk w R 144 #[bv, .int .i64 r.e]) (hv : bv = .slice p m c) (h2 : Bytes w bv r.l) (h3 : ∀ g, bv.ownBlock = some g → r.l ≠ [] → g < B) (h4 : r.l.length ≤ 90000000) {n : Nat} (hn : n ≤ m) :
    RdAt B (w.setCell ⟨R, 0, none⟩ (.slice (if c = n then p else p.map (·.add n)) (m - n) (c - n))) R ⟨r.l.drop n, r.e⟩ ∧ RdKeeps R w (w.setCell ⟨R, 0, none⟩ (.slice (if c = n then p else p.map (·.add n)) (m - n) (c - n))) := by
  have hk : Keeps (fun j => j = R) w (w.setCell ⟨R, 0, none⟩ (.slice (if c = n then p else p.map (·.add n)) (m - n) (c - n))) := (Keeps.refl (fun j => j = R) w).setCell (p := ⟨R, 0, none⟩) (.inl rfl) _
  subst hv
  have hb : ∀ g, (Value.slice (if c = n then p else p.map (·.add n)) (m - n) (c - n)).ownBlock = some g → r.l.drop n ≠ [] → g < B := by
    intro g hg hl
    refine h3 g ?_ (fun e => by rw [e] at hl; simp at hl)
    cases p with
    | none => split at hg <;> cases hg
    | some a =>
      split at hg
      · exact hg
      · have : (Value.slice (some a) m c).ownBlock = (Value.slice (some (a.add n)) (m - n) (c - n)).ownBlock := by
          show some a.block = some (a.add n).block
          rw [addK_blk]
        rw [this]; exact hg
  exact ⟨⟨h0, _, h1.set_ 0 _, (h2.drop hn).keepsP hk fun g hg hl hS => by have := hb g hg hl; omega, hb, by rw [List.length_drop]; omega⟩, hk⟩
end
def TookPost (B R : Nat) (w : World) (r : Rdr) (e : Ending) (w' : World) : Prop := e = .returned (.bool (decide (r.e = 0))) ∧ RdAt B w' R r ∧ RdKeeps R w w'
set_option maxHeartbeats 1000000 in
set_option maxRecDepth 100000 in
theorem took_calls (B R : Nat) (r : Rdr) (n : Nat) (e : Int) (w : World) (h : RdAt B w R r) (hn : n ≤ r.l.length) :
    Calls Tryz.prog 109 #[.pointer (some ⟨R, 0, none⟩), .int .i64 n, .int .i64 e] w (TookPost B R w (r.took n e)) := by
  have hT : r.took n e = if r.e ≠ 0 then r else if e ≠ 0 then ⟨r.l, e⟩ else ⟨r.l.drop n, 0⟩ := rfl
  have hset := h.set_e e
  obtain ⟨h0, bv, h1, h2, h3, h4⟩ := id h
  have hc := h1.cell
  have hf := h1.frozen
  by_cases hr : r.e = 0
  · rw [if_neg (by simpa using hr)] at hT
    have t1 : (r.e == 0) = true := by simpa using hr
    by_cases he : e = 0
    · subst he
      rw [if_neg (by simp)] at hT
      obtain ⟨p, c, rfl⟩ := h2.slice
      have hs := fun W => bsl_from p r.l.length c n hn W
      have h1' := h1.set_ 1 (.int .i64 0)
      have hcut := RdAt.cut (r := ⟨r.l, 0⟩) h0 h1' rfl (h2.keepsP hset.2 fun g hg hl hS => by have := h3 g hg hl; omega) h3 h4 hn
      obtain ⟨q, hq⟩ : ∃ q, (if c = n then p else p.map (·.add n)) = q := ⟨_, rfl⟩
      rw [hq] at hcut
      simp only [hq] at hs
      have hP : TookPost B R w (r.took n 0) (.returned (.bool true)) ((w.setCell ⟨R, 1, none⟩ (.int .i64 0)).setCell ⟨R, 0, none⟩ (.slice q (r.l.length - n) (c - n))) := by
        rw [hT]
        exact ⟨by rfl, hcut.1, hset.2.trans hcut.2⟩
      have hP' := Lib.hid hP
      generalize r.took n 0 = T at *
      obtain ⟨re, hre⟩ : ∃ re, r.e = re := ⟨_, rfl⟩
      obtain ⟨L, hL⟩ : ∃ L, r.l.length = L := ⟨_, rfl⟩
      rw [hre] at hc t1
      rw [hL] at hc hs hP' hn
      clear hP hT hcut hset hq h1 h2 h3 h1' hr h hre hL h4
      go_enter Tryz.func109, Tryz.ntmps109
      go_wp2
      go_ret
      exact hP'.out
    · rw [if_pos he] at hT
      have t2 : (e != 0) = true := by simpa using he
      have hP : TookPost B R w (r.took n e) (.returned (.bool false)) (w.setCell ⟨R, 1, none⟩ (.int .i64 e)) := by
        rw [hT]
        exact ⟨by simp [he], hset⟩
      have hP' := Lib.hid hP
      generalize r.took n e = T at *
      obtain ⟨re, hre⟩ : ∃ re, r.e = re := ⟨_, rfl⟩
      rw [hre] at hc t1
      clear hP hT hset h1 h2 h3 hr h hre he h4
      go_enter Tryz.func109, Tryz.ntmps109
      go_wp2
      go_ret
      exact hP'.out
  · rw [if_pos hr] at hT
    have t1 : (r.e == 0) = false := by simpa using hr
    have t2 : (r.e != 0) = true := by simpa using hr
    have hP : TookPost B R w (r.took n e) (.returned (.bool false)) w := by
      rw [hT]
      exact ⟨by simp [hr], h, RdKeeps.refl _ _⟩
    have hP' := Lib.hid hP
    generalize r.took n e = T at *
    obtain ⟨re, hre⟩ : ∃ re, r.e = re := ⟨_, rfl⟩
    rw [hre] at hc t1 t2
    clear hP hT hset h1 h2 h3 hr h hre h4
    go_enter Tryz.func109, Tryz.ntmps109
    go_wp2
    go_ret
    exact hP'.out
end Go.Proofs.YtabcdodjkfknlaaGreatDoor
namespace Go.Proofs.YtabcdodjkfknlaaGreatDoor
open Go.RowKit
attribute [local go_sem ↓] dapp_op dslK_op
def NumPost (B R : Nat) (w : World) (v : Value) (r : Rdr) (e : Ending) (w' : World) : Prop := e = .returned v ∧ RdAt B w' R r ∧ RdKeeps R w w'
set_option maxHeartbeats 1000000 in
set_option maxRecDepth 100000 in
theorem number_calls (B R : Nat) (r : Rdr) (w : World) (h : RdAt B w R r) :
    Calls Tryz.prog 108 #[.pointer (some ⟨R, 0, none⟩)] w (NumPost B R w (.int .u64 r.num) r.numR) := by
  obtain ⟨h0, bv, h1, h2, h3, h4⟩ := id h
  have hc : w.cell? ⟨R, 0, none⟩ = some bv := by rw [h1.cell]; rfl
  have hG := Lib.hid (get_calls bv r.l w h2 (by omega))
  have hg2 := (getN_le r.l).2.1
  have hT := Lib.hid (took_calls B R r (getN r.l).n (getN r.l).e w h hg2)
  have hN : r.num = if r.numR.e ≠ 0 then 0 else (getN r.l).v := rfl
  have hR : r.numR = r.took (getN r.l).n (getN r.l).e := rfl
  rw [← hR] at hT
  obtain ⟨⟨gv, gn, ge⟩, hg⟩ : ∃ g, getN r.l = g := ⟨_, rfl⟩
  rw [hg] at hG hT hN
  simp only at hN
  obtain ⟨r', hr'⟩ : ∃ r', r.numR = r' := ⟨_, rfl⟩
  rw [hr'] at hT hN ⊢
  obtain ⟨p, c, rfl⟩ := h2.slice
  by_cases he : r'.e = 0
  · rw [if_neg (by simpa using he)] at hN
    have hb : decide (r'.e = 0) = true := by simpa using he
    rw [hN]
    have hb' := Lib.hid hb
    clear h hN hR hr' h1 h2 h3 h4 hg2 hg he hb
    go_enter Tryz.func108, Tryz.ntmps108
    go_wp2_with fail
    with_reducible refine hG.out.mono ?_
    rintro e w1 ⟨rfl, rfl⟩
    go_wp2_with fail
    with_reducible refine hT.out.mono ?_
    rintro e w1 ⟨rfl, hA, hK⟩
    rw [hb'.out]
    go_wp2
    go_ret
    exact ⟨rfl, hA, hK⟩
  · rw [if_pos he] at hN
    have hb : decide (r'.e = 0) = false := by simpa using he
    rw [hN]
    have hb' := Lib.hid hb
    clear h hN hR hr' h1 h2 h3 h4 hg2 hg he hb
    go_enter Tryz.func108, Tryz.ntmps108
    go_wp2_with fail
    with_reducible refine hG.out.mono ?_
    rintro e w1 ⟨rfl, rfl⟩
    go_wp2_with fail
    with_reducible refine hT.out.mono ?_
    rintro e w1 ⟨rfl, hA, hK⟩
    rw [hb'.out]
    go_wp2
    go_ret
    exact ⟨rfl, hA, hK⟩
theorem num_lt (r : Rdr) : r.num < 18446744073709551616 := by
  unfold Rdr.num
  split
  · decide
  · exact (getN_le r.l).1
set_option maxHeartbeats 1000000 in
set_option maxRecDepth 100000 in
theorem small_calls (B R : Nat) (r : Rdr) (w : World) (h : RdAt B w R r) :
    Calls Tryz.prog 103 #[.pointer (some ⟨R, 0, none⟩)] w (NumPost B R w (.int .i64 r.small) r.smallR) := by
  have hN := Lib.hid (number_calls B R r w h)
  have hT0 : ∀ (W : World), RdAt B W R r.numR → Calls Tryz.prog 109 #[.pointer (some ⟨R, 0, none⟩), .int .i64 0, .int .i64 9] W (TookPost B R W (r.numR.took 0 9)) := fun W hW => took_calls B R r.numR 0 9 W hW (Nat.zero_le _)
  have hlt := num_lt r
  have hS : r.small = if 4611686018427387904 ≤ r.num then 0 else (r.num : Int) := rfl
  have hS2 : r.smallR = if 4611686018427387904 ≤ r.num then r.numR.took 0 9 else r.numR := rfl
  obtain ⟨m, hm⟩ : ∃ m, r.num = m := ⟨_, rfl⟩
  obtain ⟨r', hr'⟩ : ∃ r', r.numR = r' := ⟨_, rfl⟩
  rw [hm] at hN hlt hS hS2
  rw [hr'] at hN hT0 hS2
  have hT := Lib.hid hT0
  clear hT0
  by_cases hb : 4611686018427387904 ≤ m
  · rw [if_pos hb] at hS hS2
    have t1 : (0 : Int) < (m : Int) / 4611686018427387904 := by omega
    rw [hS, hS2]
    clear hS hS2 hm hr' h
    go_enter Tryz.func103, Tryz.ntmps103
    go_wp2_with fail
    with_reducible refine hN.out.mono ?_
    rintro e w1 ⟨rfl, hA, hK⟩
    have hT' := Lib.hid (hT.out w1 hA)
    have hK' := Lib.hid hK
    clear hA hK hT
    go_wp2_with fail
    with_reducible refine hT'.out.mono ?_
    rintro e w2 ⟨rfl, hA, hK⟩
    have hA' := Lib.hid hA
    have hK2 := Lib.hid (hK'.out.trans hK)
    clear hA hK
    go_wp2
    go_ret
    exact ⟨rfl, hA'.out, hK2.out⟩
  · rw [if_neg hb] at hS hS2
    have t1 : ¬ (0 : Int) < (m : Int) / 4611686018427387904 := by omega
    have t2 : m < 4611686018427387904 := by omega
    rw [hS, hS2]
    clear hS hS2 hm hr' h hb hlt
    go_enter Tryz.func103, Tryz.ntmps103
    go_wp2_with fail
    with_reducible refine hN.out.mono ?_
    rintro e w1 ⟨rfl, hA, hK⟩
    have hA' := Lib.hid hA
    have hK2 := Lib.hid hK
    clear hA hK
    go_wp2
    go_ret
    exact ⟨rfl, hA'.out, hK2.out⟩
set_option maxHeartbeats 1000000 in
set_option maxRecDepth 100000 in
theorem text_calls (B R : Nat) (r : Rdr) (w : World) (h : RdAt B w R r) :
    Calls Tryz.prog 104 #[.pointer (some ⟨R, 0, none⟩)] w (NumPost B R w (.string r.text) r.textR) := by
  obtain ⟨h0, bv, h1, h2, h3, h4⟩ := id h
  have hc : w.cell? ⟨R, 0, none⟩ = some bv := by rw [h1.cell]; rfl
  have hG := Lib.hid (getText_calls bv r.l w h2 (by omega))
  have hg2 := (getT_le r.l).2.1
  have hT := Lib.hid (took_calls B R r (getT r.l).n (getT r.l).e w h hg2)
  have hN : r.text = if r.textR.e ≠ 0 then ⟨#[]⟩ else (getT r.l).s := rfl
  have hR : r.textR = r.took (getT r.l).n (getT r.l).e := rfl
  rw [← hR] at hT
  obtain ⟨⟨gv, gn, ge⟩, hg⟩ : ∃ g, getT r.l = g := ⟨_, rfl⟩
  rw [hg] at hG hT hN
  simp only at hN
  obtain ⟨r', hr'⟩ : ∃ r', r.textR = r' := ⟨_, rfl⟩
  rw [hr'] at hT hN ⊢
  obtain ⟨p, c, rfl⟩ := h2.slice
  by_cases he : r'.e = 0
  · rw [if_neg (by simpa using he)] at hN
    have hb : decide (r'.e = 0) = true := by simpa using he
    rw [hN]
    have hb' := Lib.hid hb
    clear h hN hR hr' h1 h2 h3 h4 hg2 hg he hb
    go_enter Tryz.func104, Tryz.ntmps104
    go_wp2_with fail
    with_reducible refine hG.out.mono ?_
    rintro e w1 ⟨rfl, rfl⟩
    go_wp2_with fail
    with_reducible refine hT.out.mono ?_
    rintro e w1 ⟨rfl, hA, hK⟩
    rw [hb'.out]
    go_wp2
    go_ret
    exact ⟨rfl, hA, hK⟩
  · rw [if_pos he] at hN
    have hb : decide (r'.e = 0) = false := by simpa using he
    rw [hN]
    have hb' := Lib.hid hb
    clear h hN hR hr' h1 h2 h3 h4 hg2 hg he hb
    go_enter Tryz.func104, Tryz.ntmps104
    go_wp2_with fail
    with_reducible refine hG.out.mono ?_
    rintro e w1 ⟨rfl, rfl⟩
    go_wp2_with fail
    with_reducible refine hT.out.mono ?_
    rintro e w1 ⟨rfl, hA, hK⟩
    rw [hb'.out]
    go_wp2
    go_ret
    exact ⟨rfl, hA, hK⟩
end Go.Proofs.YtabcdodjkfknlaaGreatDoor
namespace Go.Proofs.YtabcdodjkfknlaaGreatDoor
open Go.RowKit
/-- the first that is not nothing -/
def orI (a b : Int) : Int := if a = 0 then b else a
def cmpI (a b : Int) : Int := if a < b then -1 else if b < a then 1 else 0
/-- a way to hold two things against each other -/
structure Cmp3 {α : Type} (c : α → α → Int) : Prop where
  flip : ∀ a b, c b a = - c a b
  trans : ∀ a b d, c a b < 0 → c b d < 0 → c a d < 0
  same : ∀ a b d, c a b = 0 → c a d = c b d
theorem cmpI_3 : Cmp3 cmpI := by
  refine ⟨fun a b => ?_, fun a b d => ?_, fun a b d => ?_⟩
  · unfold cmpI; split <;> split <;> (try split) <;> omega
  · unfold cmpI; split <;> split <;> split <;> (try split) <;> (try split) <;> (try split) <;> omega
  · intro h
    have : a = b := by unfold cmpI at h; split at h <;> (try split at h) <;> omega
    rw [this]
theorem cmpI_eq {a b : Int} (h : cmpI a b = 0) : a = b := by unfold cmpI at h; split at h <;> (try split at h) <;> omega
theorem cmpI_self (a : Int) : cmpI a a = 0 := by unfold cmpI; simp
theorem cmpI_lt {a b : Int} : cmpI a b < 0 ↔ a < b := by
  unfold cmpI
  split
  · simp; assumption
  · split <;> simp <;> omega
theorem cb_3 : Cmp3 Lib.compareBytes := by
  refine ⟨cb_flip, fun a b d h1 h2 => ?_, fun a b d h => ?_⟩
  · have a1 := cb_three a b
    have a2 := cb_three b d
    rw [cb_trans a b d (by omega) (by omega)]
    decide
  · rw [cb_eq a b h]
theorem Cmp3.lex {α : Type} {c d : α → α → Int} (hc : Cmp3 c) (hd : Cmp3 d) : Cmp3 fun a b => orI (c a b) (d a b) := by
  refine ⟨fun a b => ?_, fun a b e h1 h2 => ?_, fun a b e h => ?_⟩
  · show orI (c b a) (d b a) = - orI (c a b) (d a b)
    unfold orI
    have := hc.flip a b
    have := hd.flip a b
    split <;> split <;> omega
  · change orI (c a b) (d a b) < 0 at h1
    change orI (c b e) (d b e) < 0 at h2
    show orI (c a e) (d a e) < 0
    unfold orI at *
    by_cases z1 : c a b = 0
    · rw [if_pos z1] at h1
      rw [hc.same _ _ e z1]
      by_cases z2 : c b e = 0
      · rw [if_pos z2] at h2 ⊢
        exact hd.trans _ _ _ h1 h2
      · rw [if_neg z2] at h2 ⊢
        exact h2
    · rw [if_neg z1] at h1
      by_cases z2 : c b e = 0
      · have z3 : c a e = c a b := by
          have e1 := hc.flip a b
          have e2 := hc.flip a e
          have e3 := hc.flip b e
          have := hc.same b e a z2
          omega
        rw [z3, if_neg z1]
        exact h1
      · rw [if_neg z2] at h2
        have := hc.trans _ _ _ h1 h2
        rw [if_neg (by omega)]
        exact this
  · change orI (c a b) (d a b) = 0 at h
    show orI (c a e) (d a e) = orI (c b e) (d b e)
    unfold orI at *
    by_cases z1 : c a b = 0
    · rw [if_pos z1] at h
      rw [hc.same _ _ e z1, hd.same _ _ e h]
    · rw [if_neg z1] at h
      exact absurd h z1
theorem Cmp3.on {α β : Type} {c : β → β → Int} (hc : Cmp3 c) (f : α → β) : Cmp3 fun a b => c (f a) (f b) :=
  ⟨fun _ _ => hc.flip _ _, fun _ _ _ => hc.trans _ _ _, fun _ _ _ => hc.same _ _ _⟩
section
variable {α : Type} {c : α → α → Int}
theorem Cmp3.self (hc : Cmp3 c) (a : α) : c a a = 0 := by have := hc.flip a a; omega
theorem Cmp3.ntrans (hc : Cmp3 c) {x y z : α} (h1 : ¬ c x y < 0) (h2 : ¬ c y z < 0) : ¬ c x z < 0 := by
  intro h3
  have e1 := hc.flip x y
  by_cases h4 : c x y = 0
  · rw [hc.same _ _ z h4] at h3; exact h2 h3
  · exact h2 (hc.trans y x z (by omega) h3)
/-- one behind the other -/
def Srt (c : α → α → Int) (l : List α) : Prop := l.Pairwise fun a b => c a b < 0
theorem Srt.ext (hc : Cmp3 c) : ∀ {a b : List α}, Srt c a → Srt c b → (∀ t, t ∈ a ↔ t ∈ b) → a = b
  | [], [], _, _, _ => rfl
  | [], u :: b, _, _, h => by have := (h u).2 (by simp); simp at this
  | t :: a, [], _, _, h => by have := (h t).1 (by simp); simp at this
  | t :: a, u :: b, ha, hb, h => by
    have ha1 := List.pairwise_cons.1 ha
    have hb1 := List.pairwise_cons.1 hb
    have e : t = u := by
      rcases List.mem_cons.1 ((h t).1 List.mem_cons_self) with e | e
      · exact e
      · rcases List.mem_cons.1 ((h u).2 List.mem_cons_self) with e' | e'
        · exact e'.symm
        · have h1 := hb1.1 t e
          have h2 := ha1.1 u e'
          rw [hc.flip] at h1
          omega
    subst e
    rw [Srt.ext hc ha1.2 hb1.2 fun x => ?_]
    constructor
    · intro hx
      rcases List.mem_cons.1 ((h x).1 (List.mem_cons_of_mem _ hx)) with e | e
      · have := ha1.1 x hx; rw [e, hc.self] at this; omega
      · exact e
    · intro hx
      rcases List.mem_cons.1 ((h x).2 (List.mem_cons_of_mem _ hx)) with e | e
      · have := hb1.1 x hx; rw [e, hc.self] at this; omega
      · exact e
end
/-- the order of tables -/
def ordT (a b : Tbl) : Int := if cmpI a.level b.level ≠ 0 ∨ a.level = 0 then orI (cmpI a.level b.level) (cmpI a.num b.num) else orI (Lib.compareBytes a.first.data.toList b.first.data.toList) (cmpI a.num b.num)
/-- a table's first key, so far as it counts in the order -/
def Tbl.key (t : Tbl) : List UInt8 := if t.level = 0 then [] else t.first.data.toList
theorem ordT_lex (a b : Tbl) : ordT a b = orI (cmpI a.level b.level) (orI (Lib.compareBytes a.key b.key) (cmpI a.num b.num)) := by
  unfold ordT
  by_cases h : cmpI a.level b.level = 0
  · have e := cmpI_eq h
    by_cases h0 : a.level = 0
    · rw [if_pos (.inr h0)]
      have k1 : a.key = [] := if_pos h0
      have k2 : b.key = [] := if_pos (by rw [← e]; exact h0)
      rw [k1, k2, h, cb_self]
      rfl
    · rw [if_neg (by rintro (h1 | h1); exact h1 h; exact h0 h1)]
      have k1 : a.key = a.first.data.toList := if_neg h0
      have k2 : b.key = b.first.data.toList := if_neg (by rw [← e]; exact h0)
      rw [k1, k2, h]
      rfl
  · rw [if_pos (.inl h)]
    unfold orI
    rw [if_neg h, if_neg h]
theorem ordT_3 : Cmp3 ordT := by
  have := (cmpI_3.on Tbl.level).lex ((cb_3.on Tbl.key).lex (cmpI_3.on Tbl.num))
  have e : ordT = fun a b => orI (cmpI a.level b.level) (orI (Lib.compareBytes a.key b.key) (cmpI a.num b.num)) := by
    funext a b; exact ordT_lex a b
  rw [e]
  exact this
theorem ordT_num {a b : Tbl} (h : ordT a b = 0) : a.num = b.num := by
  rw [ordT_lex] at h
  unfold orI at h
  split at h
  · split at h
    · exact cmpI_eq h
    · exact absurd h ‹_›
  · exact absurd h ‹_›
def leB (a b : ByteArray) : Bool := !(Op.bytesLess b.toList a.toList)
def ltB (a b : ByteArray) : Bool := Op.bytesLess a.toList b.toList
/-- may a table be, where the next file's number is n? -/
def Tbl.ok (n : Int) (t : Tbl) : Bool := decide (1 ≤ t.num) && decide (t.num < n) && decide (0 ≤ t.level) && decide (t.level < 4) && decide (1 ≤ t.size) && !oddI t.size && leB t.first t.last
/-- may two tables stand one behind the other? -/
def pairOk (u t : Tbl) : Bool := decide (ordT u t < 0) && !(decide (u.level = t.level) && decide (0 < t.level) && !ltB u.last t.first)
/-- is the i-th table right? -/
def stepOk (n : Int) (l : List Tbl) (i : Nat) : Bool := match l[i]? with
  | none => true
  | some t => t.ok n && (decide (i = 0) || match l[i - 1]? with | none => true | some u => pairOk u t)
def Ver.headOk (v : Ver) : Bool := decide (1 ≤ v.next) && !oddI v.next && decide (0 ≤ v.log) && decide (v.log ≤ v.next) && decide (v.floor ≤ v.head)
/-- may a version be? -/
def Ver.ok (v : Ver) : Bool := v.headOk && (List.range v.tables.length).all (stepOk v.next v.tables) && decide ((v.tables.map Tbl.num).Nodup)
theorem Ver.ok_iff {v : Ver} : v.ok = true ↔ v.headOk = true ∧ (∀ i, i < v.tables.length → stepOk v.next v.tables i = true) ∧ (v.tables.map Tbl.num).Nodup := by
  unfold Ver.ok
  rw [Bool.and_eq_true, Bool.and_eq_true, List.all_eq_true, decide_eq_true_eq, and_assoc]
  exact ⟨fun ⟨a, b, c⟩ => ⟨a, fun i hi => b i (List.mem_range.2 hi), c⟩, fun ⟨a, b, c⟩ => ⟨a, fun i hi => b i (List.mem_range.1 hi), c⟩⟩
theorem adj_srt {α : Type} {c : α → α → Int} (hc : Cmp3 c) : ∀ {l : List α}, (∀ i a b, l[i]? = some a → l[i + 1]? = some b → c a b < 0) → Srt c l
  | [], _ => List.Pairwise.nil
  | [a], _ => by unfold Srt; simp
  | a :: b :: l, h => by
    have ih : Srt c (b :: l) := adj_srt hc fun i x y hx hy => h (i + 1) x y (by simpa using hx) (by simpa using hy)
    have hab := h 0 a b rfl rfl
    refine List.pairwise_cons.2 ⟨fun x hx => ?_, ih⟩
    rcases List.mem_cons.1 hx with rfl | hx
    · exact hab
    · exact hc.trans _ _ _ hab ((List.pairwise_cons.1 ih).1 x hx)
theorem stepOk_pair {n : Int} {l : List Tbl} {i : Nat} {a b : Tbl} (ha : l[i]? = some a) (hb : l[i + 1]? = some b) (h : stepOk n l (i + 1) = true) : b.ok n = true ∧ pairOk a b = true := by
  unfold stepOk at h
  rw [hb] at h
  simp only [Nat.add_sub_cancel] at h
  rw [ha] at h
  simp only [Bool.and_eq_true, Bool.or_eq_true, decide_eq_true_eq] at h
  refine ⟨h.1, ?_⟩
  rcases h.2 with h2 | h2
  · omega
  · exact h2
theorem Ver.ok_srt {v : Ver} (h : v.ok = true) : Srt ordT v.tables := by
  obtain ⟨_, h2, _⟩ := Ver.ok_iff.1 h
  refine adj_srt ordT_3 fun i a b ha hb => ?_
  have := (stepOk_pair ha hb (h2 (i + 1) (List.getElem?_eq_some_iff.1 hb).1)).2
  unfold pairOk at this
  simp only [Bool.and_eq_true, decide_eq_true_eq] at this
  exact this.1
theorem Ver.ok_tbl {v : Ver} (h : v.ok = true) {t : Tbl} (ht : t ∈ v.tables) : t.ok v.next = true := by
  obtain ⟨_, h2, _⟩ := Ver.ok_iff.1 h
  obtain ⟨i, hi⟩ := List.getElem?_of_mem ht
  have := h2 i (List.getElem?_eq_some_iff.1 hi).1
  unfold stepOk at this
  rw [hi] at this
  simp only [Bool.and_eq_true] at this
  exact this.1
/-- one laid into a row in order -/
def insT : List Tbl → Tbl → List Tbl
  | [], t => [t]
  | u :: l, t => if ordT u t < 0 then u :: insT l t else t :: u :: l
def sortT (l : List Tbl) : List Tbl := l.foldl insT []
theorem insT_mem : ∀ (l : List Tbl) (t x : Tbl), x ∈ insT l t ↔ x ∈ l ∨ x = t
  | [], t, x => by simp [insT]
  | u :: l, t, x => by
    unfold insT
    split
    · rw [List.mem_cons, insT_mem l t x, List.mem_cons]; exact or_assoc.symm
    · rw [List.mem_cons, List.mem_cons]; exact ⟨fun h => h.elim .inr .inl, fun h => h.elim .inr .inl⟩
theorem insT_srt : ∀ (l : List Tbl) (t : Tbl), (∀ u ∈ l, u.num ≠ t.num) → Srt ordT l → Srt ordT (insT l t)
  | [], t, _, _ => by show List.Pairwise _ [t]; simp
  | u :: l, t, hn, h => by
    have h1 := List.pairwise_cons.1 h
    unfold insT
    split
    · rename_i hl
      refine List.pairwise_cons.2 ⟨fun x hx => ?_, insT_srt l t (fun u hu => hn u (by simp [hu])) h1.2⟩
      rcases (insT_mem l t x).1 hx with e | e
      · exact h1.1 x e
      · rw [e]; exact hl
    · rename_i hl
      have hne : ordT u t ≠ 0 := fun e => hn u (by simp) (ordT_num e)
      have hg : ordT t u < 0 := by have := ordT_3.flip u t; omega
      refine List.pairwise_cons.2 ⟨fun x hx => ?_, h⟩
      rcases List.mem_cons.1 hx with e | e
      · rw [e]; exact hg
      · exact ordT_3.trans _ _ _ hg (h1.1 x e)
theorem foldl_insT : ∀ (l s : List Tbl), ((s ++ l).map Tbl.num).Nodup → Srt ordT s → Srt ordT (l.foldl insT s) ∧ ∀ x, x ∈ l.foldl insT s ↔ x ∈ s ∨ x ∈ l
  | [], s, _, h => ⟨h, fun x => by simp⟩
  | t :: l, s, hn, h => by
    have hn1 : ∀ u ∈ s, u.num ≠ t.num := by
      intro u hu e
      rw [List.map_append, List.nodup_append] at hn
      exact hn.2.2 u.num (List.mem_map_of_mem hu) t.num (by simp) e
    have hp : ((insT s t ++ l).map Tbl.num).Nodup := by
      have : ((insT s t ++ l).map Tbl.num).Perm ((s ++ t :: l).map Tbl.num) := by
        refine List.Perm.map _ ?_
        have : ∀ (s : List Tbl), (insT s t).Perm (t :: s) := by
          intro s
          induction s with
          | nil => exact List.Perm.refl _
          | cons u s ih =>
            unfold insT
            split
            · exact (List.Perm.cons u ih).trans (List.Perm.swap _ _ _)
            · exact List.Perm.refl _
        exact ((this s).append_right l).trans (List.perm_middle (a := t) (l₁ := s) (l₂ := l)).symm
      exact this.nodup_iff.2 hn
    obtain ⟨h1, h2⟩ := foldl_insT l (insT s t) hp (insT_srt s t hn1 h)
    refine ⟨h1, fun x => ?_⟩
    rw [List.foldl_cons, h2 x, insT_mem, List.mem_cons, or_assoc]
theorem sortT_srt {l : List Tbl} (h : (l.map Tbl.num).Nodup) : Srt ordT (sortT l) ∧ ∀ x, x ∈ sortT l ↔ x ∈ l := by
  have := foldl_insT l [] h List.Pairwise.nil
  exact ⟨this.1, fun x => by rw [show sortT l = l.foldl insT [] from rfl, this.2 x]; simp⟩
theorem nodup_of_nums {l : List Tbl} (h : (l.map Tbl.num).Nodup) : l.Nodup := by
  unfold List.Nodup at *
  rw [List.pairwise_map] at h
  exact h.imp fun h e => h (by rw [e])
/-- what any sort leaves of tables of different numbers -/
theorem sortT_of_perm {s l : List Tbl} (hp : s.Perm l) (hn : (l.map Tbl.num).Nodup) (hs : s.Pairwise fun a b => ¬ ordT b a < 0) : s = sortT l := by
  obtain ⟨h1, h2⟩ := sortT_srt hn
  refine Srt.ext ordT_3 ?_ h1 fun t => by rw [h2, hp.mem_iff]
  have hn' : (s.map Tbl.num).Nodup := (hp.map Tbl.num).nodup_iff.2 hn
  unfold List.Nodup at hn'
  rw [List.pairwise_map] at hn'
  refine List.Pairwise.imp₂ (fun a b h1 h2 => ?_) hs hn'
  have := ordT_3.flip a b
  have : ordT a b ≠ 0 := fun e => h2 (ordT_num e)
  omega
theorem sortT_self {l : List Tbl} (h : Srt ordT l) (hn : (l.map Tbl.num).Nodup) : sortT l = l :=
  (sortT_of_perm (List.Perm.refl l) hn (h.imp fun {a b} h => by have := ordT_3.flip a b; omega)).symm
def dropT : List Tbl → List Int → Option (List Tbl)
  | l, [] => some l
  | l, n :: ns => if l.any (fun t => decide (t.num = n)) then dropT (l.filter fun t => !decide (t.num = n)) ns else none
def addT : List Tbl → List Tbl → Option (List Tbl)
  | l, [] => some l
  | l, t :: ts => if l.any (fun u => decide (u.num = t.num)) then none else addT (l ++ [t]) ts
def Ver.with_ (v : Ver) (e : Edt) (l : List Tbl) : Ver := ⟨sortT l, max v.floor e.floor, max v.head e.head, max v.log e.log, max v.next e.next⟩
/-- what an edit makes of a version -/
def applyV (v : Ver) (e : Edt) : Ver × Int :=
  if v.ok = false then (Ver.zero, 9) else if e.right = false then (Ver.zero, 1) else
    match dropT v.tables e.drop with
    | none => (Ver.zero, 4)
    | some l => match addT l e.add with
      | none => (Ver.zero, 3)
      | some l' => if (v.with_ e l').ok = false then (Ver.zero, 11) else (v.with_ e l', 0)
theorem dropT_nodup : ∀ {ns : List Int} {l l' : List Tbl}, dropT l ns = some l' → (l.map Tbl.num).Nodup → (l'.map Tbl.num).Nodup ∧ l'.length ≤ l.length
  | [], l, l', h, hn => by obtain rfl := Option.some.inj h; exact ⟨hn, Nat.le_refl _⟩
  | n :: ns, l, l', h, hn => by
    unfold dropT at h
    split at h
    · obtain ⟨h1, h2⟩ := dropT_nodup h (((List.filter_sublist (p := fun t => !decide (t.num = n)) (l := l)).map Tbl.num).nodup hn)
      exact ⟨h1, Nat.le_trans h2 (List.length_filter_le _ _)⟩
    · cases h
theorem addT_nodup : ∀ {ts l l' : List Tbl}, addT l ts = some l' → (l.map Tbl.num).Nodup → (l'.map Tbl.num).Nodup ∧ l' = l ++ ts
  | [], l, l', h, hn => by obtain rfl := Option.some.inj h; exact ⟨hn, by simp⟩
  | t :: ts, l, l', h, hn => by
    unfold addT at h
    split at h
    · cases h
    · rename_i ha
      obtain ⟨h1, h2⟩ := addT_nodup h (by
        rw [List.map_append, List.nodup_append]
        refine ⟨hn, by simp, fun a ha2 b hb => ?_⟩
        simp at hb
        subst hb
        obtain ⟨u, hu, rfl⟩ := List.mem_map.1 ha2
        intro e
        exact ha (List.any_eq_true.2 ⟨u, hu, by simpa using e⟩))
      exact ⟨h1, by rw [h2]; simp⟩
theorem addT_all : ∀ (ts l : List Tbl), ((l ++ ts).map Tbl.num).Nodup → addT l ts = some (l ++ ts)
  | [], l, _ => by unfold addT; simp
  | t :: ts, l, h => by
    unfold addT
    rw [if_neg, addT_all ts (l ++ [t]) (by simpa using h)]
    · simp
    · rw [List.any_eq_true]
      rintro ⟨u, hu, e⟩
      rw [List.map_append, List.nodup_append] at h
      exact h.2.2 u.num (List.mem_map_of_mem hu) t.num (by simp) (by simpa using e)
def Ver.first : Ver := ⟨[], 0, 0, 0, 1⟩
theorem Ver.whole_right {v : Ver} (h : v.ok = true) : v.whole.right = true := by
  obtain ⟨h1, _, _⟩ := Ver.ok_iff.1 h
  unfold Ver.headOk at h1
  simp only [Bool.and_eq_true, Bool.not_eq_true', decide_eq_true_eq] at h1
  obtain ⟨⟨⟨⟨a1, a2⟩, a3⟩, a4⟩, a5⟩ := h1
  have a6 := oddI_no.1 a2
  have b1 : oddI v.log = false := oddI_no.2 (by omega)
  unfold Edt.right Ver.whole
  simp only [b1, a2, Bool.not_false, Bool.true_and, List.all_nil, List.all_eq_true]
  intro t ht
  have := Ver.ok_tbl h ht
  unfold Tbl.ok at this
  simp only [Bool.and_eq_true, Bool.not_eq_true', decide_eq_true_eq] at this
  obtain ⟨⟨⟨⟨⟨⟨c1, c2⟩, c3⟩, c4⟩, c5⟩, c6⟩, c7⟩ := this
  unfold Tbl.right
  rw [oddI_no.2 (by omega : 0 ≤ t.num ∧ _), oddI_no.2 (by omega : 0 ≤ t.level ∧ _), c6]
  rfl
/-- a version's edit makes it of nothing -/
theorem apply_whole {v : Ver} (h : v.ok = true) : applyV Ver.first v.whole = (v, 0) := by
  obtain ⟨h1, h2, h3⟩ := Ver.ok_iff.1 h
  have h1' := h1
  unfold Ver.headOk at h1
  simp only [Bool.and_eq_true, Bool.not_eq_true', decide_eq_true_eq] at h1
  obtain ⟨⟨⟨⟨a1, a2⟩, a3⟩, a4⟩, a5⟩ := h1
  have e : Ver.first.with_ v.whole v.tables = v := by
    unfold Ver.with_ Ver.first Ver.whole
    rw [sortT_self (Ver.ok_srt h) h3]
    obtain ⟨_, _, _, _, _⟩ := v
    simp only [Ver.mk.injEq, true_and] at *
    refine ⟨by omega, by omega, by omega, by omega⟩
  unfold applyV
  rw [if_neg (by decide), if_neg (by rw [Ver.whole_right h]; simp)]
  show (match some ([] : List Tbl) with | none => (Ver.zero, (4 : Int)) | some l => match addT l v.whole.add with | none => (Ver.zero, 3) | some l' => if (Ver.first.with_ v.whole l').ok = false then (Ver.zero, 11) else (Ver.first.with_ v.whole l', 0)) = _
  show (match addT [] v.tables with | none => (Ver.zero, (3 : Int)) | some l' => if (Ver.first.with_ v.whole l').ok = false then (Ver.zero, 11) else (Ver.first.with_ v.whole l', 0)) = _
  rw [addT_all v.tables [] (by simpa using h3)]
  show (if (Ver.first.with_ v.whole ([] ++ v.tables)).ok = false then (Ver.zero, (11 : Int)) else (Ver.first.with_ v.whole ([] ++ v.tables), 0)) = _
  rw [List.nil_append, e, if_neg (by rw [h]; simp)]
end Go.Proofs.YtabcdodjkfknlaaGreatDoor
