/- Walk: the document's Decode. What a manifest tells, by all its frames. No program in sight. What the document makes of a version and an edit, step by step: the same as the program. No program in sight. Walks: the document's order of tables. -/
import Derived.Test.YtabcdodjkfknlaaGreatDoorPL22
import Derived.Test.YtabcdodjkfknlaaGreatDoorPL14
import Derived.Deep.DeepCutAuto
import Derived.Test.YtabcdodjkfknlaaGreatDoorPL21
import Derived.Test.YtabcdodjkfknlaaGreatDoorPL15
import Derived.Test.YtabcdodjkfknlaaGreatDoorPL09
import Derived.WalkLawsBesides
namespace Go.Proofs.YtabcdodjkfknlaaGreatDoor
open Go.RowKit
attribute [local go_sem ↓] dapp_op dslK_op
attribute [local go_sem] Oper.semAt_some
section
variable {B : Nat} {w0 w w' : World} {R E Z T : Nat} {av dv : Value} {e : Edt} {r r' : Rdr} {cs : Array Value}
theorem DfAt.set_ (h : DfAt B w0 w R E Z av dv e) (hR : RfAt B w R r) (i : Nat) (u : Value) (e' : Edt) (ha : e'.add = e.add) (hd : e'.drop = e.drop)
    (hc : (#[av, dv, .int .u64 e.floor, .int .u64 e.head, .int .i64 e.log, .int .i64 e.next] : Array Value).setIfInBounds i u = #[av, dv, .int .u64 e'.floor, .int .u64 e'.head, .int .i64 e'.log, .int .i64 e'.next]) :
    DfAt B w0 (w.setCell ⟨E, i, none⟩ u) R E Z av dv e' ∧ RfAt B (w.setCell ⟨E, i, none⟩ u) R r := by
  have ks : Keeps (fun j => j = E) w (w.setCell ⟨E, i, none⟩ u) := (Keeps.refl (fun j => j = E) w).setCell (p := ⟨E, i, none⟩) (.inl rfl) _
  have hb := h.blk.set_ i u
  rw [hc] at hb
  refine ⟨⟨h.low, h.nz, h.ne, Keeps.below_step h.below h.size ks fun j e => by rw [e]; exact h.low.2.1, hb, ?_, ?_, h.z.keeps ks h.nz.1⟩, hR.keeps ks fun j e => ⟨by rw [e]; exact h.low.2.1, by rw [e]; exact h.ne⟩⟩
  · rw [ha]; exact h.add.keeps ks fun g hg e => h.add.blk_ne h.blk (by decide) (by rw [hg, e])
  · rw [hd]; exact h.drop.keeps ks fun g hg e => h.drop.blk_ne h.blk (by decide) (by rw [hg, e])
theorem DfAt.seesE (h : DfAt B w0 w R E Z av dv e) : (∀ i, w.cell? ⟨E, i, none⟩ = (#[av, dv, .int .u64 e.floor, .int .u64 e.head, .int .i64 e.log, .int .i64 e.next] : Array Value)[i]?) ∧ (∀ i, w.frozen? ⟨E, i, none⟩ = false) := ⟨h.blk.cell, h.blk.frozen⟩
theorem RfAt.seesR (h : RfAt B w R r) : ∃ p c, (w.cell? ⟨R, 0, none⟩ = some (.slice p r.l.length c) ∧ w.cell? ⟨R, 1, none⟩ = some (.int .i64 r.e)) ∧ w.frozen? ⟨R, 1, none⟩ = false := by
  obtain ⟨_, bv, h1, h2, _⟩ := h
  obtain ⟨p, c, rfl⟩ := h2.slice
  exact ⟨p, c, ⟨by rw [h1.cell]; rfl, by rw [h1.cell]; rfl⟩, h1.frozen 1⟩
/-- a table of the round beside what stands -/
structure TbAt (B : Nat) (w0 w : World) (R E Z T : Nat) (av dv : Value) (e : Edt) (r : Rdr) (cs : Array Value) : Prop where
  d : DfAt B w0 w R E Z av dv e
  r : RfAt B w R r
  t : Blk w T 76 cs
  ne : B ≤ T ∧ T ≠ E ∧ av.ownBlock ≠ some T ∧ dv.ownBlock ≠ some T ∧ T ≠ Z ∧ T ≠ R
theorem TbAt.start (h : DfAt B w0 w R E Z av dv e) (hR : RfAt B w R r) (cs : Array Value) : TbAt B w0 (w.alloc (.cells cs 76)) R E Z w.heap.size av dv e r cs := by
  have hA := (Below.refl w.heap.size w).alloc (Nat.le_refl _) (.cells cs 76)
  have e1 := h.blk.lt
  have e2 := hR.lt.2
  have e3 := h.z.lt
  exact ⟨h.later hA, hR.later hA, Blk.new w _ _, h.size, by omega, fun e => by have := (h.add.lt _ e).2; omega, fun e => by have := (h.drop.lt _ e).2; omega, by omega, by omega⟩
theorem TbAt.call (h : TbAt B w0 w R E Z T av dv e r cs) (hR : RfAt B w' R r') (hK : RdKeeps R w w') : TbAt B w0 w' R E Z T av dv e r' cs :=
  ⟨h.d.rd hK h.r.blk, hR, h.t.keeps hK h.ne.2.2.2.2.2, h.ne⟩
theorem TbAt.store (h : TbAt B w0 w R E Z T av dv e r cs) (i : Nat) (u : Value) : TbAt B w0 (w.setCell ⟨T, i, none⟩ u) R E Z T av dv e r (cs.setIfInBounds i u) := by
  have ks : Keeps (fun j => j = T) w (w.setCell ⟨T, i, none⟩ u) := (Keeps.refl (fun j => j = T) w).setCell (p := ⟨T, i, none⟩) (.inl rfl) _
  refine ⟨h.d.keeps ks fun j e => ?_, h.r.keeps ks fun j e => ?_, h.t.set_ i u, h.ne⟩
  · subst e; exact ⟨h.ne.1, h.ne.2.1, h.ne.2.2.1, h.ne.2.2.2.1, h.ne.2.2.2.2.1⟩
  · subst e; exact ⟨h.ne.1, h.ne.2.2.2.2.2⟩
end
/-- the variables as Decode lays them -/
theorem df_start {w : World} {v : Value} {l : List UInt8} (hv : Bytes w v l) (hl : l.length ≤ 900000) (W : World)
    (hW : W = ((w.alloc (.cells #[.slice none 0 0, .slice none 0 0, .int .u64 0, .int .u64 0, .int .i64 0, .int .i64 0] 33)).alloc (.cells #[v, .int .i64 0] 163)).alloc (.cells #[.slice none 0 0, .slice none 0 0, .int .u64 0, .int .u64 0, .int .i64 0, .int .i64 0] 33)) :
    RfAt w.heap.size W (w.heap.size + 1) ⟨l, 0⟩ ∧ DfAt w.heap.size w W (w.heap.size + 1) (w.heap.size + 1 + 1) w.heap.size (.slice none 0 0) (.slice none 0 0) Edt.zero := by
  have hb : Below w.heap.size w W := by
    rw [hW]
    exact (((Below.refl _ w).alloc (Nat.le_refl _) _).alloc (by simp) _).alloc (by simp; omega) _
  refine ⟨⟨Nat.le_succ _, v, ?_, hv.later hb, ?_, ?_⟩, ⟨⟨?_, ?_, Nat.le_refl _⟩, ⟨?_, ?_⟩, ?_, hb, ?_, World.ownsRow_nil _ _ _ _, World.ownsRow_nil _ _ _ _, ?_⟩⟩
  · rw [hW]; exact (Blk.at_ (by simp)).alloc _
  · intro g hg hne
    rcases hv with (⟨e, _⟩ | ⟨g', o, c3, e, _, hc⟩) | ⟨a', c3, e, e'⟩
    · rw [e] at hg; cases hg
    · rw [e] at hg
      obtain rfl := Option.some.inj hg
      cases hx : l with
      | nil => exact absurd hx hne
      | cons x l' => exact cell_lt (hc 0 x (by rw [hx]; rfl))
    · exact absurd e' hne
  · show l.length ≤ _; omega
  · omega
  · omega
  · omega
  · omega
  · omega
  · rw [hW]; exact Blk.at_ (by simp)
  · rw [hW]; exact ((Blk.at_ rfl).alloc _).alloc _
/-- what Decode ends with, all being well -/
theorem df_good {w V W : World} {R E : Nat} {av dv : Value} {e : Edt} {l : List UInt8} (h : DfAt w.heap.size w V R E w.heap.size av dv e) (hk : Keeps (fun j => j = w.heap.size) V W) (hP : decodeE l = (e, 0)) :
    DecPost w (decodeE l) (.returned (.tuple #[.agg #[av, dv, .int .u64 e.floor, .int .u64 e.head, .int .i64 e.log, .int .i64 e.next], .int .i64 0])) W := by
  rw [hP]
  exact ⟨_, rfl, ⟨av, dv, rfl, h.add.keeps hk fun g hg e => h.add.blk_ne h.z (by decide) (by rw [hg, e]), h.drop.keeps hk fun g hg e => h.drop.blk_ne h.z (by decide) (by rw [hg, e])⟩, Keeps.below_step h.below h.size hk fun j e => Nat.le_of_eq e.symm⟩
def FinPost (w : World) (l : List UInt8) (e : Ending) (w' : World) : Prop := DecPost w (decodeE l) e w'
set_option maxHeartbeats 8000000 in
set_option maxRecDepth 100000 in
theorem decode16_calls (v : Value) (l : List UInt8) (w : World) (hv : Bytes w v l) (hl : l.length ≤ 900000) :
    Calls Tryz.prog 75 #[v] w (DecPost w (decodeE l)) := by
  obtain ⟨p, c, rfl⟩ := hv.slice
  obtain ⟨r1, e1⟩ : ∃ r1, (Rdr.mk l 0).timesR Rdr.tblR = r1 := ⟨_, rfl⟩
  obtain ⟨A, e2⟩ : ∃ A, (Rdr.mk l 0).times Rdr.tblR Rdr.tbl = A := ⟨_, rfl⟩
  obtain ⟨r2, e3⟩ : ∃ r2, r1.timesR Rdr.smallR = r2 := ⟨_, rfl⟩
  obtain ⟨D, e4⟩ : ∃ D, r1.times Rdr.smallR Rdr.small = D := ⟨_, rfl⟩
  have hDec := decodeE_eq l e1 e2 e3 e4
  have H0 := Lib.hid (df_start hv hl _ rfl)
  have hbd0 : Hid (Bd (Rdr.mk l 0).numR 0) := Lib.hid (Bd.num (.inl (by simpa using hl)))
  have e1' : Hid (Rdr.manyR Rdr.tblR (Rdr.mk l 0).num (Rdr.mk l 0).numR = r1) := Lib.hid e1
  have e2' : Hid (Rdr.many Rdr.tblR Rdr.tbl (Rdr.mk l 0).num (Rdr.mk l 0).numR = A) := Lib.hid e2
  have e3' : Hid (Rdr.manyR Rdr.smallR r1.num r1.numR = r2) := Lib.hid e3
  have e4' : Hid (Rdr.many Rdr.smallR Rdr.small r1.num r1.numR = D) := Lib.hid e4
  have hm0 := num_lt (Rdr.mk l 0)
  have hm1 := num_lt r1
  obtain ⟨r3, e5⟩ : ∃ r, r2.numR = r := ⟨_, rfl⟩
  obtain ⟨r4, e6⟩ : ∃ r, r3.numR = r := ⟨_, rfl⟩
  obtain ⟨r5, e7⟩ : ∃ r, r4.smallR = r := ⟨_, rfl⟩
  obtain ⟨r6, e8⟩ : ∃ r, r5.smallR = r := ⟨_, rfl⟩
  rw [e5, e6, e7, e8] at hDec
  have C0 := Lib.hid (rnumber_calls w.heap.size (w.heap.size + 1) ⟨l, 0⟩ _ H0.out.1)
  have C1 := Lib.hid (fun (W : World) (h : RfAt w.heap.size W (w.heap.size + 1) r1) => rnumber_calls _ _ _ _ h)
  have C3 := Lib.hid (fun (W : World) (h : RfAt w.heap.size W (w.heap.size + 1) r2) => (by have := rnumber_calls _ _ _ _ h; rw [e5] at this; exact this : Calls Tryz.prog 121 #[.pointer (some ⟨w.heap.size + 1, 0, none⟩)] W (RfPost w.heap.size (w.heap.size + 1) W (.int .u64 r2.num) r3)))
  have C4 := Lib.hid (fun (W : World) (h : RfAt w.heap.size W (w.heap.size + 1) r3) => (by have := rnumber_calls _ _ _ _ h; rw [e6] at this; exact this : Calls Tryz.prog 121 #[.pointer (some ⟨w.heap.size + 1, 0, none⟩)] W (RfPost w.heap.size (w.heap.size + 1) W (.int .u64 r3.num) r4)))
  have C5 := Lib.hid (fun (W : World) (h : RfAt w.heap.size W (w.heap.size + 1) r4) => (by have := rsmall_calls _ _ _ _ h; rw [e7] at this; exact this : Calls Tryz.prog 122 #[.pointer (some ⟨w.heap.size + 1, 0, none⟩)] W (RfPost w.heap.size (w.heap.size + 1) W (.int .i64 r4.small) r5)))
  have C6 := Lib.hid (fun (W : World) (h : RfAt w.heap.size W (w.heap.size + 1) r5) => (by have := rsmall_calls _ _ _ _ h; rw [e8] at this; exact this : Calls Tryz.prog 122 #[.pointer (some ⟨w.heap.size + 1, 0, none⟩)] W (RfPost w.heap.size (w.heap.size + 1) W (.int .i64 r5.small) r6)))
  generalize r2.num = fl at *
  generalize r3.num = hd at *
  generalize r4.small = lg at *
  generalize r5.small = nx at *
  generalize (Rdr.mk l 0).num = m0 at *
  generalize (Rdr.mk l 0).numR = r0' at *
  generalize r1.num = m1 at *
  generalize hr1' : r1.numR = r1' at *
  have hr1'' := Lib.hid hr1'
  have hDec' := Lib.hid hDec
  clear e1 e2 e3 e4 e5 e6 e7 e8 hDec hv hl hr1'
  go_enter Tryz.func75, Tryz.ntmps75
  go_wp2_with fail
  with_reducible refine C0.out.mono ?_
  rintro x w1 ⟨rfl, hR1, hK1⟩
  have hD1 := H0.out.2.rd hK1 H0.out.1.blk
  clear C0 hK1 H0
  have hR1' := Lib.hid hR1
  have hD1' := Lib.hid hD1
  have hm := Lib.hid hD1.size
  clear hR1 hD1
  obtain ⟨R, eR⟩ : ∃ R, w.heap.size + 1 = R := ⟨_, rfl⟩
  obtain ⟨E, eE⟩ : ∃ E, R + 1 = E := ⟨_, rfl⟩
  rw [eR] at C1 C3 C4 C5 C6 hR1' hD1' ⊢
  rw [eE] at hD1' ⊢
  clear eR eE
  go_wp2
  go_loopw [6, 7] (fun n _ wr => ∃ (k : Nat) (r' : Rdr) (xs : List Tbl) (av : Value), n = .int .u64 k ∧ k < 18446744073709551616 ∧ RfAt w.heap.size wr R r' ∧ DfAt w.heap.size w wr R E w.heap.size av (.slice none 0 0) { Edt.zero with add := xs } ∧ Bd r' xs.length ∧ Rdr.manyR Rdr.tblR k r' = r1 ∧ xs ++ Rdr.many Rdr.tblR Rdr.tbl k r' = A) (fun n _ _ => (intOf n).toNat)
  case atStart => exact ⟨m0, r0', [], .slice none 0 0, rfl, hm0, hR1'.out, hD1'.out, hbd0.out, e1'.out, by rw [List.nil_append]; exact e2'.out⟩
  case round =>
    clear hR1' hD1' hm0 hbd0 e1' e2'
    obtain ⟨k, r', xs, av, rfl, hk, hRr, hDr, hbd, h1, h2⟩ := hrel
    obtain ⟨bv, hb, _⟩ := hRr.2
    have hc : wr.cell? ⟨R, 1, none⟩ = some (.int .i64 r'.e) := by rw [hb.cell]; rfl
    have hRr' := Lib.hid hRr
    have hDr' := Lib.hid hDr
    have hbd' := Lib.hid hbd
    clear hRr hDr hbd hb
    go_upto_region 4 with fail
    go_cut [23] from 15 to 23 (fun s wx => s = .bool (decide (k ≠ 0 ∧ r'.e = 0)) ∧ wx = wr)
    case first =>
      rcases Nat.eq_zero_or_pos k with h0 | h0
      · subst h0
        go_wp2_with fail
        go_meet
        exact ⟨by simp, rfl⟩
      · have t1 : (0 : Int) < (k : Int) := by omega
        by_cases he : r'.e = 0
        · have hd : Hid (decide (k ≠ 0 ∧ r'.e = 0) = true) := Lib.hid (by simp [he]; omega)
          rw [he] at hc
          clear he
          go_wp2_with fail
          go_meet
          exact ⟨by rw [hd.out], rfl⟩
        · have hd : Hid (decide (k ≠ 0 ∧ r'.e = 0) = false) := Lib.hid (by simp [he])
          have t2 : (r'.e == 0) = false := by simpa using he
          obtain ⟨q, hq⟩ : ∃ q, r'.e = q := ⟨_, rfl⟩
          rw [hq] at t2 hc
          clear he hq
          go_wp2_with fail
          go_meet
          exact ⟨by rw [hd.out], rfl⟩
    case rest =>
      obtain ⟨rfl, rfl⟩ := hcut
      by_cases hst : k ≠ 0 ∧ r'.e = 0
      · rw [decide_eq_true hst]
        obtain ⟨hk0, he⟩ := hst
        obtain ⟨k, rfl⟩ : ∃ k', k = k' + 1 := ⟨k - 1, by omega⟩
        obtain ⟨x1, x2⟩ := many_next (f := Rdr.tblR) (G := Rdr.tbl) (k := k) he
        rw [x1] at h1
        rw [x2] at h2
        have h1' := Lib.hid h1
        have h2' := Lib.hid h2
        have hlen : xs.length ≤ 1000000 := by have := hbd'.out.le; omega
        have hbn := Lib.hid (hbd'.out.step he (tblR_le r') tblR_lt)
        have T0 := Lib.hid (TbAt.start hDr'.out hRr'.out #[.int .i64 0, .int .i64 0, .int .i64 0, .string ⟨#[]⟩, .string ⟨#[]⟩])
        have A0 := Lib.hid (rsmall_calls _ _ _ _ T0.out.r)
        clear h1 h2 x1 x2 hk0 he hc hRr' hDr' hbd'
        go_wp2_with fail
        with_reducible refine A0.out.mono ?_
        rintro x wx0 ⟨rfl, hRa, hKa⟩
        have U := T0.out.call hRa hKa
        obtain ⟨T, hT⟩ : ∃ T, wc.heap.size = T := ⟨_, rfl⟩
        rw [hT] at U ⊢
        clear hT
        have qt := U.t.cell
        have qtf := U.t.frozen
        have U := U.store 0 (.int .i64 (Rdr.small (r')))
        simp only [List.setIfInBounds_toArray, List.set_cons_zero] at U
        have T1 := Lib.hid U
        have A1 := Lib.hid (rsmall_calls _ _ _ _ U.r)
        clear U hRa hKa A0 T0
        go_wp2_with fail
        with_reducible refine A1.out.mono ?_
        rintro x wx1 ⟨rfl, hRa, hKa⟩
        have U := T1.out.call hRa hKa
        clear qt qtf
        have qt := U.t.cell
        have qtf := U.t.frozen
        have U := U.store 1 (.int .i64 (Rdr.small (r'.smallR)))
        simp only [List.setIfInBounds_toArray, List.set_cons_zero, List.set_cons_succ] at U
        have T2 := Lib.hid U
        have A2 := Lib.hid (rsmall_calls _ _ _ _ U.r)
        clear U hRa hKa A1 T1
        go_wp2_with fail
        with_reducible refine A2.out.mono ?_
        rintro x wx2 ⟨rfl, hRa, hKa⟩
        have U := T2.out.call hRa hKa
        clear qt qtf
        have qt := U.t.cell
        have qtf := U.t.frozen
        have U := U.store 2 (.int .i64 (Rdr.small (r'.smallR.smallR)))
        simp only [List.setIfInBounds_toArray, List.set_cons_zero, List.set_cons_succ] at U
        have T3 := Lib.hid U
        have A3 := Lib.hid (rtext_calls _ _ _ _ U.r)
        clear U hRa hKa A2 T2
        go_wp2_with fail
        with_reducible refine A3.out.mono ?_
        rintro x wx3 ⟨rfl, hRa, hKa⟩
        have U := T3.out.call hRa hKa
        clear qt qtf
        have qt := U.t.cell
        have qtf := U.t.frozen
        have U := U.store 3 (.string (Rdr.text (r'.smallR.smallR.smallR)))
        simp only [List.setIfInBounds_toArray, List.set_cons_zero, List.set_cons_succ] at U
        have T4 := Lib.hid U
        have A4 := Lib.hid (rtext_calls _ _ _ _ U.r)
        clear U hRa hKa A3 T3
        go_wp2_with fail
        with_reducible refine A4.out.mono ?_
        rintro x wx4 ⟨rfl, hRa, hKa⟩
        have U := T4.out.call hRa hKa
        clear qt qtf
        have qt := U.t.cell
        have qtf := U.t.frozen
        have U := U.store 4 (.string (Rdr.text (r'.smallR.smallR.smallR.textR)))
        simp only [List.setIfInBounds_toArray, List.set_cons_zero, List.set_cons_succ] at U
        obtain ⟨qE, qEf⟩ := U.d.seesE
        have qT := U.t.cell
        obtain ⟨p6, c6, w6, e6, f6, s6, d6, q6⟩ := U.d.put U.r r'.tbl hlen
        dsimp only [Rdr.tbl] at e6
        rw [show (wx4.setCell ⟨T, 4, none⟩ (.string (Rdr.text (r'.smallR.smallR.smallR.textR)))).heap.size = wx4.heap.size by simp] at e6
        have d6' := Lib.hid d6
        have q6' := Lib.hid q6
        clear U hRa hKa A4 T4 d6 q6
        go_wp2_with fail
        go_roundw
        case rel => exact ⟨k, r'.tblR, xs ++ [r'.tbl], .slice p6 (xs.length + 1) c6, by go_num, by omega, q6'.out, d6'.out, by rw [List.length_append]; exact hbn.out, h1'.out, by rw [List.append_assoc]; exact h2'.out⟩
        case measure => simp [intOf]
      · rw [decide_eq_false hst]
        obtain ⟨x1, x2⟩ := many_stop (f := Rdr.tblR) (G := Rdr.tbl) (r := r') (k := k) (by by_cases h0 : k = 0; exact .inl h0; exact .inr fun e => hst ⟨h0, e⟩)
        rw [x1] at h1
        rw [x2, List.append_nil] at h2
        rw [h1] at hRr' hbd'
        rw [h2] at hDr' hbd'
        have hbd2 : Hid (Bd r1' 0) := Lib.hid (by
          rw [← hr1''.out]
          exact Bd.num (by rcases hbd'.out with h | ⟨h0, h⟩; exact .inl (by omega); exact .inr ⟨h0, by omega⟩))
        have C := Lib.hid (C1.out wc hRr'.out)
        clear x1 x2 hst h1 h2 hbd' hc C1 hk
        go_wp2_with fail
        with_reducible refine C.out.mono ?_
        rintro x w2 ⟨rfl, hR2, hK2⟩
        have hD2 := Lib.hid (hDr'.out.rd hK2 hRr'.out.blk)
        have hR2' := Lib.hid hR2
        clear hR2 hK2 C hDr' hRr'
        go_wp2
        go_loopw [8, 9] (fun n _ wr => ∃ (k : Nat) (r' : Rdr) (xs : List Int) (dv : Value), n = .int .u64 k ∧ k < 18446744073709551616 ∧ RfAt w.heap.size wr R r' ∧ DfAt w.heap.size w wr R E w.heap.size av dv { Edt.zero with add := A, drop := xs } ∧ Bd r' xs.length ∧ Rdr.manyR Rdr.smallR k r' = r2 ∧ xs ++ Rdr.many Rdr.smallR Rdr.small k r' = D) (fun n _ _ => (intOf n).toNat)
        case atStart => exact ⟨m1, r1', [], .slice none 0 0, rfl, hm1, hR2'.out, hD2.out, hbd2.out, e3'.out, by rw [List.nil_append]; exact e4'.out⟩
        case round =>
          clear hR2' hD2 hm1 hbd2 e3' e4'
          obtain ⟨k, r', xs, dv, rfl, hk, hRr, hDr, hbd, h1, h2⟩ := hrel
          obtain ⟨bv, hb, _⟩ := hRr.2
          have hc : wr.cell? ⟨R, 1, none⟩ = some (.int .i64 r'.e) := by rw [hb.cell]; rfl
          have hRr' := Lib.hid hRr
          have hDr' := Lib.hid hDr
          have hbd' := Lib.hid hbd
          clear hRr hDr hbd hb
          go_upto_region 14 with fail
          go_cut [57] from 49 to 57 (fun s wx => s = .bool (decide (k ≠ 0 ∧ r'.e = 0)) ∧ wx = wr)
          case first =>
            rcases Nat.eq_zero_or_pos k with h0 | h0
            · subst h0
              go_wp2_with fail
              go_meet
              exact ⟨by simp, rfl⟩
            · have t1 : (0 : Int) < (k : Int) := by omega
              by_cases he : r'.e = 0
              · have hd : Hid (decide (k ≠ 0 ∧ r'.e = 0) = true) := Lib.hid (by simp [he]; omega)
                rw [he] at hc
                clear he
                go_wp2_with fail
                go_meet
                exact ⟨by rw [hd.out], rfl⟩
              · have hd : Hid (decide (k ≠ 0 ∧ r'.e = 0) = false) := Lib.hid (by simp [he])
                have t2 : (r'.e == 0) = false := by simpa using he
                obtain ⟨q, hq⟩ : ∃ q, r'.e = q := ⟨_, rfl⟩
                rw [hq] at t2 hc
                clear he hq
                go_wp2_with fail
                go_meet
                exact ⟨by rw [hd.out], rfl⟩
          case rest =>
            obtain ⟨rfl, rfl⟩ := hcut
            by_cases hst : k ≠ 0 ∧ r'.e = 0
            · rw [decide_eq_true hst]
              obtain ⟨hk0, he⟩ := hst
              obtain ⟨k, rfl⟩ : ∃ k', k = k' + 1 := ⟨k - 1, by omega⟩
              obtain ⟨x1, x2⟩ := many_next (f := Rdr.smallR) (G := Rdr.small) (k := k) he
              rw [x1] at h1
              rw [x2] at h2
              have h1' := Lib.hid h1
              have h2' := Lib.hid h2
              have hlen : xs.length ≤ 1000000 := by have := hbd'.out.le; omega
              have hbn := Lib.hid (hbd'.out.step he (smallR_le r') fun e => (smallR_lt e).2)
              have A0 := Lib.hid (rsmall_calls _ _ _ _ hRr'.out)
              clear h1 h2 x1 x2 hk0 he hc hbd'
              go_wp2_with fail
              with_reducible refine A0.out.mono ?_
              rintro x wx0 ⟨rfl, hRa, hKa⟩
              have U := hDr'.out.rd hKa hRr'.out.blk
              obtain ⟨qE, qEf⟩ := U.seesE
              obtain ⟨p6, c6, w6, e6, f6, s6, d6, q6⟩ := U.putI hRa r'.small hlen
              have d6' := Lib.hid d6
              have q6' := Lib.hid q6
              clear U hRa hKa A0 hRr' hDr' d6 q6
              go_wp2_with fail
              go_roundw
              case rel => exact ⟨k, r'.smallR, xs ++ [r'.small], .slice p6 (xs.length + 1) c6, by go_num, by omega, q6'.out, d6'.out, by rw [List.length_append]; exact hbn.out, h1'.out, by rw [List.append_assoc]; exact h2'.out⟩
              case measure => simp [intOf]
            · rw [decide_eq_false hst]
              obtain ⟨x1, x2⟩ := many_stop (f := Rdr.smallR) (G := Rdr.small) (r := r') (k := k) (by by_cases h0 : k = 0; exact .inl h0; exact .inr fun e => hst ⟨h0, e⟩)
              rw [x1] at h1
              rw [x2, List.append_nil] at h2
              rw [h1] at hRr'
              rw [h2] at hDr'
              have C := Lib.hid (C3.out wc hRr'.out)
              have hD := hDr'
              have hB := Lib.hid hRr'.out.blk
              have n3 : E ≠ R := hDr'.out.ne
              have n4 : R ≠ E := hDr'.out.ne.symm
              clear x1 x2 hst h1 h2 hbd' hc C3 hk hRr' hDr'
              go_wp2_with fail
              with_reducible refine C.out.mono ?_
              rintro x w3 ⟨rfl, hR3, hK3⟩
              have hD3 := hD.out.rd hK3 hB.out
              have S := hD3.set_ hR3 2 (.int .u64 fl) ⟨A, D, fl, 0, 0, 0⟩ rfl rfl rfl
              obtain ⟨qc, qf⟩ := hD3.seesE
              clear hK3 C hD hB hD3 hR3
              have C := Lib.hid (C4.out _ S.2)
              have hD := Lib.hid S.1
              have hB := Lib.hid S.2.blk
              clear S C4
              go_wp2_with fail
              with_reducible refine C.out.mono ?_
              rintro x w4 ⟨rfl, hR4, hK4⟩
              have hD4 := hD.out.rd hK4 hB.out
              have S := hD4.set_ hR4 3 (.int .u64 hd) ⟨A, D, fl, hd, 0, 0⟩ rfl rfl rfl
              clear qc qf
              obtain ⟨qc, qf⟩ := hD4.seesE
              clear hK4 C hD hB hD4 hR4
              have C := Lib.hid (C5.out _ S.2)
              have hD := Lib.hid S.1
              have hB := Lib.hid S.2.blk
              clear S C5
              go_wp2_with fail
              with_reducible refine C.out.mono ?_
              rintro x w5 ⟨rfl, hR5, hK5⟩
              have hD5 := hD.out.rd hK5 hB.out
              have S := hD5.set_ hR5 4 (.int .i64 lg) ⟨A, D, fl, hd, lg, 0⟩ rfl rfl rfl
              clear qc qf
              obtain ⟨qc, qf⟩ := hD5.seesE
              clear hK5 C hD hB hD5 hR5
              have C := Lib.hid (C6.out _ S.2)
              have hD := Lib.hid S.1
              have hB := Lib.hid S.2.blk
              clear S C6
              go_wp2_with fail
              with_reducible refine C.out.mono ?_
              rintro x w6 ⟨rfl, hR6, hK6⟩
              have hD6 := hD.out.rd hK6 hB.out
              have S := hD6.set_ hR6 5 (.int .i64 nx) ⟨A, D, fl, hd, lg, nx⟩ rfl rfl rfl
              clear qc qf
              obtain ⟨qc, qf⟩ := hD6.seesE
              obtain ⟨p6, c6, ⟨q0, q1⟩, qRf⟩ := hR6.seesR
              clear hK6 C hD hB hD6 hR6
              obtain ⟨pa, ca, rfl⟩ := S.1.add.slice
              obtain ⟨pd, cd, rfl⟩ := S.1.drop.slice
              have Sd := Lib.hid S.1
              have Sr := Lib.hid S.2
              dsimp only at qc
              clear S
              have hFin : finR r6 = if r6.l ≠ [] then r6.took 0 9 else r6 := rfl
              obtain ⟨L, hL⟩ : ∃ L, r6.l.length = L := ⟨_, rfl⟩
              rw [hL] at q0
              have hRZ : R ≠ w.heap.size := Sd.out.nz.2.symm
              by_cases he : r6.e = 0
              · by_cases hl : r6.l = []
                · rw [if_neg (by simpa using hl)] at hFin
                  rw [hFin] at hDec'
                  have hL0 : L = 0 := by rw [← hL, hl]; rfl
                  subst hL0
                  have hP : decodeE l = (⟨A, D, fl, hd, lg, nx⟩, 0) := by rw [hDec'.out, if_neg (by simpa using he)]
                  have hP' := Lib.hid hP
                  rw [he] at q1
                  clear hP hFin hL hl he hDec'
                  have qz := fun i => Sd.out.z.cell i
                  have qzf := fun i => Sd.out.z.frozen i
                  go_wp2
                  obtain ⟨W, eW, bZ, kZ⟩ := put_six rfl Sd.out.z (.slice pa A.length ca) (.slice pd D.length cd) (.int .u64 fl) (.int .u64 hd) (.int .i64 lg) (.int .i64 nx)
                  rw [eW]
                  have cz := bZ.cell
                  refine bodyPost_ret (v := .tuple #[.agg #[.slice pa A.length ca, .slice pd D.length cd, .int .u64 fl, .int .u64 hd, .int .i64 lg, .int .i64 nx], .int .i64 0]) (by simp [results, Tryz.results75, go_sem, cz]) rfl ?_
                  exact df_good Sd.out kZ hP'.out
                · rw [if_pos hl] at hFin
                  have hq : (finR r6).e = 9 := by rw [hFin]; unfold Rdr.took; rw [if_neg (by simpa using he), if_pos (by decide)]
                  have hP : decodeE l = (Edt.zero, 9) := by rw [hDec'.out, hq, if_pos (by decide)]
                  have hP' := Lib.hid hP
                  have hL0 : (0 : Int) < (L : Int) := by
                    have : 0 < r6.l.length := List.length_pos_iff.2 hl
                    omega
                  have hS9 := Sr.out.set_e 9
                  have hZ' := Lib.hid (Sd.out.z.keeps hS9.2 fun e => hRZ e.symm)
                  have hBl' := Lib.hid (Keeps.below_step Sd.out.below Sd.out.size hS9.2 fun j e => by rw [e]; exact Sd.out.low.1)
                  have q1' : ((w6.setCell ⟨E, 5, none⟩ (.int .i64 nx)).setCell ⟨R, 1, none⟩ (.int .i64 9)).cell? ⟨R, 1, none⟩ = some (.int .i64 9) := by
                    obtain ⟨_, _, h, _⟩ := hS9.1.seesR; exact h.2
                  have q1'' := Lib.hid q1'
                  rw [he] at q1
                  clear hP hFin hL hl he hDec' q1' hS9 hq
                  go_wp2
                  have q1 := q1''.out
                  obtain ⟨q, hq⟩ : ∃ q : Int, q = 9 := ⟨_, rfl⟩
                  have hP' := hP'
                  rw [← hq] at hP'
                  obtain ⟨V, eV⟩ : ∃ V, (w6.setCell ⟨E, 5, none⟩ (.int .i64 nx)).setCell ⟨R, 1, none⟩ (.int .i64 9) = V := ⟨_, rfl⟩
                  rw [eV] at q1 hBl' hZ' ⊢
                  rw [← hq] at q1
                  clear hq qc qf q0 q1'' qRf
                  have q1' := q1
                  clear q1
                  have q1 := q1'
                  have qv : V.drew.cell? ⟨R, 1, none⟩ = some (.int .i64 q) := q1
                  clear eV q1
                  refine wp_region_s (fun w' => w'.cell? ⟨R, 1, none⟩ = some (.int .i64 q)) [] [(true, 0), (true, 1), (true, 2), (true, 3), (true, 4), (false, 5), (true, 6)] (by kernel_rfl) (by kernel_rfl) (by kernel_rfl) (by kernel_rfl) (fun _ _ _ _ _ h => h) qv ?_
                  refine wpS_take (v := ?_) rfl (.inl ⟨by rfl, fun w' hS => ?_⟩) ?_
                  rotate_left
                  · (try dsimp only at hS); go_simp; try with_reducible rfl
                  simp only [Act.put, List.setIfInBounds_toArray, List.set_cons_zero, List.set_cons_succ]
                  refine wpS_take (v := ?_) rfl (.inl ⟨by rfl, fun w' hS => ?_⟩) ?_
                  rotate_left
                  · (try dsimp only at hS); go_simp; try with_reducible rfl
                  simp only [Act.put, List.setIfInBounds_toArray, List.set_cons_zero, List.set_cons_succ]
                  refine wpS_take (v := ?_) rfl (.inl ⟨by rfl, fun w' hS => ?_⟩) ?_
                  rotate_left
                  · (try dsimp only at hS); go_simp; try with_reducible rfl
                  simp only [Act.put, List.setIfInBounds_toArray, List.set_cons_zero, List.set_cons_succ]
                  refine wpS_take (v := ?_) rfl (.inl ⟨by rfl, fun w' hS => ?_⟩) ?_
                  rotate_left
                  · (try dsimp only at hS); go_simp; try with_reducible rfl
                  simp only [Act.put, List.setIfInBounds_toArray, List.set_cons_zero, List.set_cons_succ]
                  refine wpS_take (v := ?_) rfl (.inl ⟨by rfl, fun w' hS => ?_⟩) ?_
                  rotate_left
                  · (try dsimp only at hS); go_simp; try with_reducible rfl
                  simp only [Act.put, List.setIfInBounds_toArray, List.set_cons_zero, List.set_cons_succ]
                  have hZd := hZ'.out.drew
                  have qz := hZd.cell
                  have qzf := hZd.frozen
                  have hBd := Lib.hid (hBl'.out.drew)
                  have qv : V.drew.cell? ⟨R, 1, none⟩ = some (.int .i64 q) := qv
                  generalize V.drew = V' at *
                  obtain ⟨W, eW, bZ, kZ⟩ := put_six rfl hZd (.slice none 0 0) (.slice none 0 0) (.int .u64 0) (.int .u64 0) (.int .i64 0) (.int .i64 0)
                  refine wpS_go rfl ?_
                  go_wp2
                  (try rw [eW])
                  have cz := bZ.cell
                  have qR : W.cell? ⟨R, 1, none⟩ = some (.int .i64 q) := by rw [← qv]; exact World.cell?_of_block (kZ.block R (cell_lt qv) hRZ)
                  refine ⟨by first | exact qR | exact fun _ => qR, ?_⟩
                  refine wpS_take (v := ?_) rfl (.inl ⟨by rfl, fun w' hS => ?_⟩) ?_
                  rotate_left
                  · (try dsimp only at hS); go_simp; try with_reducible rfl
                  simp only [Act.put, List.setIfInBounds_toArray, List.set_cons_zero, List.set_cons_succ]
                  refine wpS_end ?_
                  go_wp2
                  refine bodyPost_ret (v := .tuple #[.agg #[.slice none 0 0, .slice none 0 0, .int .u64 0, .int .u64 0, .int .i64 0, .int .i64 0], .int .i64 q]) (by simp [results, Tryz.results75, go_sem, cz]) rfl ?_
                  exact dec_bad hBd.out kZ hP'.out
              · have hq : (finR r6).e = r6.e := by
                  rw [hFin]; split
                  · unfold Rdr.took; rw [if_pos (by simpa using he)]
                  · rfl
                have t1 : (r6.e != 0) = true := by simpa using he
                have t2 : (r6.e == 0) = false := by simpa using he
                have hP : decodeE l = (Edt.zero, r6.e) := by rw [hDec'.out, hq, if_pos he]
                have hP' := Lib.hid hP
                have hBl' := Lib.hid Sd.out.below
                have hZ' := Lib.hid Sd.out.z
                have q1' : (w6.setCell ⟨E, 5, none⟩ (.int .i64 nx)).cell? ⟨R, 1, none⟩ = some (.int .i64 r6.e) := by
                  obtain ⟨_, _, h, _⟩ := Sr.out.seesR; exact h.2
                obtain ⟨q, hq2⟩ : ∃ q, r6.e = q := ⟨_, rfl⟩
                rw [hq2] at t1 t2 hP' q1 q1'
                have q1'' := Lib.hid q1'
                clear hP hFin hL he hDec' q1' hq hq2
                go_wp2
                have q1 := q1''.out
                obtain ⟨V, eV⟩ : ∃ V, w6.setCell ⟨E, 5, none⟩ (.int .i64 nx) = V := ⟨_, rfl⟩
                rw [eV] at q1 hBl' hZ' ⊢
                clear qc qf q0 qRf q1''
                have qv : V.drew.cell? ⟨R, 1, none⟩ = some (.int .i64 q) := q1
                clear eV q1
                refine wp_region_s (fun w' => w'.cell? ⟨R, 1, none⟩ = some (.int .i64 q)) [] [(true, 0), (true, 1), (true, 2), (true, 3), (true, 4), (false, 5), (true, 6)] (by kernel_rfl) (by kernel_rfl) (by kernel_rfl) (by kernel_rfl) (fun _ _ _ _ _ h => h) qv ?_
                refine wpS_take (v := ?_) rfl (.inl ⟨by rfl, fun w' hS => ?_⟩) ?_
                rotate_left
                · (try dsimp only at hS); go_simp; try with_reducible rfl
                simp only [Act.put, List.setIfInBounds_toArray, List.set_cons_zero, List.set_cons_succ]
                refine wpS_take (v := ?_) rfl (.inl ⟨by rfl, fun w' hS => ?_⟩) ?_
                rotate_left
                · (try dsimp only at hS); go_simp; try with_reducible rfl
                simp only [Act.put, List.setIfInBounds_toArray, List.set_cons_zero, List.set_cons_succ]
                refine wpS_take (v := ?_) rfl (.inl ⟨by rfl, fun w' hS => ?_⟩) ?_
                rotate_left
                · (try dsimp only at hS); go_simp; try with_reducible rfl
                simp only [Act.put, List.setIfInBounds_toArray, List.set_cons_zero, List.set_cons_succ]
                refine wpS_take (v := ?_) rfl (.inl ⟨by rfl, fun w' hS => ?_⟩) ?_
                rotate_left
                · (try dsimp only at hS); go_simp; try with_reducible rfl
                simp only [Act.put, List.setIfInBounds_toArray, List.set_cons_zero, List.set_cons_succ]
                refine wpS_take (v := ?_) rfl (.inl ⟨by rfl, fun w' hS => ?_⟩) ?_
                rotate_left
                · (try dsimp only at hS); go_simp; try with_reducible rfl
                simp only [Act.put, List.setIfInBounds_toArray, List.set_cons_zero, List.set_cons_succ]
                have hZd := hZ'.out.drew
                have qz := hZd.cell
                have qzf := hZd.frozen
                have hBd := Lib.hid (hBl'.out.drew)
                have qv : V.drew.cell? ⟨R, 1, none⟩ = some (.int .i64 q) := qv
                generalize V.drew = V' at *
                obtain ⟨W, eW, bZ, kZ⟩ := put_six rfl hZd (.slice none 0 0) (.slice none 0 0) (.int .u64 0) (.int .u64 0) (.int .i64 0) (.int .i64 0)
                refine wpS_go rfl ?_
                go_wp2
                (try rw [eW])
                have cz := bZ.cell
                have qR : W.cell? ⟨R, 1, none⟩ = some (.int .i64 q) := by rw [← qv]; exact World.cell?_of_block (kZ.block R (cell_lt qv) hRZ)
                refine ⟨by first | exact qR | exact fun _ => qR, ?_⟩
                refine wpS_take (v := ?_) rfl (.inl ⟨by rfl, fun w' hS => ?_⟩) ?_
                rotate_left
                · (try dsimp only at hS); go_simp; try with_reducible rfl
                simp only [Act.put, List.setIfInBounds_toArray, List.set_cons_zero, List.set_cons_succ]
                refine wpS_end ?_
                go_wp2
                refine bodyPost_ret (v := .tuple #[.agg #[.slice none 0 0, .slice none 0 0, .int .u64 0, .int .u64 0, .int .i64 0, .int .i64 0], .int .i64 q]) (by simp [results, Tryz.results75, go_sem, cz]) rfl ?_
                exact dec_bad hBd.out kZ hP'.out
end Go.Proofs.YtabcdodjkfknlaaGreatDoor
namespace Go.Proofs.YtabcdodjkfknlaaGreatDoor
open Go.RowKit
/-- what frames make of a version -/
def foldB (v : Ver) : List (List UInt8) → Option Ver
  | [] => some v
  | f :: fs => if (decodeE f).2 ≠ 0 then none else if (applyV v (decodeE f).1).2 ≠ 0 then none else foldB (applyV v (decodeE f).1).1 fs
theorem loadB_all : ∀ (n : Nat) (b : List UInt8), b.length = n → ∀ (v : Ver) (s : Bool), loadB v s b = (foldB v (allL b)).map fun x => (x, s || !(allL b).isEmpty) := by
  intro n
  induction n using Nat.strongRecOn with
  | ind n ih =>
    intro b hb v s
    by_cases h : (nextL b).1 = 0
    · have hl := nextL_len h
      rw [allL_next h]
      show loadB v s b = (if (decodeE (nextL b).2).2 ≠ 0 then none else if (applyV v (decodeE (nextL b).2).1).2 ≠ 0 then none else foldB (applyV v (decodeE (nextL b).2).1).1 (allL (b.drop (8 + (nextL b).2.length)))).map _
      by_cases hd : (decodeE (nextL b).2).2 = 0
      · rw [if_neg (by simpa using hd)]
        by_cases ha : (applyV v (decodeE (nextL b).2).1).2 = 0
        · rw [if_neg (by simpa using ha), loadB_next h hd ha, ih (b.length - (8 + (nextL b).2.length)) (by omega) _ (by rw [List.length_drop])]
          simp
        · rw [if_pos ha, loadB_app h hd ha]; rfl
      · rw [if_pos hd, loadB_dec h hd]; rfl
    · rw [loadB_end h, allL_end h]
      simp [foldB]
theorem loadM_all (n : Nat) (b : List UInt8) : loadM n b = if allL b = [] then (Ver.zero, 0, (9 : Int)) else match foldB Ver.first (allL b) with | some v => (v, (n : Int), (0 : Int)) | none => (Ver.zero, 0, (9 : Int)) := by
  unfold loadM
  rw [loadB_all _ b rfl]
  by_cases h : allL b = []
  · rw [if_pos h, h]
    rfl
  · rw [if_neg h]
    have hb : (false || !(allL b).isEmpty) = true := by
      cases hx : allL b with
      | nil => exact absurd hx h
      | cons _ _ => rfl
    rw [hb]
    cases foldB Ver.first (allL b) <;> rfl
end Go.Proofs.YtabcdodjkfknlaaGreatDoor
namespace Go.Proofs.YtabcdodjkfknlaaGreatDoor
open Go.RowKit
/-- tables put in one behind the other, each where it stands in the order -/
def addF : List Tbl → List Tbl → Option (List Tbl)
  | l, [] => some l
  | l, t :: ts => if l.any (fun u => decide (u.num = t.num)) then none else addF (insT l t) ts
theorem any_perm {s l : List Tbl} (h : s.Perm l) (p : Tbl → Bool) : s.any p = l.any p := by
  rw [Bool.eq_iff_iff, List.any_eq_true, List.any_eq_true]
  exact ⟨fun ⟨x, a, b⟩ => ⟨x, h.mem_iff.1 a, b⟩, fun ⟨x, a, b⟩ => ⟨x, h.mem_iff.2 a, b⟩⟩
theorem addF_addT : ∀ (ts s l : List Tbl), s.Perm l → addF s ts = (addT l ts).map fun _ => ts.foldl insT s
  | [], s, l, h => rfl
  | t :: ts, s, l, h => by
    unfold addF addT
    rw [any_perm h]
    split
    · rfl
    · rw [addF_addT ts (insT s t) (l ++ [t]) ((insT_perm s t).trans ((h.cons t).trans (List.perm_append_singleton t l).symm))]
      rfl
/-- a version and an edit, as the document reckons -/
def Ver.withD (v : Ver) (e : Edt) (l : List Tbl) : Ver := ⟨l, max v.floor e.floor, max v.head e.head, max v.log e.log, max v.next e.next⟩
def applyD (v : Ver) (e : Edt) : Ver × Int :=
  if v.ok = false then (Ver.zero, 9) else if e.right = false then (Ver.zero, 1) else
    match dropT v.tables e.drop with
    | none => (Ver.zero, 4)
    | some l => match addF l e.add with
      | none => (Ver.zero, 3)
      | some l' => if (v.withD e l').ok = false then (Ver.zero, 11) else (v.withD e l', 0)
theorem dropT_srt : ∀ {ns : List Int} {l l' : List Tbl}, dropT l ns = some l' → Srt ordT l → Srt ordT l'
  | [], l, l', h, hs => by obtain rfl := Option.some.inj h; exact hs
  | n :: ns, l, l', h, hs => by
    unfold dropT at h
    split at h
    · exact dropT_srt h (List.Pairwise.sublist List.filter_sublist hs)
    · cases h
theorem applyD_eq (v : Ver) (e : Edt) : applyD v e = applyV v e := by
  unfold applyD applyV
  by_cases h : v.ok = false
  · rw [if_pos h, if_pos h]
  · rw [if_neg h, if_neg h]
    have hok : v.ok = true := by simpa using h
    by_cases hr : e.right = false
    · rw [if_pos hr, if_pos hr]
    · rw [if_neg hr, if_neg hr]
      cases hd : dropT v.tables e.drop with
      | none => rfl
      | some l =>
        have h1 := dropT_srt hd (Ver.ok_srt hok)
        have h2 := (dropT_nodup hd (Ver.ok_iff.1 hok).2.2).1
        show (match addF l e.add with | none => (Ver.zero, (3 : Int)) | some l' => if (v.withD e l').ok = false then (Ver.zero, 11) else (v.withD e l', 0)) = (match addT l e.add with | none => (Ver.zero, (3 : Int)) | some l' => if (v.with_ e l').ok = false then (Ver.zero, 11) else (v.with_ e l', 0))
        rw [addF_addT e.add l l (List.Perm.refl l)]
        cases ha : addT l e.add with
        | none => rfl
        | some l' =>
          have e1 : e.add.foldl insT l = sortT l' := by
            rw [addT_eq ha]
            show _ = (l ++ e.add).foldl insT []
            rw [List.foldl_append]
            show _ = e.add.foldl insT (sortT l)
            rw [sortT_self h1 h2]
          show (if (v.withD e (e.add.foldl insT l)).ok = false then (Ver.zero, (11 : Int)) else (v.withD e (e.add.foldl insT l), 0)) = (if (v.with_ e l').ok = false then (Ver.zero, 11) else (v.with_ e l', 0))
          rw [e1]; rfl
/-- one of a number taken away -/
theorem drop_none {l : List Tbl} {n : Int} (h : ∀ (i : Nat) (t : Tbl), l[i]? = some t → t.num ≠ n) (ns : List Int) : dropT l (n :: ns) = none := by
  unfold dropT
  rw [if_neg]
  rw [List.any_eq_true]
  rintro ⟨x, hx, e⟩
  obtain ⟨i, hi⟩ := List.getElem?_of_mem hx
  exact h i x hi (by simpa using e)
theorem filter_all {l : List Tbl} {n : Int} (h : ∀ t ∈ l, t.num ≠ n) : (l.filter fun t => !decide (t.num = n)) = l :=
  List.filter_eq_self.2 fun t ht => by simpa using h t ht
theorem dropT_at : ∀ {l : List Tbl} {j : Nat} {t : Tbl} {n : Int}, (l.map Tbl.num).Nodup → l[j]? = some t → t.num = n → (l.filter fun t => !decide (t.num = n)) = l.take j ++ l.drop (j + 1)
  | [], j, t, n, _, h, _ => by simp at h
  | u :: l, 0, t, n, hn, h, e => by
    obtain rfl : u = t := by simpa using h
    rw [List.map_cons, List.nodup_cons] at hn
    rw [List.filter_cons_of_neg (by simpa using e)]
    simp only [List.take_zero, List.nil_append, List.drop_succ_cons, List.drop_zero, Nat.zero_add]
    exact filter_all fun x hx e' => hn.1 (by rw [e, ← e']; exact List.mem_map_of_mem hx)
  | u :: l, j + 1, t, n, hn, h, e => by
    rw [List.map_cons, List.nodup_cons] at hn
    have h' : l[j]? = some t := by simpa using h
    have hne : u.num ≠ n := fun e' => hn.1 (by rw [e', ← e]; exact List.mem_map_of_mem (List.mem_of_getElem? h'))
    rw [List.filter_cons_of_pos (by simpa using hne), dropT_at hn.2 h' e]
    rfl
theorem drop_some {l : List Tbl} {j : Nat} {t : Tbl} {n : Int} (hn : (l.map Tbl.num).Nodup) (h : l[j]? = some t) (e : t.num = n) (ns : List Int) : dropT l (n :: ns) = dropT (l.take j ++ l.drop (j + 1)) ns ∧ ((l.take j ++ l.drop (j + 1)).map Tbl.num).Nodup := by
  have hf := dropT_at hn h e
  constructor
  · show (if l.any (fun t => decide (t.num = n)) then dropT (l.filter fun t => !decide (t.num = n)) ns else none) = _
    rw [if_pos (List.any_eq_true.2 ⟨t, List.mem_of_getElem? h, by simpa using e⟩), hf]
  · rw [← hf]
    exact ((List.filter_sublist (p := fun t => !decide (t.num = n)) (l := l)).map Tbl.num).nodup hn
theorem ins_step {l : List Tbl} {t u : Tbl} {k : Nat} (hu : l[k]? = some u) (hl : ordT u t < 0) (h : insT l t = l.take k ++ insT (l.drop k) t) : insT l t = l.take (k + 1) ++ insT (l.drop (k + 1)) t := by
  have hk : k < l.length := (List.getElem?_eq_some_iff.1 hu).1
  have hu' : l[k] = u := by rw [List.getElem?_eq_getElem hk] at hu; exact Option.some.inj hu
  rw [h]
  conv => lhs; rw [List.drop_eq_getElem_cons hk, hu']
  rw [List.take_add_one, hu]
  show _ ++ (if ordT u t < 0 then u :: insT (l.drop (k + 1)) t else _) = _
  rw [if_pos hl]
  simp
theorem ins_here {l : List Tbl} {t : Tbl} {k : Nat} (hk : l[k]? = none ∨ ∃ u, l[k]? = some u ∧ ¬ ordT u t < 0) (h : insT l t = l.take k ++ insT (l.drop k) t) : insT l t = l.take k ++ t :: l.drop k := by
  rw [h]
  rcases hk with e | ⟨u, hu, hl⟩
  · rw [List.getElem?_eq_none_iff] at e
    rw [List.drop_eq_nil_of_le e]; rfl
  · have hk : k < l.length := (List.getElem?_eq_some_iff.1 hu).1
    have hu' : l[k] = u := by rw [List.getElem?_eq_getElem hk] at hu; exact Option.some.inj hu
    rw [List.drop_eq_getElem_cons hk, hu']
    show _ ++ (if ordT u t < 0 then _ else _) = _
    rw [if_neg hl]
theorem addF_none {l : List Tbl} {t u : Tbl} (h : u ∈ l) (e : u.num = t.num) (ts : List Tbl) : addF l (t :: ts) = none := by
  unfold addF
  rw [if_pos (List.any_eq_true.2 ⟨u, h, by simpa using e⟩)]
theorem addF_next {l : List Tbl} {t : Tbl} (h : ∀ u ∈ l, u.num ≠ t.num) (ts : List Tbl) : addF l (t :: ts) = addF (insT l t) ts := by
  show (if l.any (fun u => decide (u.num = t.num)) then none else addF (insT l t) ts) = _
  rw [if_neg]
  rw [List.any_eq_true]
  rintro ⟨x, hx, e⟩
  exact h x hx (by simpa using e)
end Go.Proofs.YtabcdodjkfknlaaGreatDoor
namespace Go.Proofs.YtabcdodjkfknlaaGreatDoor
open Go.RowKit
attribute [local go_sem] Oper.semAt_some
abbrev Tbl.arg (t : Tbl) : Value := .agg #[.int .i64 t.num, .int .i64 t.level, .int .i64 t.size, .string t.first, .string t.last]
/-- the document's order of tables is the program's -/
theorem lessT_eq (a b : Tbl) : decide (ordT a b < 0) = if a.level = b.level then (if a.level = 0 ∨ a.first.toList = b.first.toList then decide (a.num < b.num) else Op.bytesLess a.first.toList b.first.toList) else decide (a.level < b.level) := by
  have hn : decide (cmpI a.num b.num < 0) = decide (a.num < b.num) := by rw [decide_eq_decide]; exact cmpI_lt
  by_cases hl : a.level = b.level
  · rw [if_pos hl]
    have hc : cmpI a.level b.level = 0 := by rw [hl]; exact cmpI_self _
    by_cases h0 : a.level = 0
    · rw [if_pos (.inl h0)]
      unfold ordT
      rw [if_pos (.inr h0), hc]
      show decide (orI 0 (cmpI a.num b.num) < 0) = _
      exact hn
    · unfold ordT
      rw [if_neg (by rintro (h | h); exact h hc; exact h0 h)]
      have hb : Op.bytesLess a.first.toList b.first.toList = decide (Lib.compareBytes a.first.data.toList b.first.data.toList = -1) := by rw [Lib.toList_data, Lib.toList_data, cb_less]
      rw [hb]
      by_cases hf : a.first.toList = b.first.toList
      · rw [if_pos (.inr hf)]
        have : Lib.compareBytes a.first.data.toList b.first.data.toList = 0 := by rw [Lib.toList_data, Lib.toList_data] at hf; rw [hf]; exact cb_self _
        rw [this]
        show decide (orI 0 (cmpI a.num b.num) < 0) = _
        exact hn
      · rw [if_neg (by rintro (h | h); exact h0 h; exact hf h)]
        have hne : Lib.compareBytes a.first.data.toList b.first.data.toList ≠ 0 := fun e => hf (by rw [Lib.toList_data, Lib.toList_data]; exact cb_eq _ _ e)
        rcases cb_three a.first.data.toList b.first.data.toList with h | h | h
        · exact absurd h hne
        · rw [h]; rfl
        · rw [h]; rfl
  · rw [if_neg hl]
    have hc : cmpI a.level b.level ≠ 0 := fun e => hl (cmpI_eq e)
    unfold ordT
    rw [if_pos (.inl hc)]
    unfold orI
    rw [if_neg hc, decide_eq_decide]
    exact cmpI_lt
set_option maxHeartbeats 4000000 in
set_option maxRecDepth 100000 in
theorem less16_calls (a b : Tbl) (w : World) : Calls Tryz.prog 39 #[a.arg, b.arg] w fun e w' => e = .returned (.bool (decide (ordT a b < 0))) ∧ Below w.heap.size w w' := by
  rw [lessT_eq]
  obtain ⟨an, al, az, af, ax⟩ := a
  obtain ⟨bn, bl, bz, bf, bx⟩ := b
  simp only
  have hB : Below w.heap.size w ((w.alloc (.cells #[.int .i64 an, .int .i64 al, .int .i64 az, .string af, .string ax] 76)).alloc (.cells #[.int .i64 bn, .int .i64 bl, .int .i64 bz, .string bf, .string bx] 76)) := ((Below.refl _ w).alloc (Nat.le_refl _) _).alloc (by simp) _
  have hB' := Lib.hid hB
  clear hB
  by_cases hl : al = bl
  · subst hl
    rw [if_pos rfl]
    by_cases h0 : al = 0
    · subst h0
      rw [if_pos (.inl rfl)]
      go_enter Tryz.func39, Tryz.ntmps39
      go_wp2
      go_ret
      exact ⟨rfl, hB'.out⟩
    · have t0 : (al == 0) = false := by simpa using h0
      by_cases hf : af.toList = bf.toList
      · have e : (if al = 0 ∨ af.toList = bf.toList then decide (an < bn) else Op.bytesLess af.toList bf.toList) = decide (an < bn) := if_pos (.inr hf)
        rw [e]
        obtain rfl : af = bf := by
          rw [Lib.toList_data, Lib.toList_data] at hf
          exact bytes_ext hf
        clear e hf
        go_enter Tryz.func39, Tryz.ntmps39
        go_wp2
        go_ret
        exact ⟨rfl, hB'.out⟩
      · have e : (if al = 0 ∨ af.toList = bf.toList then decide (an < bn) else Op.bytesLess af.toList bf.toList) = Op.bytesLess af.toList bf.toList := if_neg (by rintro (h | h); exact h0 h; exact hf h)
        rw [e]
        have t1 : (af.toList == bf.toList) = false := by simpa using hf
        clear e hf
        go_enter Tryz.func39, Tryz.ntmps39
        go_wp2
        go_ret
        exact ⟨rfl, hB'.out⟩
  · rw [if_neg hl]
    have t0 : (al != bl) = true := by simpa using hl
    have t1 : (al == bl) = false := by simpa using hl
    clear hl
    go_enter Tryz.func39, Tryz.ntmps39
    go_wp2
    go_ret
    exact ⟨rfl, hB'.out⟩
end Go.Proofs.YtabcdodjkfknlaaGreatDoor
