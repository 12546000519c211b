/- Walks: Decode. What is decoded and what it makes of a version keeps its bounds. No program in sight. Files' names, plainly: a kind's sign, a stroke, a number's digits. No program in sight. Walks: files' names. -/
import Derived.Test.YtabcdodjkfknlaaGreatDoorPN20
import Derived.Test.YtabcdodjkfknlaaGreatDoorPN19
import Derived.Test.YtabcdodjkfknlaaGreatDoorPN01
import Derived.Lib.ItoaNum
import Derived.Test.YtabcdodjkfknlaaGreatDoorShelf
import Derived.Test.YtabcdodjkfknlaaGreatDoorPN11
import Derived.Lib.AppendIntMem
namespace Go.Proofs.YtabcdodjkfknlaaGreatDoor
open Go.RowKit
attribute [local go_sem ↓] dapp_op dslK_op
attribute [local go_sem] Oper.semAt_some
theorem DecAt.seesE {B : Nat} {w0 w : World} {R E SM TX Z : Nat} {av dv : Value} {e : Edt} (h : DecAt B w0 w R E SM TX Z av dv e) : (∀ i, w.cell? ⟨E, i, none⟩ = (#[av, dv, .int .u64 e.floor, .int .u64 e.head, .int .i64 e.log, .int .i64 e.next] : Array Value)[i]?) ∧ (∀ i, w.frozen? ⟨E, i, none⟩ = false) := ⟨h.blk.cell, h.blk.frozen⟩
theorem RdAt.seesR {B : Nat} {w : World} {R : Nat} {r : Rdr} (h : RdAt B w R r) : ∃ p c, w.cell? ⟨R, 0, none⟩ = some (.slice p r.l.length c) ∧ w.cell? ⟨R, 1, none⟩ = some (.int .i64 r.e) := by
  obtain ⟨_, bv, h1, h2, _⟩ := h
  obtain ⟨p, c, rfl⟩ := h2.slice
  exact ⟨p, c, by rw [h1.cell]; rfl, by rw [h1.cell]; rfl⟩
theorem list6J {l : List Value} (h : l.length = 6) : ∃ a b c d e f, l = [a, b, c, d, e, f] := by
  match l, h with
  | [a, b, c, d, e, f], _ => exact ⟨a, b, c, d, e, f, rfl⟩
/-- six cells laid anew -/
theorem put_six {V : World} {g : Nat} {T : TypeId} {z : Array Value} (hz : z.size = 6) (hr : Blk V g T z) (v0 v1 v2 v3 v4 v5 : Value) :
    ∃ W, ((((((V.setCell ⟨g, 0, none⟩ v0).setCell ⟨g, 1, none⟩ v1).setCell ⟨g, 2, none⟩ v2).setCell ⟨g, 3, none⟩ v3).setCell ⟨g, 4, none⟩ v4).setCell ⟨g, 5, none⟩ v5) = W ∧ Blk W g T #[v0, v1, v2, v3, v4, v5] ∧ Keeps (fun j => j = g) V W := by
  refine ⟨_, rfl, ?_, ?_⟩
  · have h := (((((hr.set_ 0 v0).set_ 1 v1).set_ 2 v2).set_ 3 v3).set_ 4 v4).set_ 5 v5
    obtain ⟨l⟩ := z
    obtain ⟨a, b, c, d, e, f, rfl⟩ := list6J (l := l) (by simpa using hz)
    simpa using h
  · exact ((((((Keeps.refl (fun j => j = g) V).setCell (p := ⟨g, 0, none⟩) (.inl rfl) _).setCell (p := ⟨g, 1, none⟩) (.inl rfl) _).setCell (p := ⟨g, 2, none⟩) (.inl rfl) _).setCell (p := ⟨g, 3, none⟩) (.inl rfl) _).setCell (p := ⟨g, 4, none⟩) (.inl rfl) _).setCell (p := ⟨g, 5, none⟩) (.inl rfl) _
/-- what Decode ends with, all being well -/
theorem dec_good {w V W : World} {R E SM TX : Nat} {av dv : Value} {e : Edt} {l : List UInt8} (h : DecAt w.heap.size w V R E SM TX w.heap.size av dv e) (hk : Keeps (fun j => j = w.heap.size) V W) (hP : decodeE l = (e, 0)) :
    DecPost w (decodeE l) (.returned (.tuple #[.agg #[av, dv, .int .u64 e.floor, .int .u64 e.head, .int .i64 e.log, .int .i64 e.next], .int .i64 0])) W := by
  rw [hP]
  exact ⟨_, rfl, ⟨av, dv, rfl, h.add.keeps hk fun g hg e => h.add.blk_ne h.z (by decide) (by rw [hg, e]), h.drop.keeps hk fun g hg e => h.drop.blk_ne h.z (by decide) (by rw [hg, e])⟩, Keeps.below_step h.below h.size hk fun j e => Nat.le_of_eq e.symm⟩
/-- what Decode ends with, something being wrong -/
theorem dec_bad {w V W : World} {q : Int} {l : List UInt8} (h : Below w.heap.size w V) (hk : Keeps (fun j => j = w.heap.size) V W) (hP : decodeE l = (Edt.zero, q)) :
    DecPost w (decodeE l) (.returned (.tuple #[.agg #[.slice none 0 0, .slice none 0 0, .int .u64 0, .int .u64 0, .int .i64 0, .int .i64 0], .int .i64 q])) W := by
  rw [hP]
  exact ⟨_, rfl, ⟨_, _, rfl, World.ownsRow_nil _ _ _ _, World.ownsRow_nil _ _ _ _⟩, Keeps.below_step h h.size hk fun j e => Nat.le_of_eq e.symm⟩
set_option maxHeartbeats 4000000 in
set_option maxRecDepth 100000 in
theorem decode_calls (v : Value) (l : List UInt8) (w : World) (hv : Bytes w v l) (hl : l.length ≤ 900000) :
    Calls Tryz.prog 61 #[v] w (DecPost w (decodeE l)) := by
  obtain ⟨p, c, rfl⟩ := hv.slice
  obtain ⟨r1, e1⟩ : ∃ r1, (Rdr.mk l 0).timesR Rdr.tblR = r1 := ⟨_, rfl⟩
  obtain ⟨A, e2⟩ : ∃ A, (Rdr.mk l 0).times Rdr.tblR Rdr.tbl = A := ⟨_, rfl⟩
  obtain ⟨r2, e3⟩ : ∃ r2, r1.timesR Rdr.smallR = r2 := ⟨_, rfl⟩
  obtain ⟨D, e4⟩ : ∃ D, r1.times Rdr.smallR Rdr.small = D := ⟨_, rfl⟩
  have hDec := decodeE_eq l e1 e2 e3 e4
  have H0 := dec_start hv hl _ rfl
  have C1 := dec1_times w.heap.size (w.heap.size + 1) (w.heap.size + 1 + 1) (w.heap.size + 1 + 1 + 1) (w.heap.size + 1 + 1 + 1 + 1) w.heap.size w (.slice none 0 0) ⟨l, 0⟩ _ H0.1 H0.2 (.inl (by simpa using hl))
  rw [e1, e2] at C1
  have C2 := fun av w' hR hD (hb : Bd r1 A.length) => dec2_times w.heap.size (w.heap.size + 1) (w.heap.size + 1 + 1) (w.heap.size + 1 + 1 + 1) (w.heap.size + 1 + 1 + 1 + 1) w.heap.size w av A r1 w' hR hD (by rcases hb with h | ⟨h0, h⟩; exact .inl (by omega); exact .inr ⟨h0, by omega⟩)
  rw [e3, e4] at C2
  have C1' := Lib.hid C1
  have C2' := Lib.hid C2
  obtain ⟨r3, e5⟩ : ∃ r, r2.numR = r := ⟨_, rfl⟩
  obtain ⟨r4, e6⟩ : ∃ r, r3.numR = r := ⟨_, rfl⟩
  obtain ⟨r5, e7⟩ : ∃ r, r4.smallR = r := ⟨_, rfl⟩
  obtain ⟨r6, e8⟩ : ∃ r, r5.smallR = r := ⟨_, rfl⟩
  rw [e5, e6, e7, e8] at hDec
  have C3 := Lib.hid (fun (W : World) (h : RdAt w.heap.size W (w.heap.size + 1) r2) => (by have := number_calls _ _ _ _ h; rw [e5] at this; exact this : Calls Tryz.prog 108 #[.pointer (some ⟨w.heap.size + 1, 0, none⟩)] W (NumPost w.heap.size (w.heap.size + 1) W (.int .u64 r2.num) r3)))
  have C4 := Lib.hid (fun (W : World) (h : RdAt w.heap.size W (w.heap.size + 1) r3) => (by have := number_calls _ _ _ _ h; rw [e6] at this; exact this : Calls Tryz.prog 108 #[.pointer (some ⟨w.heap.size + 1, 0, none⟩)] W (NumPost w.heap.size (w.heap.size + 1) W (.int .u64 r3.num) r4)))
  have C5 := Lib.hid (fun (W : World) (h : RdAt w.heap.size W (w.heap.size + 1) r4) => (by have := small_calls _ _ _ _ h; rw [e7] at this; exact this : Calls Tryz.prog 103 #[.pointer (some ⟨w.heap.size + 1, 0, none⟩)] W (NumPost w.heap.size (w.heap.size + 1) W (.int .i64 r4.small) r5)))
  have C6 := Lib.hid (fun (W : World) (h : RdAt w.heap.size W (w.heap.size + 1) r5) => (by have := small_calls _ _ _ _ h; rw [e8] at this; exact this : Calls Tryz.prog 103 #[.pointer (some ⟨w.heap.size + 1, 0, none⟩)] W (NumPost w.heap.size (w.heap.size + 1) W (.int .i64 r5.small) r6)))
  generalize r2.num = fl at *
  generalize r3.num = hd at *
  generalize r4.small = lg at *
  generalize r5.small = nx at *
  have hDec' := Lib.hid hDec
  clear e1 e2 e3 e4 e5 e6 e7 e8 C1 C2 hDec H0 hv hl
  go_enter Tryz.func61, Tryz.ntmps61
  go_wp2_with fail
  with_reducible refine C1'.out.mono ?_
  rintro x w1 ⟨rfl, hR1, hb1, av, hD1⟩
  have C2 := Lib.hid (C2'.out av w1 hR1 hD1 hb1)
  have hm := Lib.hid hD1.size
  obtain ⟨R, eR⟩ : ∃ R, w.heap.size + 1 = R := ⟨_, rfl⟩
  obtain ⟨E, eE⟩ : ∃ E, R + 1 = E := ⟨_, rfl⟩
  obtain ⟨SM, eS⟩ : ∃ SM, E + 1 = SM := ⟨_, rfl⟩
  obtain ⟨TX, eT⟩ : ∃ TX, SM + 1 = TX := ⟨_, rfl⟩
  rw [eR] at C2 C3 C4 C5 C6 ⊢
  rw [eE] at C2 ⊢
  rw [eS] at C2 ⊢
  rw [eT] at C2 ⊢
  clear hR1 hb1 hD1 C1' C2'
  clear eR eE eS eT hm
  go_wp2_with fail
  with_reducible refine C2.out.mono ?_
  rintro x w2 ⟨rfl, hR2, hb2, dv, hD2⟩
  have hD2 : DecAt w.heap.size w w2 R E SM TX w.heap.size av dv ⟨A, D, 0, 0, 0, 0⟩ := hD2
  have C := Lib.hid (C3.out w2 hR2)
  have hD := Lib.hid hD2
  have hB := Lib.hid hR2.blk
  have n1 : E ≠ SM := fun e => Blk.ne_ hD2.sm hD2.blk (by decide) e.symm
  have n2 : SM ≠ E := fun e => Blk.ne_ hD2.sm hD2.blk (by decide) e
  have n3 : E ≠ R := hD2.ne.1
  have n4 : R ≠ E := hD2.ne.1.symm
  clear hD2 hR2 hb2 C2 C3
  go_wp2_with fail
  with_reducible refine C.out.mono ?_
  rintro x w3 ⟨rfl, hR3, hK3⟩
  have hD3 := hD.out.rd hK3 hB.out
  have S := hD3.set_ hR3 2 (.int .u64 fl) ⟨A, D, fl, 0, 0, 0⟩ rfl rfl rfl
  obtain ⟨qc, qf⟩ := hD3.seesE
  clear hK3 C hD hB hD3 hR3
  have C := Lib.hid (C4.out _ S.2)
  have hD := Lib.hid S.1
  have hB := Lib.hid S.2.blk
  clear S C4
  go_wp2_with fail
  with_reducible refine C.out.mono ?_
  rintro x w4 ⟨rfl, hR4, hK4⟩
  have hD4 := hD.out.rd hK4 hB.out
  have S := hD4.set_ hR4 3 (.int .u64 hd) ⟨A, D, fl, hd, 0, 0⟩ rfl rfl rfl
  clear qc qf
  obtain ⟨qc, qf⟩ := hD4.seesE
  have qs := hD4.sees.2.1
  clear hK4 C hD hB hD4 hR4
  have C := Lib.hid (C5.out _ S.2)
  have hD := Lib.hid S.1
  have hB := Lib.hid S.2.blk
  clear S C5
  go_wp2_with fail
  with_reducible refine C.out.mono ?_
  rintro x w5 ⟨rfl, hR5, hK5⟩
  have hD5 := hD.out.rd hK5 hB.out
  have S := hD5.set_ hR5 4 (.int .i64 lg) ⟨A, D, fl, hd, lg, 0⟩ rfl rfl rfl
  clear qc qf qs
  obtain ⟨qc, qf⟩ := hD5.seesE
  have qs := hD5.sees.2.1
  clear hK5 C hD hB hD5 hR5
  have C := Lib.hid (C6.out _ S.2)
  have hD := Lib.hid S.1
  have hB := Lib.hid S.2.blk
  clear S C6
  go_wp2_with fail
  with_reducible refine C.out.mono ?_
  rintro x w6 ⟨rfl, hR6, hK6⟩
  have hD6 := hD.out.rd hK6 hB.out
  have S := hD6.set_ hR6 5 (.int .i64 nx) ⟨A, D, fl, hd, lg, nx⟩ rfl rfl rfl
  clear qc qf qs
  obtain ⟨qc, qf⟩ := hD6.seesE
  obtain ⟨p6, c6, q0, q1⟩ := hR6.seesR
  clear hK6 C hD hB hD6 hR6
  obtain ⟨pa, ca, rfl⟩ := S.1.add.slice
  obtain ⟨pd, cd, rfl⟩ := S.1.drop.slice
  have Sd := Lib.hid S.1
  have Sr := Lib.hid S.2
  dsimp only at qc
  clear S
  have hFin : finR r6 = if r6.l ≠ [] then r6.took 0 9 else r6 := rfl
  obtain ⟨L, hL⟩ : ∃ L, r6.l.length = L := ⟨_, rfl⟩
  rw [hL] at q0
  by_cases hl : r6.l = []
  · rw [if_neg (by simpa using hl)] at hFin
    rw [hFin] at hDec'
    have hL0 : L = 0 := by rw [← hL, hl]; rfl
    subst hL0
    by_cases he : r6.e = 0
    · have t1 : (r6.e != 0) = false := by simpa using he
      have hP : decodeE l = (⟨A, D, fl, hd, lg, nx⟩, 0) := by rw [hDec'.out, if_neg (by simpa using he)]
      have hP' := Lib.hid hP
      generalize r6.e = q at *
      clear hP hFin hL hl he hDec'
      have qz := fun i => Sd.out.z.cell i
      have qzf := fun i => Sd.out.z.frozen i
      go_wp2
      obtain ⟨W, eW, bZ, kZ⟩ := put_six rfl Sd.out.z (.slice pa A.length ca) (.slice pd D.length cd) (.int .u64 fl) (.int .u64 hd) (.int .i64 lg) (.int .i64 nx)
      rw [eW]
      have cz := bZ.cell
      refine bodyPost_ret (v := .tuple #[.agg #[.slice pa A.length ca, .slice pd D.length cd, .int .u64 fl, .int .u64 hd, .int .i64 lg, .int .i64 nx], .int .i64 0]) (by simp [results, Tryz.results61, go_sem, cz]) rfl ?_
      exact dec_good Sd.out kZ hP'.out
    · have t1 : (r6.e != 0) = true := by simpa using he
      have hP : decodeE l = (Edt.zero, r6.e) := by rw [hDec'.out, if_pos he]
      have hP' := Lib.hid hP
      have hBl := Sd.out.below
      have hZ := Sd.out.z
      have q1' : (w6.setCell ⟨E, 5, none⟩ (.int .i64 nx)).cell? ⟨R, 1, none⟩ = some (.int .i64 r6.e) := by
        obtain ⟨_, _, _, h⟩ := Sr.out.seesR; exact h
      obtain ⟨q, hq⟩ : ∃ q, r6.e = q := ⟨_, rfl⟩
      rw [hq] at t1 hP' q1 q1'
      have q1'' := Lib.hid q1'
      have hBl' := Lib.hid hBl
      have hZ' := Lib.hid hZ
      clear hP hFin hL hl he hDec' hBl hZ q1' hq
      go_wp2
      have qv := q1''.out
      obtain ⟨V, eV⟩ : ∃ V, w6.setCell ⟨E, 5, none⟩ (.int .i64 nx) = V := ⟨_, rfl⟩
      rw [eV] at qv hBl' hZ' ⊢
      have hRZ : R ≠ w.heap.size := Sd.out.nz.2.symm
      clear eV qc qf q0 q1
      refine wp_region_s (fun w' => w'.cell? ⟨R, 1, none⟩ = some (.int .i64 q)) [] [(true, 0), (true, 1), (true, 2), (true, 3), (true, 4), (false, 5), (true, 6)] (by kernel_rfl) (by kernel_rfl) (by kernel_rfl) (by kernel_rfl) (fun _ _ _ _ _ h => h) qv ?_
      refine wpS_take (v := ?_) rfl (.inl ⟨by rfl, fun w' hS => ?_⟩) ?_
      rotate_left
      · (try dsimp only at hS); go_simp; try with_reducible rfl
      simp only [Act.put, List.setIfInBounds_toArray, List.set_cons_zero, List.set_cons_succ]
      refine wpS_take (v := ?_) rfl (.inl ⟨by rfl, fun w' hS => ?_⟩) ?_
      rotate_left
      · (try dsimp only at hS); go_simp; try with_reducible rfl
      simp only [Act.put, List.setIfInBounds_toArray, List.set_cons_zero, List.set_cons_succ]
      refine wpS_take (v := ?_) rfl (.inl ⟨by rfl, fun w' hS => ?_⟩) ?_
      rotate_left
      · (try dsimp only at hS); go_simp; try with_reducible rfl
      simp only [Act.put, List.setIfInBounds_toArray, List.set_cons_zero, List.set_cons_succ]
      refine wpS_take (v := ?_) rfl (.inl ⟨by rfl, fun w' hS => ?_⟩) ?_
      rotate_left
      · (try dsimp only at hS); go_simp; try with_reducible rfl
      simp only [Act.put, List.setIfInBounds_toArray, List.set_cons_zero, List.set_cons_succ]
      refine wpS_take (v := ?_) rfl (.inl ⟨by rfl, fun w' hS => ?_⟩) ?_
      rotate_left
      · (try dsimp only at hS); go_simp; try with_reducible rfl
      simp only [Act.put, List.setIfInBounds_toArray, List.set_cons_zero, List.set_cons_succ]
      have hZd := hZ'.out.drew
      have qz := hZd.cell
      have qzf := hZd.frozen
      have hBd := Lib.hid (hBl'.out.drew)
      have qv : V.drew.cell? ⟨R, 1, none⟩ = some (.int .i64 q) := qv
      generalize V.drew = V' at *
      obtain ⟨W, eW, bZ, kZ⟩ := put_six rfl hZd (.slice none 0 0) (.slice none 0 0) (.int .u64 0) (.int .u64 0) (.int .i64 0) (.int .i64 0)
      refine wpS_go rfl ?_
      go_wp2
      (try rw [eW])
      have cz := bZ.cell
      have qR : W.cell? ⟨R, 1, none⟩ = some (.int .i64 q) := by rw [← qv]; exact World.cell?_of_block (kZ.block R (cell_lt qv) hRZ)
      refine ⟨by first | exact qR | exact fun _ => qR, ?_⟩
      refine wpS_take (v := ?_) rfl (.inl ⟨by rfl, fun w' hS => ?_⟩) ?_
      rotate_left
      · (try dsimp only at hS); go_simp; try with_reducible rfl
      simp only [Act.put, List.setIfInBounds_toArray, List.set_cons_zero, List.set_cons_succ]
      refine wpS_end ?_
      go_wp2
      refine bodyPost_ret (v := .tuple #[.agg #[.slice none 0 0, .slice none 0 0, .int .u64 0, .int .u64 0, .int .i64 0, .int .i64 0], .int .i64 q]) (by simp [results, Tryz.results61, go_sem, cz]) rfl ?_
      exact dec_bad hBd.out kZ hP'.out
  · rw [if_pos hl] at hFin
    have he : (r6.took 0 9).e ≠ 0 := by
      intro h; exact absurd (took_e h).2.1 (by decide)
    have t1 : ((r6.took 0 9).e != 0) = true := by simpa using he
    have hP : decodeE l = (Edt.zero, (r6.took 0 9).e) := by rw [hDec'.out, hFin, if_pos he]
    have hP' := Lib.hid hP
    have hL0 : (0 : Int) < (L : Int) := by
      have : 0 < r6.l.length := List.length_pos_iff.2 hl
      omega
    have T : Calls Tryz.prog 109 #[.pointer (some ⟨R, 0, none⟩), .int .i64 0, .int .i64 9] (w6.setCell ⟨E, 5, none⟩ (.int .i64 nx)) (TookPost w.heap.size R (w6.setCell ⟨E, 5, none⟩ (.int .i64 nx)) (r6.took 0 9)) := took_calls w.heap.size R r6 0 9 _ Sr.out (Nat.zero_le _)
    have T' := Lib.hid T
    obtain ⟨q, hq⟩ : ∃ q, (r6.took 0 9).e = q := ⟨_, rfl⟩
    rw [hq] at t1 hP'
    have hq' := Lib.hid hq
    clear hP hFin hL hl he hDec' T hq
    go_wp2_with fail
    with_reducible refine T'.out.mono ?_
    rintro x w7 ⟨rfl, hR7, hK7⟩
    have hD7 := Sd.out.rd hK7 Sr.out.blk
    obtain ⟨_, _, _, q1'⟩ := hR7.seesR
    rw [hq'.out] at q1'
    have hBl' := Lib.hid hD7.below
    have hZ' := Lib.hid hD7.z
    have hRZ' := Lib.hid hD7.nz.2.symm
    clear hR7 hK7 hD7 T' qc qf q0 q1
    go_wp2
    have qv : w7.drew.cell? ⟨R, 1, none⟩ = some (.int .i64 q) := q1'
    have hRZ := hRZ'.out
    obtain ⟨V, eV⟩ : ∃ V, w7 = V := ⟨_, rfl⟩
    rw [eV] at qv hBl' hZ' ⊢
    clear eV q1'
    refine wp_region_s (fun w' => w'.cell? ⟨R, 1, none⟩ = some (.int .i64 q)) [] [(true, 0), (true, 1), (true, 2), (true, 3), (true, 4), (false, 5), (true, 6)] (by kernel_rfl) (by kernel_rfl) (by kernel_rfl) (by kernel_rfl) (fun _ _ _ _ _ h => h) qv ?_
    refine wpS_take (v := ?_) rfl (.inl ⟨by rfl, fun w' hS => ?_⟩) ?_
    rotate_left
    · (try dsimp only at hS); go_simp; try with_reducible rfl
    simp only [Act.put, List.setIfInBounds_toArray, List.set_cons_zero, List.set_cons_succ]
    refine wpS_take (v := ?_) rfl (.inl ⟨by rfl, fun w' hS => ?_⟩) ?_
    rotate_left
    · (try dsimp only at hS); go_simp; try with_reducible rfl
    simp only [Act.put, List.setIfInBounds_toArray, List.set_cons_zero, List.set_cons_succ]
    refine wpS_take (v := ?_) rfl (.inl ⟨by rfl, fun w' hS => ?_⟩) ?_
    rotate_left
    · (try dsimp only at hS); go_simp; try with_reducible rfl
    simp only [Act.put, List.setIfInBounds_toArray, List.set_cons_zero, List.set_cons_succ]
    refine wpS_take (v := ?_) rfl (.inl ⟨by rfl, fun w' hS => ?_⟩) ?_
    rotate_left
    · (try dsimp only at hS); go_simp; try with_reducible rfl
    simp only [Act.put, List.setIfInBounds_toArray, List.set_cons_zero, List.set_cons_succ]
    refine wpS_take (v := ?_) rfl (.inl ⟨by rfl, fun w' hS => ?_⟩) ?_
    rotate_left
    · (try dsimp only at hS); go_simp; try with_reducible rfl
    simp only [Act.put, List.setIfInBounds_toArray, List.set_cons_zero, List.set_cons_succ]
    have hZd := hZ'.out.drew
    have qz := hZd.cell
    have qzf := hZd.frozen
    have hBd := Lib.hid (hBl'.out.drew)
    have qv : V.drew.cell? ⟨R, 1, none⟩ = some (.int .i64 q) := qv
    generalize V.drew = V' at *
    obtain ⟨W, eW, bZ, kZ⟩ := put_six rfl hZd (.slice none 0 0) (.slice none 0 0) (.int .u64 0) (.int .u64 0) (.int .i64 0) (.int .i64 0)
    refine wpS_go rfl ?_
    go_wp2
    (try rw [eW])
    have cz := bZ.cell
    have qR : W.cell? ⟨R, 1, none⟩ = some (.int .i64 q) := by rw [← qv]; exact World.cell?_of_block (kZ.block R (cell_lt qv) hRZ)
    refine ⟨by first | exact qR | exact fun _ => qR, ?_⟩
    refine wpS_take (v := ?_) rfl (.inl ⟨by rfl, fun w' hS => ?_⟩) ?_
    rotate_left
    · (try dsimp only at hS); go_simp; try with_reducible rfl
    simp only [Act.put, List.setIfInBounds_toArray, List.set_cons_zero, List.set_cons_succ]
    refine wpS_end ?_
    go_wp2
    refine bodyPost_ret (v := .tuple #[.agg #[.slice none 0 0, .slice none 0 0, .int .u64 0, .int .u64 0, .int .i64 0, .int .i64 0], .int .i64 q]) (by simp [results, Tryz.results61, go_sem, cz]) rfl ?_
    exact dec_bad hBd.out kZ hP'.out
end Go.Proofs.YtabcdodjkfknlaaGreatDoor
namespace Go.Proofs.YtabcdodjkfknlaaGreatDoor
open Go.RowKit
/-- an edit's numbers are the language's; no more tables, no more drops than n -/
structure Edt.good (e : Edt) (n : Nat) : Prop where
  add : e.add.length ≤ n
  drop : e.drop.length ≤ n
  lang : ∀ t ∈ e.add, t.lang
  langI : ∀ t ∈ e.drop, -9223372036854775808 ≤ t ∧ t < 9223372036854775808
  nums : e.floor < 18446744073709551616 ∧ e.head < 18446744073709551616 ∧ -9223372036854775808 ≤ e.log ∧ e.log < 9223372036854775808 ∧ -9223372036854775808 ≤ e.next ∧ e.next < 9223372036854775808
structure Ver.good (v : Ver) (n : Nat) : Prop where
  tables : v.tables.length ≤ n
  lang : ∀ t ∈ v.tables, t.lang
  nums : v.floor < 18446744073709551616 ∧ v.head < 18446744073709551616 ∧ -9223372036854775808 ≤ v.log ∧ v.log < 9223372036854775808 ∧ -9223372036854775808 ≤ v.next ∧ v.next < 9223372036854775808
theorem small_bd (r : Rdr) : 0 ≤ r.small ∧ r.small < 4611686018427387904 := by
  unfold Rdr.small
  split <;> omega
theorem tbl_lang (r : Rdr) : r.tbl.lang := by
  have h1 := small_bd r
  have h2 := small_bd r.smallR
  have h3 := small_bd r.smallR.smallR
  unfold Tbl.lang Rdr.tbl
  simp only
  omega
theorem many_mem {α : Type} {f : Rdr → Rdr} {g : Rdr → α} : ∀ {n : Nat} {r : Rdr} {x : α}, x ∈ Rdr.many f g n r → ∃ r', x = g r'
  | 0, r, x, h => by cases h
  | n + 1, r, x, h => by
    unfold Rdr.many at h
    split at h
    · cases h
    · rcases List.mem_cons.1 h with e | e
      · exact ⟨r, e⟩
      · exact many_mem e
theorem manyR_bad {f : Rdr → Rdr} {n : Nat} {r : Rdr} (h : r.e ≠ 0) : Rdr.manyR f n r = r := by
  cases n with
  | zero => rfl
  | succ n => unfold Rdr.manyR; rw [if_pos h]
theorem many_len {α : Type} {f : Rdr → Rdr} {g : Rdr → α} (hf : ∀ r, (f r).e = 0 → (f r).l.length < r.l.length) : ∀ {n : Nat} {r : Rdr}, (Rdr.manyR f n r).e = 0 → (Rdr.many f g n r).length + (Rdr.manyR f n r).l.length ≤ r.l.length ∧ r.e = 0
  | 0, r, h => ⟨by simp [Rdr.many, Rdr.manyR], h⟩
  | n + 1, r, h => by
    by_cases h0 : r.e ≠ 0
    · rw [manyR_bad h0] at h; exact absurd h h0
    · have h1 : Rdr.manyR f (n + 1) r = Rdr.manyR f n (f r) := by show (if r.e ≠ 0 then r else _) = _; rw [if_neg h0]
      have h2 : Rdr.many f g (n + 1) r = g r :: Rdr.many f g n (f r) := by show (if r.e ≠ 0 then [] else _) = _; rw [if_neg h0]
      rw [h1] at h ⊢
      rw [h2]
      obtain ⟨h3, h4⟩ := many_len (g := g) hf h
      have h5 := hf r h4
      refine ⟨by rw [List.length_cons]; omega, by simpa using h0⟩
theorem Edt.zero_good (n : Nat) : Edt.zero.good n := ⟨Nat.zero_le _, Nat.zero_le _, fun _ h => (by cases h), fun _ h => (by cases h), by decide⟩
theorem Ver.zero_good (n : Nat) : Ver.zero.good n := ⟨Nat.zero_le _, fun _ h => (by cases h), by decide⟩
theorem decodeE_good (l : List UInt8) : (decodeE l).1.good l.length := by
  obtain ⟨r0, h0⟩ : ∃ r0, Rdr.mk l 0 = r0 := ⟨_, rfl⟩
  obtain ⟨r1, h1⟩ : ∃ r1, r0.timesR Rdr.tblR = r1 := ⟨_, rfl⟩
  obtain ⟨r2, h2⟩ : ∃ r2, r1.timesR Rdr.smallR = r2 := ⟨_, rfl⟩
  have hl : r0.l.length = l.length := by rw [← h0]
  have hd : decodeE l = if (if r2.numR.numR.smallR.smallR.l ≠ [] then r2.numR.numR.smallR.smallR.took 0 9 else r2.numR.numR.smallR.smallR).e ≠ 0 then (Edt.zero, (if r2.numR.numR.smallR.smallR.l ≠ [] then r2.numR.numR.smallR.smallR.took 0 9 else r2.numR.numR.smallR.smallR).e) else (⟨r0.times Rdr.tblR Rdr.tbl, r1.times Rdr.smallR Rdr.small, r2.num, r2.numR.num, r2.numR.numR.small, r2.numR.numR.smallR.small⟩, 0) := by
    rw [← h2, ← h1, ← h0]; rfl
  rw [hd]
  obtain ⟨q, hq⟩ : ∃ q, (if r2.numR.numR.smallR.smallR.l ≠ [] then r2.numR.numR.smallR.smallR.took 0 9 else r2.numR.numR.smallR.smallR) = q := ⟨_, rfl⟩
  rw [hq]
  by_cases he : q.e ≠ 0
  · rw [if_pos he]; exact Edt.zero_good _
  · rw [if_neg he]
    rw [← hq] at he
    have he2 : r2.numR.numR.smallR.smallR.e = 0 := by
      by_cases hb : r2.numR.numR.smallR.smallR.l ≠ []
      · rw [if_pos hb] at he
        have he' : (r2.numR.numR.smallR.smallR.took 0 9).e = 0 := by simpa using he
        obtain ⟨_, h, _⟩ := took_e he'
        exact absurd h (by decide)
      · rw [if_neg hb] at he; simpa using he
    have e2 : r2.e = 0 := (numR_lt (numR_lt (smallR_lt (smallR_lt he2).1).1).1).1
    have e3 : (Rdr.manyR Rdr.smallR r1.num r1.numR).e = 0 := by rw [← h2] at e2; exact e2
    obtain ⟨a1, a2⟩ := many_len (f := Rdr.smallR) (g := Rdr.small) (fun r h => (smallR_lt h).2) e3
    have e1 : r1.e = 0 := (numR_lt a2).1
    have e4 : (Rdr.manyR Rdr.tblR r0.num r0.numR).e = 0 := by rw [← h1] at e1; exact e1
    obtain ⟨b1, b2⟩ := many_len (f := Rdr.tblR) (g := Rdr.tbl) (fun r h => tblR_lt h) e4
    have c1 := numR_le r0
    have c2 := numR_le r1
    have c3 : (Rdr.manyR Rdr.tblR r0.num r0.numR).l.length = r1.l.length := by rw [← h1]; rfl
    refine ⟨?_, ?_, ?_, ?_, ?_⟩
    · show (Rdr.many Rdr.tblR Rdr.tbl r0.num r0.numR).length ≤ _; omega
    · show (Rdr.many Rdr.smallR Rdr.small r1.num r1.numR).length ≤ _; omega
    · intro t ht
      obtain ⟨r', rfl⟩ := many_mem ht
      exact tbl_lang r'
    · intro t ht
      obtain ⟨r', rfl⟩ := many_mem ht
      have := small_bd r'
      omega
    · have f1 := num_lt r2
      have f2 := num_lt r2.numR
      have f3 := small_bd r2.numR.numR
      have f4 := small_bd r2.numR.numR.smallR
      show r2.num < _ ∧ r2.numR.num < _ ∧ _ ≤ r2.numR.numR.small ∧ r2.numR.numR.small < _ ∧ _ ≤ r2.numR.numR.smallR.small ∧ r2.numR.numR.smallR.small < _
      omega
theorem insT_perm : ∀ (s : List Tbl) (t : Tbl), (insT s t).Perm (t :: s)
  | [], t => List.Perm.refl _
  | u :: s, t => by
    unfold insT
    split
    · exact (List.Perm.cons u (insT_perm s t)).trans (List.Perm.swap _ _ _)
    · exact List.Perm.refl _
theorem foldT_perm : ∀ (l s : List Tbl), (l.foldl insT s).Perm (s ++ l)
  | [], s => by simp
  | t :: l, s => (foldT_perm l (insT s t)).trans (((insT_perm s t).append_right l).trans List.perm_middle.symm)
theorem sortT_perm (l : List Tbl) : (sortT l).Perm l := foldT_perm l []
theorem dropT_sub : ∀ {ns : List Int} {l l' : List Tbl}, dropT l ns = some l' → l'.length ≤ l.length ∧ ∀ t ∈ l', t ∈ l
  | [], l, l', h => by obtain rfl := Option.some.inj h; exact ⟨Nat.le_refl _, fun _ h => h⟩
  | n :: ns, l, l', h => by
    unfold dropT at h
    split at h
    · obtain ⟨h1, h2⟩ := dropT_sub h
      exact ⟨Nat.le_trans h1 (List.length_filter_le _ _), fun t ht => (List.mem_filter.1 (h2 t ht)).1⟩
    · cases h
theorem addT_eq : ∀ {ts l l' : List Tbl}, addT l ts = some l' → l' = l ++ ts
  | [], l, l', h => by obtain rfl := Option.some.inj h; simp
  | t :: ts, l, l', h => by
    unfold addT at h
    split at h
    · cases h
    · rw [addT_eq h, List.append_assoc]; rfl
theorem applyV_good {v : Ver} {e : Edt} {n m : Nat} (hv : v.good n) (he : e.good m) : (applyV v e).1.good (n + m) := by
  unfold applyV
  split
  · exact Ver.zero_good _
  · split
    · exact Ver.zero_good _
    · split
      · exact Ver.zero_good _
      · rename_i l hd
        split
        · exact Ver.zero_good _
        · rename_i l' ha
          split
          · exact Ver.zero_good _
          · obtain ⟨d1, d2⟩ := dropT_sub hd
            obtain rfl := addT_eq ha
            have hp := sortT_perm (l ++ e.add)
            obtain ⟨a1, a2, a3, a4, a5, a6⟩ := hv.nums
            obtain ⟨b1, b2, b3, b4, b5, b6⟩ := he.nums
            refine ⟨?_, ?_, ?_⟩
            · show (sortT (l ++ e.add)).length ≤ _
              rw [hp.length_eq, List.length_append]
              have := hv.tables
              have := he.add
              omega
            · intro t ht
              rcases List.mem_append.1 (hp.mem_iff.1 ht) with h | h
              · exact hv.lang t (d2 t h)
              · exact he.lang t h
            · show max v.floor e.floor < _ ∧ max v.head e.head < _ ∧ _ ≤ max v.log e.log ∧ max v.log e.log < _ ∧ _ ≤ max v.next e.next ∧ max v.next e.next < _
              omega
theorem nextL_len {b : List UInt8} (h : (nextL b).1 = 0) : 8 + (nextL b).2.length ≤ b.length := by
  unfold nextL at h ⊢
  split at h
  · cases h
  · rename_i h1
    rw [if_neg h1]
    split at h
    · cases h
    · rename_i h2
      rw [if_neg h2]
      show 8 + ((b.drop 8).take (rd32 b)).length ≤ _
      rw [List.length_take, List.length_drop]
      omega
end Go.Proofs.YtabcdodjkfknlaaGreatDoor
namespace Go.Proofs.YtabcdodjkfknlaaGreatDoor
open Go.RowKit
def fkind (k : UInt8) : Bool := k == 116 || k == 119 || k == 109
def fname (k : UInt8) (n : Nat) : List UInt8 := if fkind k = true ∧ 1 ≤ n ∧ n ≤ 999999999 then k :: 45 :: Lib.decDigits n else []
/-- the number that digits tell -/
def numL (l : List UInt8) : Nat := l.foldl (fun n d => n * 10 + (d.toNat - 48)) 0
theorem numL_snoc (l : List UInt8) (d : UInt8) : numL (l ++ [d]) = numL l * 10 + (d.toNat - 48) := by
  unfold numL; rw [List.foldl_append]; rfl
theorem digit_nat (k : Nat) (h : k < 10) : (UInt8.ofNat (48 + k)).toNat - 48 = k := by
  rw [UInt8.toNat_ofNat', Nat.mod_eq_of_lt (by omega)]; omega
theorem numL_dec (u : Nat) : numL (Lib.decDigits u) = u := by
  induction u using Nat.strongRecOn with
  | ind u ih =>
    unfold Lib.decDigits
    split
    · rename_i h
      show numL ([] ++ [_]) = u
      rw [numL_snoc, digit_nat u h]
      show 0 * 10 + u = u
      omega
    · rw [numL_snoc, ih (u / 10) (by omega), digit_nat _ (Nat.mod_lt _ (by omega))]
      omega
/-- the kind and the number that a name tells -/
def fnum (l : List UInt8) : Option (UInt8 × Nat) := match l with
  | k :: 45 :: ds => if fname k (numL ds) = l then some (k, numL ds) else none
  | _ => none
/-- any way to read a name that gives it back is this one -/
theorem fnum_of {l : List UInt8} {k : UInt8} {n : Nat} (h : fname k n = l) (hl : l ≠ []) : fnum l = some (k, n) := by
  have e : fkind k = true ∧ 1 ≤ n ∧ n ≤ 999999999 := by
    by_cases e : fkind k = true ∧ 1 ≤ n ∧ n ≤ 999999999
    · exact e
    · unfold fname at h; rw [if_neg e] at h; exact absurd h.symm hl
  have h2 : l = k :: 45 :: Lib.decDigits n := by unfold fname at h; rw [if_pos e] at h; exact h.symm
  subst h2
  show (if fname k (numL (Lib.decDigits n)) = _ then _ else _) = _
  rw [numL_dec, if_pos h]
theorem fnum_back {l : List UInt8} {k : UInt8} {n : Nat} (h : fnum l = some (k, n)) : fname k n = l ∧ l ≠ [] := by
  unfold fnum at h
  split at h
  · rename_i k' ds
    split at h
    · rename_i e
      cases h
      exact ⟨e, by simp⟩
    · cases h
  · cases h
end Go.Proofs.YtabcdodjkfknlaaGreatDoor
namespace Go.Proofs.YtabcdodjkfknlaaGreatDoor
open Go.RowKit
/-- a library's error stands in a block -/
def ErrIn (g : Nat) (w : World) : Prop := ∃ ev, w.cell? ⟨g, 0, none⟩ = some ev ∧ (ev = .nilIface ∨ ∃ te pe, ev = .iface te pe)
/-- a world in which the library's variables stand -/
structure StdF (w : World) : Prop where
  tb : Lib.TabBelow Tryz.prog w.heap.size w "internal/strconv.uint64pow10" .u64 Lib.pow10Tab
  mx : ∃ m, w.cell? ⟨0, 0, none⟩ = some (.int .i64 m)
  er : ErrIn 2 w
  sy : ErrIn 1 w
theorem cellF_lt {w : World} {g i : Nat} {v : Value} (h : w.cell? ⟨g, i, none⟩ = some v) : g < w.heap.size := by
  rcases Nat.lt_or_ge g w.heap.size with hl | hl
  · exact hl
  · have : w.heap[g]? = none := Array.getElem?_eq_none hl
    simp [World.cell?, this] at h
theorem StdF.next {w w' : World} (h : StdF w) (hb : Below w.heap.size w w') : StdF w' := by
  obtain ⟨h1, ⟨m, h2⟩, ⟨e1, h3, h4⟩, ⟨e2, h5, h6⟩⟩ := h
  exact ⟨fun w2 h => h1 w2 (hb.trans (h.mono hb.size)), ⟨m, (hb.cell (cellF_lt h2)).trans h2⟩, ⟨e1, (hb.cell (cellF_lt h3)).trans h3, h4⟩, ⟨e2, (hb.cell (cellF_lt h5)).trans h5, h6⟩⟩
theorem StdF.tab {w : World} (h : StdF w) : Lib.TabIs Tryz.prog w "internal/strconv.uint64pow10" .u64 Lib.pow10Tab := h.tb w (Below.refl _ _)
theorem itoa_nat (n : Nat) : Lib.itoa (n : Int) = Lib.decDigits n := by
  unfold Lib.itoa
  rw [if_neg (by omega)]
  rfl
theorem dec_len (b : Nat) : ∀ m : Nat, m < 10 ^ (b + 1) → (Lib.decDigits m).length ≤ b + 1 := by
  induction b with
  | zero => intro m hm; rw [Lib.decDigits, dif_pos (by omega)]; simp
  | succ b ih =>
    intro m hm
    rw [Lib.decDigits]
    by_cases h : m < 10
    · rw [dif_pos h]; simp
    · rw [dif_neg h, List.length_append]
      have := ih (m / 10) (by omega)
      simp; omega
theorem itoa_calls (n : Nat) (w : World) (hn : n ≤ 999999999) (hs : StdF w) :
    Calls Tryz.prog 37 #[.int .i64 n] w fun e w' => e = .returned (.string ⟨(Lib.decDigits n).toArray⟩) ∧ Below w.heap.size w w' := by
  have P := Tryz.strconv_Itoa n (by omega) (by omega) w hs.tab
  rw [itoa_nat] at P
  refine P.mono ?_
  rintro e w1 ⟨rfl, k, os, rfl⟩
  exact ⟨rfl, Lib.below_grow w.heap.size w (Nat.le_refl _) k os⟩
theorem idx_kind (k : UInt8) : Lib.indexByte [116, 119, 109] k < 0 ↔ fkind k = false := by
  unfold fkind
  by_cases h1 : k = 116
  · subst h1; decide
  · by_cases h2 : k = 119
    · subst h2; decide
    · by_cases h3 : k = 109
      · subst h3; decide
      · have e1 : ((116 : UInt8) == k) = false := by simpa using fun h : (116 : UInt8) = k => h1 h.symm
        have e2 : ((119 : UInt8) == k) = false := by simpa using fun h : (119 : UInt8) = k => h2 h.symm
        have e3 : ((109 : UInt8) == k) = false := by simpa using fun h : (109 : UInt8) = k => h3 h.symm
        simp [Lib.indexByte, e1, e2, e3, h1, h2, h3]
theorem idx_calls (k : UInt8) (w : World) : Calls Tryz.prog 36 #[.string ⟨#[116, 119, 109]⟩, .int .u8 k.toNat] w fun e w' => e = .returned (.int .i64 (Lib.indexByte [116, 119, 109] k)) ∧ w = w' := by
  refine (Tryz.strings_IndexByte ⟨#[116, 119, 109]⟩ k.toNat w).mono ?_
  rintro e w' ⟨rfl, rfl⟩
  have : ((k.toNat : Int).toNat.toUInt8) = k := by simp
  rw [this]
  exact ⟨rfl, rfl⟩
set_option maxHeartbeats 1000000 in
set_option maxRecDepth 100000 in
theorem name116 (j : Int) (m : Nat) (D E : ByteArray) (w : World) (hI : Calls Tryz.prog 36 #[.string ⟨#[116, 119, 109]⟩, .int .u8 116] w fun e w' => e = .returned (.int .i64 j) ∧ w = w')
    (hT : Hid (Calls Tryz.prog 37 #[.int .i64 m] w fun e w' => e = .returned (.string D) ∧ Below w.heap.size w w')) (hsz : D.size ≤ 9) (t1 : ¬ j < 0) (t2 : ¬ (m : Int) < 1) (t3 : ¬ 999999999 < (m : Int)) (hcat : (⟨#[116]⟩ : ByteArray) ++ ⟨#[45]⟩ ++ D = E) :
    Calls Tryz.prog 11 #[.int .u8 116, .int .i64 m] w fun e w' => e = .returned (.string E) ∧ Below w.heap.size w w' := by
  have hI3 := Lib.hid hI
  have hcat' := Lib.hid hcat
  have he : Utf8.encode 116 = ⟨#[116]⟩ := by kernel_rfl
  clear hI hcat
  go_enter Tryz.func11, Tryz.ntmps11
  go_wp2_with (first
    | (go_at_call 36; ((with_reducible refine hI3.out.mono ?_); rintro e w1 ⟨rfl, rfl⟩))
    | (go_at_call 37; ((with_reducible refine hT.out.mono ?_); rintro e w2 ⟨rfl, hb2⟩; have hb2' := Lib.hid hb2; clear hb2)))
  go_ret
  exact ⟨by rw [← hcat'.out]; rfl, hb2'.out⟩
set_option maxHeartbeats 1000000 in
set_option maxRecDepth 100000 in
theorem name119 (j : Int) (m : Nat) (D E : ByteArray) (w : World) (hI : Calls Tryz.prog 36 #[.string ⟨#[116, 119, 109]⟩, .int .u8 119] w fun e w' => e = .returned (.int .i64 j) ∧ w = w')
    (hT : Hid (Calls Tryz.prog 37 #[.int .i64 m] w fun e w' => e = .returned (.string D) ∧ Below w.heap.size w w')) (hsz : D.size ≤ 9) (t1 : ¬ j < 0) (t2 : ¬ (m : Int) < 1) (t3 : ¬ 999999999 < (m : Int)) (hcat : (⟨#[119]⟩ : ByteArray) ++ ⟨#[45]⟩ ++ D = E) :
    Calls Tryz.prog 11 #[.int .u8 119, .int .i64 m] w fun e w' => e = .returned (.string E) ∧ Below w.heap.size w w' := by
  have hI3 := Lib.hid hI
  have hcat' := Lib.hid hcat
  have he : Utf8.encode 119 = ⟨#[119]⟩ := by kernel_rfl
  clear hI hcat
  go_enter Tryz.func11, Tryz.ntmps11
  go_wp2_with (first
    | (go_at_call 36; ((with_reducible refine hI3.out.mono ?_); rintro e w1 ⟨rfl, rfl⟩))
    | (go_at_call 37; ((with_reducible refine hT.out.mono ?_); rintro e w2 ⟨rfl, hb2⟩; have hb2' := Lib.hid hb2; clear hb2)))
  go_ret
  exact ⟨by rw [← hcat'.out]; rfl, hb2'.out⟩
set_option maxHeartbeats 1000000 in
set_option maxRecDepth 100000 in
theorem name109 (j : Int) (m : Nat) (D E : ByteArray) (w : World) (hI : Calls Tryz.prog 36 #[.string ⟨#[116, 119, 109]⟩, .int .u8 109] w fun e w' => e = .returned (.int .i64 j) ∧ w = w')
    (hT : Hid (Calls Tryz.prog 37 #[.int .i64 m] w fun e w' => e = .returned (.string D) ∧ Below w.heap.size w w')) (hsz : D.size ≤ 9) (t1 : ¬ j < 0) (t2 : ¬ (m : Int) < 1) (t3 : ¬ 999999999 < (m : Int)) (hcat : (⟨#[109]⟩ : ByteArray) ++ ⟨#[45]⟩ ++ D = E) :
    Calls Tryz.prog 11 #[.int .u8 109, .int .i64 m] w fun e w' => e = .returned (.string E) ∧ Below w.heap.size w w' := by
  have hI3 := Lib.hid hI
  have hcat' := Lib.hid hcat
  have he : Utf8.encode 109 = ⟨#[109]⟩ := by kernel_rfl
  clear hI hcat
  go_enter Tryz.func11, Tryz.ntmps11
  go_wp2_with (first
    | (go_at_call 36; ((with_reducible refine hI3.out.mono ?_); rintro e w1 ⟨rfl, rfl⟩))
    | (go_at_call 37; ((with_reducible refine hT.out.mono ?_); rintro e w2 ⟨rfl, hb2⟩; have hb2' := Lib.hid hb2; clear hb2)))
  go_ret
  exact ⟨by rw [← hcat'.out]; rfl, hb2'.out⟩
set_option maxHeartbeats 1000000 in
set_option maxRecDepth 100000 in
theorem name_calls (k : UInt8) (n : Int) (w : World) (h1 : -9223372036854775808 ≤ n) (h2 : n < 9223372036854775808) (hs : StdF w) :
    Calls Tryz.prog 11 #[.int .u8 k.toNat, .int .i64 n] w fun e w' => e = .returned (.string ⟨(fname k n.toNat).toArray⟩) ∧ Below w.heap.size w w' := by
  have hI := idx_calls k w
  have hk := idx_kind k
  obtain ⟨j, hj⟩ : ∃ j, Lib.indexByte [116, 119, 109] k = j := ⟨_, rfl⟩
  rw [hj] at hI hk
  have hI' := Lib.hid hI
  clear hI
  by_cases hbad : fkind k = false ∨ n < 1 ∨ 999999999 < n
  · have hf : fname k n.toNat = [] := by
      unfold fname
      rw [if_neg]
      rintro ⟨a, b, c⟩
      rw [a] at hbad
      rcases hbad with h | h | h
      · cases h
      · omega
      · omega
    rw [hf]
    clear hf hj
    by_cases ha : fkind k = false
    · have t1 : j < 0 := hk.2 ha
      clear hbad hk ha
      go_enter Tryz.func11, Tryz.ntmps11
      go_wp2_with (go_at_call 36; ((with_reducible refine hI'.out.mono ?_); rintro e w1 ⟨rfl, rfl⟩))
      go_ret
      exact ⟨rfl, Below.refl _ _⟩
    · have t1 : ¬ j < 0 := fun h => ha (hk.1 h)
      clear hk
      by_cases hb : n < 1
      · clear hbad ha
        go_enter Tryz.func11, Tryz.ntmps11
        go_wp2_with (go_at_call 36; ((with_reducible refine hI'.out.mono ?_); rintro e w1 ⟨rfl, rfl⟩))
        go_ret
        exact ⟨rfl, Below.refl _ _⟩
      · have t2 : 999999999 < n := by
          rcases hbad with h | h | h
          · exact absurd h ha
          · exact absurd h hb
          · exact h
        clear hbad ha
        go_enter Tryz.func11, Tryz.ntmps11
        go_wp2_with (go_at_call 36; ((with_reducible refine hI'.out.mono ?_); rintro e w1 ⟨rfl, rfl⟩))
        go_ret
        exact ⟨rfl, Below.refl _ _⟩
  · have ha : fkind k = true := by cases h : fkind k with | true => rfl | false => exact absurd (.inl h) hbad
    have hb : 1 ≤ n ∧ n ≤ 999999999 := by omega
    obtain ⟨m, rfl⟩ : ∃ m : Nat, n = (m : Int) := ⟨n.toNat, by omega⟩
    have t1 : ¬ j < 0 := fun h => by have := hk.1 h; rw [ha] at this; cases this
    have t2 : ¬ (m : Int) < 1 := by omega
    have t3 : ¬ 999999999 < (m : Int) := by omega
    have hf : fname k (m : Int).toNat = k :: 45 :: Lib.decDigits m := by
      unfold fname; rw [if_pos ⟨ha, by omega, by omega⟩]; rfl
    have hlen := dec_len 8 m (by omega)
    have hT := Lib.hid (itoa_calls m w (by omega) hs)
    have hsz : (⟨(Lib.decDigits m).toArray⟩ : ByteArray).size ≤ 9 := by rw [Lib.size_eq]; exact hlen
    rw [hf]
    have hcat : (⟨#[k]⟩ : ByteArray) ++ ⟨#[45]⟩ ++ ⟨(Lib.decDigits m).toArray⟩ = ⟨(k :: 45 :: Lib.decDigits m).toArray⟩ := by
      apply bytes_ext; simp
    generalize (⟨(Lib.decDigits m).toArray⟩ : ByteArray) = D at *
    have hcat' := Lib.hid hcat
    have hk3 : k = 116 ∨ k = 119 ∨ k = 109 := by
      unfold fkind at ha
      simp only [Bool.or_eq_true, beq_iff_eq] at ha
      rcases ha with (h | h) | h
      · exact .inl h
      · exact .inr (.inl h)
      · exact .inr (.inr h)
    clear hcat hf hlen hj hk ha hbad
    rcases hk3 with rfl | rfl | rfl
    · exact name116 j m D _ w hI'.out hT hsz t1 t2 t3 hcat'.out
    · exact name119 j m D _ w hI'.out hT hsz t1 t2 t3 hcat'.out
    · exact name109 j m D _ w hI'.out hT hsz t1 t2 t3 hcat'.out
end Go.Proofs.YtabcdodjkfknlaaGreatDoor
