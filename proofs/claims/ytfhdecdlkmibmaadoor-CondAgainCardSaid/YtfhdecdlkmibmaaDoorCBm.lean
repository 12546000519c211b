/- Walks: conditions: the writer: parts behind something wrong; a sum, a difference, a product. -/
import Derived.Test.YtfhdecdlkmibmaaDoorCBl
namespace Go.Proofs.YtfhdecdlkmibmaaDoor
open Go.RowKit
set_option maxHeartbeats 2000000 in
set_option maxRecDepth 100000 in
theorem parts_odd (n : Nat) (w0 : World) (b : Nat) (least : Int) (deep : Int) (w : World) (l : List UInt8) (p : Option Addr) (c : Nat) (ps : List CT) (ds : List Value) (btw : ByteArray) (hn : ps.length = n)
    (hrow : RowV w0 (.slice p n c) n ds) (hp : ∀ (i : Nat) (q : CT), ps[i]? = some q → CV w0 ((ds.drop (i * 4)).take 4) q) (hb0 : Below w0.heap.size w0 w) (h : WrAt w0.heap.size b w l deep true) :
    Calls Tryd.prog 36 #[.pointer (some ⟨b, 0, none⟩), .slice p n c, .string btw, .int .i64 least] w (WOdd 0 w0.heap.size b w l) := by
  have hmax := hrow.1
  unfold maxLen at hmax
  have hrow' := Lib.hid hrow
  have hp' := Lib.hid hp
  have hn' := Lib.hid hn
  have hb0' := Lib.hid hb0
  have h' := Lib.hid h
  clear hrow hp hn hb0 h
  go_enter Tryd.func36, Tryd.ntmps36
  go_wp2_with fail
  go_loopg [12] 0 (fun _ i wr => i = .int .i64 0 ∧ w = wr)
  case atStart => exact ⟨rfl, rfl⟩
  case round =>
    obtain ⟨rfl, rfl⟩ := hrel
    by_cases hlt : 0 < n
    · obtain ⟨q, hqq⟩ : ∃ q, ps[0]? = some q := ⟨_, List.getElem?_eq_getElem (by rw [hn'.out]; exact hlt)⟩
      obtain ⟨g, o, rfl, hc1, hcell⟩ := (hrow'.out.below hb0'.out).cell (by omega)
      obtain ⟨kq, mq, aq, pq, cq, Rq, -, lg, x0, x1, x2, x3⟩ := CV.part hcell hqq ((hp'.out 0 _ hqq).later hb0'.out)
      have hb3 := (Below.refl w.heap.size w).alloc (Nat.le_refl _) (.cells #[.int .i64 kq, .int .i64 mq, .string aq, .slice pq q.parts.length cq] 25)
      obtain ⟨w3, e3⟩ : ∃ w3, w.alloc (.cells #[.int .i64 kq, .int .i64 mq, .string aq, .slice pq q.parts.length cq] 25) = w3 := ⟨_, rfl⟩
      rw [e3] at hb3
      have hW3 := h'.out.later hb3
      obtain ⟨f2, f3, ff⟩ := hW3.flag
      have hW3' := Lib.hid hW3
      have hb3' := Lib.hid hb3
      have hl0 : (0 : Int) < (n : Int) := by omega
      clear hcell Rq hqq hW3 hb3
      rw [Nat.zero_mul, Nat.add_zero] at x0 x1 x2 x3
      go_wp2_with fail
      go_end0
      exact ⟨rfl, WKeeps.of_below hb3'.out, l, deep, Nat.le_refl _, hW3'.out⟩
    · have hl0 : ¬ (0 : Int) < (n : Int) := by omega
      obtain rfl : n = 0 := by omega
      go_wp2_with fail
      go_end0
      exact ⟨rfl, WKeeps.refl _ _ _, l, deep, Nat.le_refl _, h'.out⟩
/-- one part of a condition: its cells, as they lie, and as they are read anywhere later -/
theorem CV.part_at {w0 : World} {ps : List CT} {p : Option Addr} {c i : Nat} {ds : List Value} {q : CT} (hrow : RowV w0 (.slice p ps.length c) ps.length ds) (hp : ∀ (i : Nat) (q : CT), ps[i]? = some q → CV w0 ((ds.drop (i * 4)).take 4) q) (hq : ps[i]? = some q) :
    ∃ (g o : Nat) (k m : Int) (a : ByteArray) (pq : Option Addr) (cq : Nat), p = some ⟨g, o, none⟩ ∧ ps.length ≤ c ∧ CV w0 [.int .i64 k, .int .i64 m, .string a, .slice pq q.parts.length cq] q ∧ q.kind = k ∧ ∀ w, Below w0.heap.size w0 w → w.cell? ⟨g, o + i * 4, none⟩ = some (.int .i64 k) ∧ w.cell? ⟨g, o + i * 4 + 1, none⟩ = some (.int .i64 m) ∧ w.cell? ⟨g, o + i * 4 + 2, none⟩ = some (.string a) ∧ w.cell? ⟨g, o + i * 4 + 3, none⟩ = some (.slice pq q.parts.length cq) := by
  have hi := (List.getElem?_eq_some_iff.1 hq).1
  obtain ⟨g, o, rfl, hc, hcell⟩ := hrow.cell (by omega)
  obtain ⟨k, m, a, pq, cq, R, hqf, lg, x0, x1, x2, x3⟩ := CV.part hcell hq (hp i q hq)
  refine ⟨g, o, k, m, a, pq, cq, rfl, hc, R, by rw [hqf]; rfl, fun w hb => ⟨?_, ?_, ?_, ?_⟩⟩
  · rw [hb.cell (p := ⟨g, o + i * 4, none⟩) lg]; exact x0
  · rw [hb.cell (p := ⟨g, o + i * 4 + 1, none⟩) lg]; exact x1
  · rw [hb.cell (p := ⟨g, o + i * 4 + 2, none⟩) lg]; exact x2
  · rw [hb.cell (p := ⟨g, o + i * 4 + 3, none⟩) lg]; exact x3
theorem two_text {cond : Wr} {d l1 l2 : Nat} {sep : List Piece} {a b : CT} : textO (twoW cond d l1 l2 sep [a, b]) = match textO (partW cond d l1 a) with
    | none => none
    | some x => (textO (partW cond d l2 b)).map fun y => x ++ textP sep ++ y := by
  show (match partW cond d l1 a with | none => none | some x => (partW cond d l2 b).map fun y => x ++ sep ++ y).map textP = match (partW cond d l1 a).map textP with | none => none | some x => ((partW cond d l2 b).map textP).map fun y => x ++ textP sep ++ y
  cases partW cond d l1 a with
  | none => rfl
  | some x =>
    cases partW cond d l2 b with
    | none => rfl
    | some y =>
      show some (textP (x ++ sep ++ y)) = some (textP x ++ textP sep ++ textP y)
      rw [textP_app, textP_app]
set_option maxHeartbeats 4000000 in
set_option maxRecDepth 100000 in
theorem reckoned_12 (r q1 q2 : CT) (hk : r.kind = 12) (hps : r.parts = [q1, q2]) (h1 : PartOK q1) (h2 : PartOK q2) (w0 : World) (b d f : Nat) (deep : Int) (w : World) (l : List UInt8) (cs : List Value) (hd : d ≤ 8) (hdp : deep = 8 - (d : Int)) (hf1 : q1.size ≤ f) (hf2 : q2.size ≤ f) (hq : CV w0 cs r) (hb0 : Below w0.heap.size w0 w) (hz0 : w0.heap.size ≤ w.heap.size) (htb : Tb w0.heap.size w0) (h : WrAt w0.heap.size b w l deep false) (hln : l.length + r.cw ≤ 1000000000) (hcw : r.cw ≤ 1000000) :
    Calls Tryd.prog 39 #[.pointer (some ⟨b, 0, none⟩), .agg cs.toArray] w (WSaid (textO (twoW (condW f) d 5 6 (spc (mk [43])) [q1, q2])) r.cw w0.heap.size b w l deep) := by
  have hcr := cw_node r
  rw [hps, cwL_cons, cwL_cons, cwL_nil] at hcr
  have hcr1 : q1.cw + q2.cw + 16 ≤ r.cw := by omega
  obtain ⟨k, m, a, p, c, ds, rfl, hrf, hrow, -, hp⟩ := hq.form
  obtain rfl : k = 12 := by rw [hrf] at hk; exact hk
  have hpl : r.parts.length = 2 := by rw [hps]; rfl
  obtain ⟨g, o, k1, m1, a1, p1, c1, rfl, hc1, R1, -, X1⟩ := CV.part_at hrow hp (i := 0) (q := q1) (by rw [hps]; rfl)
  obtain ⟨g', o', k2, m2, a2, p2, c2, e2, -, R2, -, X2⟩ := CV.part_at hrow hp (i := 1) (q := q2) (by rw [hps]; rfl)
  obtain ⟨rfl, rfl⟩ : g' = g ∧ o' = o := by injection e2 with e; injection e with e1 e2; exact ⟨e1.symm, e2.symm⟩
  have hbl := h.lt
  have hb := (Below.refl w.heap.size w).alloc (Nat.le_refl _) (.cells #[.int .i64 12, .int .i64 m, .string a, .slice (some ⟨g', o', none⟩) r.parts.length c] 25)
  have hbx := Blk.new w 25 #[.int .i64 12, .int .i64 m, .string a, .slice (some ⟨g', o', none⟩) r.parts.length c]
  have hz1 := alloc_size w (.cells #[.int .i64 12, .int .i64 m, .string a, .slice (some ⟨g', o', none⟩) r.parts.length c] 25)
  rw [hpl] at hb hbx hz1 ⊢
  obtain ⟨w1, e1⟩ : ∃ w1, w.alloc (.cells #[.int .i64 12, .int .i64 m, .string a, .slice (some ⟨g', o', none⟩) 2 c] 25) = w1 := ⟨_, rfl⟩
  rw [e1] at hb hbx hz1
  have hw1 := Lib.hid (h.later hb)
  have hk1 := Lib.hid (WKeeps.of_below (B := w0.heap.size) (b := b) hb)
  have hb1 := Lib.hid (hb0.trans (hb.mono hz0))
  have x1 := Blk.cell hbx
  have hbx' := Lib.hid hbx
  have hz1' := Lib.hid hz1
  have hne : w.heap.size ≠ b := Nat.ne_of_gt hbl
  have Y1 := X1 w1 hb1.out
  obtain ⟨y0, y1, y2, y3⟩ := Y1
  rw [Nat.zero_mul, Nat.add_zero] at y0 y1 y2 y3
  have X2' := Lib.hid X2
  have hps' := Lib.hid hps
  have D := Lib.hid (h1 w0 b d f 5 deep w1 l _ hd hdp (by omega) hf1 R1 hb1.out (by omega) htb hw1.out (by omega) (by omega))
  have D2 := Lib.hid (fun (w : World) (l : List UInt8) hb hz h hl => h2 w0 b d f 6 deep w l _ hd hdp (by omega) hf2 R2 hb hz htb h hl (by omega))
  have O2 := Lib.hid (fun (w : World) (l : List UInt8) (dd : Int) hb hz h hl => part_odd w0 b w l _ q2 dd 6 R2 hb hz h hl)
  clear h h1 h2 hb hbx hz1 hb0 hrow hp R1 R2 X1 X2 hq hrf hk hcr hps hdp htb hpl e2
  go_enter Tryd.func39, Tryd.ntmps39
  go_wp2_with fail
  refine D.out.mono ?_
  rintro e w2 ⟨rfl, hk2, l2, d2, hl2, hcase⟩
  have hz2 := hk2.size
  have hz1b := hz1'.out
  have hk2' := Lib.hid (hk1.out.trans hk2)
  have hb2 := hb1.out.trans (hk2.below (by omega))
  have hb2' := Lib.hid hb2
  have hbx2 := Lib.hid (hbx'.out.wkeeps hk2 (by decide) hne)
  clear hk2 hb2 x1 y0 y1 y2 y3 D e1
  rcases hcase with ⟨x, hx, hlx, hW2⟩ | ⟨hx, hW2⟩
  · have hx' := Lib.hid hx
    have hlx' := Lib.hid hlx
    have S := Lib.hid (wstr_calls w0.heap.size b w2 l2 deep false ⟨#[32, 43, 32]⟩ hW2 (by show l2.length + 3 ≤ _; omega) (by omega))
    clear hx hlx hW2
    go_wp2_with fail
    refine S.out.mono ?_
    rintro e w3 ⟨rfl, hW3, hk3⟩
    have hz3 := hk3.size
    have hb3 := hb2'.out.trans (hk3.below (by omega))
    have hbx3 := hbx2.out.wkeeps hk3 (by decide) hne
    have x3 := Blk.cell hbx3
    obtain ⟨y0, y1, y2, y3⟩ := X2'.out w3 hb3
    rw [Nat.one_mul] at y0 y1 y2 y3
    have hll : (l2 ++ [32, 43, 32]).length = l2.length + 3 := by rw [List.length_append]; rfl
    have D := Lib.hid (D2.out w3 (l2 ++ [32, 43, 32]) hb3 (by omega) hW3 (by omega))
    have hk3' := Lib.hid (hk2'.out.trans hk3)
    have hll' := Lib.hid hll
    clear hW3 hk3 hb3 hbx3 S hll
    go_wp2_with fail
    refine D.out.mono ?_
    rintro e w4 ⟨rfl, hk4, l4, d4, hl4, hcase⟩
    go_wp2_with fail
    go_end0
    have hll := hll'.out
    refine ⟨rfl, hk3'.out.trans hk4, l4, d4, by omega, ?_⟩
    rw [two_text, hx'.out]
    rcases hcase with ⟨y, hy, hly, hW4⟩ | ⟨hy, hW4⟩
    · refine .inl ⟨x ++ [32, 43, 32] ++ y, by rw [hy]; rfl, ?_, hW4⟩
      rw [hly, hlx'.out]; simp
    · exact .inr ⟨by rw [hy]; rfl, hW4⟩
  · have hx' := Lib.hid hx
    have S := Lib.hid (wstr_calls w0.heap.size b w2 l2 d2 true ⟨#[32, 43, 32]⟩ hW2 (by show l2.length + 3 ≤ _; omega) (by omega))
    clear hx hW2
    go_wp2_with fail
    refine S.out.mono ?_
    rintro e w3 ⟨rfl, hW3, hk3⟩
    have hz3 := hk3.size
    have hb3 := hb2'.out.trans (hk3.below (by omega))
    have hbx3 := hbx2.out.wkeeps hk3 (by decide) hne
    have x3 := Blk.cell hbx3
    obtain ⟨y0, y1, y2, y3⟩ := X2'.out w3 hb3
    rw [Nat.one_mul] at y0 y1 y2 y3
    have hll : (l2 ++ [32, 43, 32]).length = l2.length + 3 := by rw [List.length_append]; rfl
    have D := Lib.hid (O2.out w3 (l2 ++ [32, 43, 32]) d2 hb3 (by omega) hW3 (by omega))
    have hk3' := Lib.hid (hk2'.out.trans hk3)
    have hll' := Lib.hid hll
    clear hW3 hk3 hb3 hbx3 S hll
    go_wp2_with fail
    refine D.out.mono ?_
    rintro e w4 ⟨rfl, hk4, l4, d4, hl4, hW4⟩
    go_wp2_with fail
    go_end0
    have hll := hll'.out
    refine ⟨rfl, hk3'.out.trans hk4, l4, d4, by omega, .inr ⟨?_, hW4⟩⟩
    rw [two_text, hx'.out]
set_option maxHeartbeats 4000000 in
set_option maxRecDepth 100000 in
theorem reckoned_13 (r q1 q2 : CT) (hk : r.kind = 13) (hps : r.parts = [q1, q2]) (h1 : PartOK q1) (h2 : PartOK q2) (w0 : World) (b d f : Nat) (deep : Int) (w : World) (l : List UInt8) (cs : List Value) (hd : d ≤ 8) (hdp : deep = 8 - (d : Int)) (hf1 : q1.size ≤ f) (hf2 : q2.size ≤ f) (hq : CV w0 cs r) (hb0 : Below w0.heap.size w0 w) (hz0 : w0.heap.size ≤ w.heap.size) (htb : Tb w0.heap.size w0) (h : WrAt w0.heap.size b w l deep false) (hln : l.length + r.cw ≤ 1000000000) (hcw : r.cw ≤ 1000000) :
    Calls Tryd.prog 39 #[.pointer (some ⟨b, 0, none⟩), .agg cs.toArray] w (WSaid (textO (twoW (condW f) d 5 6 (spc (mk minusL)) [q1, q2])) r.cw w0.heap.size b w l deep) := by
  have hcr := cw_node r
  rw [hps, cwL_cons, cwL_cons, cwL_nil] at hcr
  have hcr1 : q1.cw + q2.cw + 16 ≤ r.cw := by omega
  obtain ⟨k, m, a, p, c, ds, rfl, hrf, hrow, -, hp⟩ := hq.form
  obtain rfl : k = 13 := by rw [hrf] at hk; exact hk
  have hpl : r.parts.length = 2 := by rw [hps]; rfl
  obtain ⟨g, o, k1, m1, a1, p1, c1, rfl, hc1, R1, -, X1⟩ := CV.part_at hrow hp (i := 0) (q := q1) (by rw [hps]; rfl)
  obtain ⟨g', o', k2, m2, a2, p2, c2, e2, -, R2, -, X2⟩ := CV.part_at hrow hp (i := 1) (q := q2) (by rw [hps]; rfl)
  obtain ⟨rfl, rfl⟩ : g' = g ∧ o' = o := by injection e2 with e; injection e with e1 e2; exact ⟨e1.symm, e2.symm⟩
  have hbl := h.lt
  have hb := (Below.refl w.heap.size w).alloc (Nat.le_refl _) (.cells #[.int .i64 13, .int .i64 m, .string a, .slice (some ⟨g', o', none⟩) r.parts.length c] 25)
  have hbx := Blk.new w 25 #[.int .i64 13, .int .i64 m, .string a, .slice (some ⟨g', o', none⟩) r.parts.length c]
  have hz1 := alloc_size w (.cells #[.int .i64 13, .int .i64 m, .string a, .slice (some ⟨g', o', none⟩) r.parts.length c] 25)
  rw [hpl] at hb hbx hz1 ⊢
  obtain ⟨w1, e1⟩ : ∃ w1, w.alloc (.cells #[.int .i64 13, .int .i64 m, .string a, .slice (some ⟨g', o', none⟩) 2 c] 25) = w1 := ⟨_, rfl⟩
  rw [e1] at hb hbx hz1
  have hw1 := Lib.hid (h.later hb)
  have hk1 := Lib.hid (WKeeps.of_below (B := w0.heap.size) (b := b) hb)
  have hb1 := Lib.hid (hb0.trans (hb.mono hz0))
  have x1 := Blk.cell hbx
  have hbx' := Lib.hid hbx
  have hz1' := Lib.hid hz1
  have hne : w.heap.size ≠ b := Nat.ne_of_gt hbl
  have Y1 := X1 w1 hb1.out
  obtain ⟨y0, y1, y2, y3⟩ := Y1
  rw [Nat.zero_mul, Nat.add_zero] at y0 y1 y2 y3
  have X2' := Lib.hid X2
  have hps' := Lib.hid hps
  have D := Lib.hid (h1 w0 b d f 5 deep w1 l _ hd hdp (by omega) hf1 R1 hb1.out (by omega) htb hw1.out (by omega) (by omega))
  have D2 := Lib.hid (fun (w : World) (l : List UInt8) hb hz h hl => h2 w0 b d f 6 deep w l _ hd hdp (by omega) hf2 R2 hb hz htb h hl (by omega))
  have O2 := Lib.hid (fun (w : World) (l : List UInt8) (dd : Int) hb hz h hl => part_odd w0 b w l _ q2 dd 6 R2 hb hz h hl)
  clear h h1 h2 hb hbx hz1 hb0 hrow hp R1 R2 X1 X2 hq hrf hk hcr hps hdp htb hpl e2
  go_enter Tryd.func39, Tryd.ntmps39
  go_wp2_with fail
  refine D.out.mono ?_
  rintro e w2 ⟨rfl, hk2, l2, d2, hl2, hcase⟩
  have hz2 := hk2.size
  have hz1b := hz1'.out
  have hk2' := Lib.hid (hk1.out.trans hk2)
  have hb2 := hb1.out.trans (hk2.below (by omega))
  have hb2' := Lib.hid hb2
  have hbx2 := Lib.hid (hbx'.out.wkeeps hk2 (by decide) hne)
  clear hk2 hb2 x1 y0 y1 y2 y3 D e1
  rcases hcase with ⟨x, hx, hlx, hW2⟩ | ⟨hx, hW2⟩
  · have hx' := Lib.hid hx
    have hlx' := Lib.hid hlx
    have S := Lib.hid (wstr_calls w0.heap.size b w2 l2 deep false ⟨#[32, 45, 32]⟩ hW2 (by show l2.length + 3 ≤ _; omega) (by omega))
    clear hx hlx hW2
    go_wp2_with fail
    refine S.out.mono ?_
    rintro e w3 ⟨rfl, hW3, hk3⟩
    have hz3 := hk3.size
    have hb3 := hb2'.out.trans (hk3.below (by omega))
    have hbx3 := hbx2.out.wkeeps hk3 (by decide) hne
    have x3 := Blk.cell hbx3
    obtain ⟨y0, y1, y2, y3⟩ := X2'.out w3 hb3
    rw [Nat.one_mul] at y0 y1 y2 y3
    have hll : (l2 ++ [32, 45, 32]).length = l2.length + 3 := by rw [List.length_append]; rfl
    have D := Lib.hid (D2.out w3 (l2 ++ [32, 45, 32]) hb3 (by omega) hW3 (by omega))
    have hk3' := Lib.hid (hk2'.out.trans hk3)
    have hll' := Lib.hid hll
    clear hW3 hk3 hb3 hbx3 S hll
    go_wp2_with fail
    refine D.out.mono ?_
    rintro e w4 ⟨rfl, hk4, l4, d4, hl4, hcase⟩
    go_wp2_with fail
    go_end0
    have hll := hll'.out
    refine ⟨rfl, hk3'.out.trans hk4, l4, d4, by omega, ?_⟩
    rw [two_text, hx'.out]
    rcases hcase with ⟨y, hy, hly, hW4⟩ | ⟨hy, hW4⟩
    · refine .inl ⟨x ++ [32, 45, 32] ++ y, by rw [hy]; rfl, ?_, hW4⟩
      rw [hly, hlx'.out]; simp
    · exact .inr ⟨by rw [hy]; rfl, hW4⟩
  · have hx' := Lib.hid hx
    have S := Lib.hid (wstr_calls w0.heap.size b w2 l2 d2 true ⟨#[32, 45, 32]⟩ hW2 (by show l2.length + 3 ≤ _; omega) (by omega))
    clear hx hW2
    go_wp2_with fail
    refine S.out.mono ?_
    rintro e w3 ⟨rfl, hW3, hk3⟩
    have hz3 := hk3.size
    have hb3 := hb2'.out.trans (hk3.below (by omega))
    have hbx3 := hbx2.out.wkeeps hk3 (by decide) hne
    have x3 := Blk.cell hbx3
    obtain ⟨y0, y1, y2, y3⟩ := X2'.out w3 hb3
    rw [Nat.one_mul] at y0 y1 y2 y3
    have hll : (l2 ++ [32, 45, 32]).length = l2.length + 3 := by rw [List.length_append]; rfl
    have D := Lib.hid (O2.out w3 (l2 ++ [32, 45, 32]) d2 hb3 (by omega) hW3 (by omega))
    have hk3' := Lib.hid (hk2'.out.trans hk3)
    have hll' := Lib.hid hll
    clear hW3 hk3 hb3 hbx3 S hll
    go_wp2_with fail
    refine D.out.mono ?_
    rintro e w4 ⟨rfl, hk4, l4, d4, hl4, hW4⟩
    go_wp2_with fail
    go_end0
    have hll := hll'.out
    refine ⟨rfl, hk3'.out.trans hk4, l4, d4, by omega, .inr ⟨?_, hW4⟩⟩
    rw [two_text, hx'.out]
set_option maxHeartbeats 4000000 in
set_option maxRecDepth 100000 in
theorem reckoned_14 (r q1 q2 : CT) (hk : r.kind = 14) (hps : r.parts = [q1, q2]) (h1 : PartOK q1) (h2 : PartOK q2) (w0 : World) (b d f : Nat) (deep : Int) (w : World) (l : List UInt8) (cs : List Value) (hd : d ≤ 8) (hdp : deep = 8 - (d : Int)) (hf1 : q1.size ≤ f) (hf2 : q2.size ≤ f) (hq : CV w0 cs r) (hb0 : Below w0.heap.size w0 w) (hz0 : w0.heap.size ≤ w.heap.size) (htb : Tb w0.heap.size w0) (h : WrAt w0.heap.size b w l deep false) (hln : l.length + r.cw ≤ 1000000000) (hcw : r.cw ≤ 1000000) :
    Calls Tryd.prog 39 #[.pointer (some ⟨b, 0, none⟩), .agg cs.toArray] w (WSaid (textO (twoW (condW f) d 6 7 (spc (mk [42])) [q1, q2])) r.cw w0.heap.size b w l deep) := by
  have hcr := cw_node r
  rw [hps, cwL_cons, cwL_cons, cwL_nil] at hcr
  have hcr1 : q1.cw + q2.cw + 16 ≤ r.cw := by omega
  obtain ⟨k, m, a, p, c, ds, rfl, hrf, hrow, -, hp⟩ := hq.form
  obtain rfl : k = 14 := by rw [hrf] at hk; exact hk
  have hpl : r.parts.length = 2 := by rw [hps]; rfl
  obtain ⟨g, o, k1, m1, a1, p1, c1, rfl, hc1, R1, -, X1⟩ := CV.part_at hrow hp (i := 0) (q := q1) (by rw [hps]; rfl)
  obtain ⟨g', o', k2, m2, a2, p2, c2, e2, -, R2, -, X2⟩ := CV.part_at hrow hp (i := 1) (q := q2) (by rw [hps]; rfl)
  obtain ⟨rfl, rfl⟩ : g' = g ∧ o' = o := by injection e2 with e; injection e with e1 e2; exact ⟨e1.symm, e2.symm⟩
  have hbl := h.lt
  have hb := (Below.refl w.heap.size w).alloc (Nat.le_refl _) (.cells #[.int .i64 14, .int .i64 m, .string a, .slice (some ⟨g', o', none⟩) r.parts.length c] 25)
  have hbx := Blk.new w 25 #[.int .i64 14, .int .i64 m, .string a, .slice (some ⟨g', o', none⟩) r.parts.length c]
  have hz1 := alloc_size w (.cells #[.int .i64 14, .int .i64 m, .string a, .slice (some ⟨g', o', none⟩) r.parts.length c] 25)
  rw [hpl] at hb hbx hz1 ⊢
  obtain ⟨w1, e1⟩ : ∃ w1, w.alloc (.cells #[.int .i64 14, .int .i64 m, .string a, .slice (some ⟨g', o', none⟩) 2 c] 25) = w1 := ⟨_, rfl⟩
  rw [e1] at hb hbx hz1
  have hw1 := Lib.hid (h.later hb)
  have hk1 := Lib.hid (WKeeps.of_below (B := w0.heap.size) (b := b) hb)
  have hb1 := Lib.hid (hb0.trans (hb.mono hz0))
  have x1 := Blk.cell hbx
  have hbx' := Lib.hid hbx
  have hz1' := Lib.hid hz1
  have hne : w.heap.size ≠ b := Nat.ne_of_gt hbl
  have Y1 := X1 w1 hb1.out
  obtain ⟨y0, y1, y2, y3⟩ := Y1
  rw [Nat.zero_mul, Nat.add_zero] at y0 y1 y2 y3
  have X2' := Lib.hid X2
  have hps' := Lib.hid hps
  have D := Lib.hid (h1 w0 b d f 6 deep w1 l _ hd hdp (by omega) hf1 R1 hb1.out (by omega) htb hw1.out (by omega) (by omega))
  have D2 := Lib.hid (fun (w : World) (l : List UInt8) hb hz h hl => h2 w0 b d f 7 deep w l _ hd hdp (by omega) hf2 R2 hb hz htb h hl (by omega))
  have O2 := Lib.hid (fun (w : World) (l : List UInt8) (dd : Int) hb hz h hl => part_odd w0 b w l _ q2 dd 7 R2 hb hz h hl)
  clear h h1 h2 hb hbx hz1 hb0 hrow hp R1 R2 X1 X2 hq hrf hk hcr hps hdp htb hpl e2
  go_enter Tryd.func39, Tryd.ntmps39
  go_wp2_with fail
  refine D.out.mono ?_
  rintro e w2 ⟨rfl, hk2, l2, d2, hl2, hcase⟩
  have hz2 := hk2.size
  have hz1b := hz1'.out
  have hk2' := Lib.hid (hk1.out.trans hk2)
  have hb2 := hb1.out.trans (hk2.below (by omega))
  have hb2' := Lib.hid hb2
  have hbx2 := Lib.hid (hbx'.out.wkeeps hk2 (by decide) hne)
  clear hk2 hb2 x1 y0 y1 y2 y3 D e1
  rcases hcase with ⟨x, hx, hlx, hW2⟩ | ⟨hx, hW2⟩
  · have hx' := Lib.hid hx
    have hlx' := Lib.hid hlx
    have S := Lib.hid (wstr_calls w0.heap.size b w2 l2 deep false ⟨#[32, 42, 32]⟩ hW2 (by show l2.length + 3 ≤ _; omega) (by omega))
    clear hx hlx hW2
    go_wp2_with fail
    refine S.out.mono ?_
    rintro e w3 ⟨rfl, hW3, hk3⟩
    have hz3 := hk3.size
    have hb3 := hb2'.out.trans (hk3.below (by omega))
    have hbx3 := hbx2.out.wkeeps hk3 (by decide) hne
    have x3 := Blk.cell hbx3
    obtain ⟨y0, y1, y2, y3⟩ := X2'.out w3 hb3
    rw [Nat.one_mul] at y0 y1 y2 y3
    have hll : (l2 ++ [32, 42, 32]).length = l2.length + 3 := by rw [List.length_append]; rfl
    have D := Lib.hid (D2.out w3 (l2 ++ [32, 42, 32]) hb3 (by omega) hW3 (by omega))
    have hk3' := Lib.hid (hk2'.out.trans hk3)
    have hll' := Lib.hid hll
    clear hW3 hk3 hb3 hbx3 S hll
    go_wp2_with fail
    refine D.out.mono ?_
    rintro e w4 ⟨rfl, hk4, l4, d4, hl4, hcase⟩
    go_wp2_with fail
    go_end0
    have hll := hll'.out
    refine ⟨rfl, hk3'.out.trans hk4, l4, d4, by omega, ?_⟩
    rw [two_text, hx'.out]
    rcases hcase with ⟨y, hy, hly, hW4⟩ | ⟨hy, hW4⟩
    · refine .inl ⟨x ++ [32, 42, 32] ++ y, by rw [hy]; rfl, ?_, hW4⟩
      rw [hly, hlx'.out]; simp
    · exact .inr ⟨by rw [hy]; rfl, hW4⟩
  · have hx' := Lib.hid hx
    have S := Lib.hid (wstr_calls w0.heap.size b w2 l2 d2 true ⟨#[32, 42, 32]⟩ hW2 (by show l2.length + 3 ≤ _; omega) (by omega))
    clear hx hW2
    go_wp2_with fail
    refine S.out.mono ?_
    rintro e w3 ⟨rfl, hW3, hk3⟩
    have hz3 := hk3.size
    have hb3 := hb2'.out.trans (hk3.below (by omega))
    have hbx3 := hbx2.out.wkeeps hk3 (by decide) hne
    have x3 := Blk.cell hbx3
    obtain ⟨y0, y1, y2, y3⟩ := X2'.out w3 hb3
    rw [Nat.one_mul] at y0 y1 y2 y3
    have hll : (l2 ++ [32, 42, 32]).length = l2.length + 3 := by rw [List.length_append]; rfl
    have D := Lib.hid (O2.out w3 (l2 ++ [32, 42, 32]) d2 hb3 (by omega) hW3 (by omega))
    have hk3' := Lib.hid (hk2'.out.trans hk3)
    have hll' := Lib.hid hll
    clear hW3 hk3 hb3 hbx3 S hll
    go_wp2_with fail
    refine D.out.mono ?_
    rintro e w4 ⟨rfl, hk4, l4, d4, hl4, hW4⟩
    go_wp2_with fail
    go_end0
    have hll := hll'.out
    refine ⟨rfl, hk3'.out.trans hk4, l4, d4, by omega, .inr ⟨?_, hW4⟩⟩
    rw [two_text, hx'.out]
end Go.Proofs.YtfhdecdlkmibmaaDoor
