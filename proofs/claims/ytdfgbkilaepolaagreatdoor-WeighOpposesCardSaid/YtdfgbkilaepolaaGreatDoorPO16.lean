/- Walk: conditions: the writer: a part, as it should be. Walk: conditions: the writer: parts with something between. Walks: conditions: the writer: parts behind something wrong; a sum, a difference, a product. -/
import Derived.Test.YtdfgbkilaepolaaGreatDoorPO15
namespace Go.Proofs.YtdfgbkilaepolaaGreatDoor
open Go.RowKit
theorem WSaid.mono {T T' : Option (List UInt8)} {W W' B b : Nat} {w : World} {l : List UInt8} {deep : Int} {e : Ending} {w' : World} (h : WSaid T W B b w l deep e w') (hW : W ≤ W') (hT : T = T') : WSaid T' W' B b w l deep e w' := by
  obtain ⟨h1, h2, l', d', h3, h4⟩ := h
  rw [← hT]
  exact ⟨h1, h2, l', d', by omega, h4⟩
theorem partW_hi {cond : Wr} {d least : Nat} {c : CT} (h : least ≤ rankC c) : partW cond d least c = cond d c := by unfold partW; rw [if_pos h]
theorem partW_0 {cond : Wr} {least : Nat} {c : CT} (h : ¬ least ≤ rankC c) : partW cond 0 least c = none := by unfold partW; rw [if_neg h]
theorem partW_s {cond : Wr} {d least : Nat} {c : CT} (h : ¬ least ≤ rankC c) : textO (partW cond (d + 1) least c) = (textO (cond d c)).map fun x => 40 :: x ++ [41] := by
  unfold partW; rw [if_neg h]
  show ((cond d c).map fun x => mk openL :: x ++ [mk closeL]).map textP = ((cond d c).map textP).map fun x => 40 :: x ++ [41]
  cases cond d c with
  | none => rfl
  | some x =>
    show some (textP (mk openL :: x ++ [mk closeL])) = _
    rw [textP_app]; rfl
set_option maxHeartbeats 4000000 in
set_option maxRecDepth 100000 in
theorem part_ok (q : CT) (hcond : CondOK q) : PartOK q := by
  intro w0 b d f least deep w l cs hd hdp hlst hf hq hb0 hz0 htb h hln hcw
  have hcond' := Lib.hid hcond
  have hdp' := Lib.hid hdp
  have hb0' := Lib.hid hb0
  have htb' := Lib.hid htb
  clear hcond hdp htb
  obtain ⟨k, m, a, p, c, ds, rfl, -⟩ := hq.form
  have hbl := h.lt
  have hbB := h.1
  have hb := (Below.refl w.heap.size w).alloc (Nat.le_refl _) (.cells #[.int .i64 k, .int .i64 m, .string a, .slice p q.parts.length c] 28)
  have hbx := Blk.new w 28 #[.int .i64 k, .int .i64 m, .string a, .slice p q.parts.length c]
  have hz1 := alloc_size w (.cells #[.int .i64 k, .int .i64 m, .string a, .slice p q.parts.length c] 28)
  obtain ⟨w1, e1⟩ : ∃ w1, w.alloc (.cells #[.int .i64 k, .int .i64 m, .string a, .slice p q.parts.length c] 28) = w1 := ⟨_, rfl⟩
  rw [e1] at hb hbx hz1
  have D := Lib.hid (rank_calls q _ w1 ((hq.later hb0).later hb))
  have h1 := Lib.hid (h.later hb)
  have k1 := Lib.hid (WKeeps.of_below (B := w0.heap.size) (b := b) hb)
  have x1 := Blk.cell hbx
  have hbx' := Lib.hid hbx
  have hq' := Lib.hid hq
  have hz1' := Lib.hid hz1
  clear h hbx hq hz1
  have hb1' := Lib.hid (hb0.trans (hb.mono hz0))
  clear hb hb0
  obtain ⟨rk, hrk⟩ : ∃ rk, rankC q = rk := ⟨_, rfl⟩
  rw [hrk] at D
  have hrk' := Lib.hid hrk
  have hrb : rk ≤ 7 := by
    rw [← hrk]
    unfold rankC
    repeat' split
    all_goals omega
  clear hrk
  go_enter Tryz.func50, Tryz.ntmps50
  go_wp2_with fail
  refine D.out.mono ?_
  rintro e w2 ⟨rfl, hb2⟩
  have hz2 := hb2.size
  have hw1 := hz1'.out
  have hbx2 := hbx'.out.below hb2 (by omega)
  have h2 := h1.out.later hb2
  obtain ⟨f2, f3, ff⟩ := h2.flag
  have k2 := Lib.hid (k1.out.trans (WKeeps.of_below hb2))
  have h2' := Lib.hid h2
  have x2 := Blk.cell hbx2
  have hbx2' := Lib.hid hbx2
  have hbl2 : b < w2.heap.size := by omega
  have hb2' := Lib.hid (hb1'.out.trans (hb2.mono (by omega)))
  clear hb2 hbx2 h2 D e1 x1
  by_cases hr : least ≤ rk
  · have er : (least : Int) ≤ (rk : Int) := by omega
    have er2 : decide ((least : Int) ≤ (rk : Int)) = true := decide_eq_true er
    have D := Lib.hid (hcond'.out w0 b d f deep w2 l _ hd hdp'.out hf hq'.out hb2'.out (by omega) htb'.out h2'.out (by omega) hcw)
    go_wp2_with fail
    refine D.out.mono ?_
    intro e w3 hS
    have hS' := hS.mono (T' := textO (partW (condW f) d least q)) (W' := q.cw + 2) (by omega) (by rw [partW_hi (by rw [hrk'.out]; exact hr)])
    obtain ⟨rfl, hk3, l', d', hl', hW3⟩ := hS'
    go_wp2_with fail
    go_end0
    exact ⟨rfl, k2.out.trans hk3, l', d', hl', hW3⟩
  · have er : ¬ (least : Int) ≤ (rk : Int) := by omega
    have er3 : (rk : Int) < (least : Int) := by omega
    have er2 : decide ((least : Int) ≤ (rk : Int)) = false := decide_eq_false er
    have hdn := hdp'.out
    obtain ⟨h3, k3⟩ := h2'.out.deep_ (deep + 1)
    have hz3 : (w2.setCell ⟨b, 2, none⟩ (.int .i64 (deep + 1))).heap.size = w2.heap.size := by simp [World.setCell]
    have h3' := Lib.hid h3
    have k3' := Lib.hid (k2.out.trans k3)
    have hz3' := Lib.hid hz3
    have hb3' := Lib.hid (hb2'.out.trans (k3.below (by omega)))
    have hdlo : 0 ≤ deep := by omega
    have hdhi : deep ≤ 8 := by omega
    clear h3 k3 hz3
    cases d with
    | zero =>
      have hT : Hid (textO (partW (condW f) 0 least q) = none) := Lib.hid (by rw [partW_0 (by rw [hrk'.out]; exact hr)]; rfl)
      have h8 : 8 < deep + 1 := by omega
      have e8 : decide (8 < deep + 1) = true := decide_eq_true h8
      clear hdn
      go_wp2_with fail
      go_end0
      obtain ⟨h4, k4⟩ := h3'.out.bad_ true
      exact ⟨rfl, k3'.out.trans k4, l, deep + 1, by omega, .inr ⟨hT.out, h4⟩⟩
    | succ d =>
      have hT : Hid (textO (partW (condW f) (d + 1) least q) = (textO (condW f d q)).map fun x => 40 :: x ++ [41]) := Lib.hid (partW_s (by rw [hrk'.out]; exact hr))
      have h8 : ¬ 8 < deep + 1 := by omega
      have e8 : decide (8 < deep + 1) = false := decide_eq_false h8
      have hdn2 : Hid (deep + 1 = 8 - (d : Int)) := Lib.hid (by omega)
      clear hdn
      have D : Calls Tryz.prog 75 #[.pointer (some ⟨b, 0, none⟩), .int .u8 40] (w2.setCell ⟨b, 2, none⟩ (.int .i64 (deep + 1))) fun e w' => e = .returned .nilIface ∧ WrAt w0.heap.size b w' (l ++ [40]) (deep + 1) false ∧ WKeeps w0.heap.size b (w2.setCell ⟨b, 2, none⟩ (.int .i64 (deep + 1))) w' := wbyte_calls w0.heap.size b _ l (deep + 1) false 40 h3'.out (by omega) (by have := hz3'.out; omega)
      have D' := Lib.hid D
      clear D
      go_wp2_with fail
      refine D'.out.mono ?_
      rintro e w3 ⟨rfl, h4, k4⟩
      have hbx3 := (hbx2'.out.far (p := ⟨b, 2, none⟩) (by intro e; exact Nat.ne_of_lt hbl e.symm) (.int .i64 (deep + 1))).wkeeps k4 (by decide) (Nat.ne_of_gt hbl)
      have x3 := Blk.cell hbx3
      have hz4 := k4.size
      have hz3b := hz3'.out
      have hb4' := hb3'.out.trans (k4.below (by omega))
      have hll : (l ++ [40]).length = l.length + 1 := by simp
      have D2 := Lib.hid (hcond'.out w0 b d f (deep + 1) w3 (l ++ [40]) _ (by omega) hdn2.out hf hq'.out hb4' (by omega) htb'.out h4 (by omega) hcw)
      have k4' := Lib.hid (k3'.out.trans k4)
      have hll' := Lib.hid hll
      clear h4 k4 hbx3 x2 f2 f3 ff D' hb4' hll
      go_wp2_with fail
      refine D2.out.mono ?_
      rintro e w4 ⟨rfl, hk5, l5, d5, hl5, hcase⟩
      have hz5 := hk5.size
      have k5' := Lib.hid (k4'.out.trans hk5)
      have hl5' := Lib.hid hl5
      have hl5b : l5.length ≤ l.length + 1 + q.cw := by have := hll'.out; omega
      rcases hcase with ⟨x, hx, hlx, hW5⟩ | ⟨hx, hW5⟩
      · have hx' := Lib.hid hx
        have hlx' := Lib.hid hlx
        have D : Calls Tryz.prog 75 #[.pointer (some ⟨b, 0, none⟩), .int .u8 41] w4 fun e w' => e = .returned .nilIface ∧ WrAt w0.heap.size b w' (l5 ++ [41]) (deep + 1) false ∧ WKeeps w0.heap.size b w4 w' := wbyte_calls w0.heap.size b _ l5 (deep + 1) false 41 hW5 (by omega) (by omega)
        have D' := Lib.hid D
        clear D hk5 hW5 D2 x3 hx hlx
        go_wp2_with fail
        refine D'.out.mono ?_
        rintro e w5 ⟨rfl, h6, k6⟩
        obtain ⟨f2, f3, ff⟩ := h6.flag
        have h6' := Lib.hid h6
        have k6' := Lib.hid (k5'.out.trans k6)
        clear h6 k6 D'
        go_wp2_with fail
        go_end0
        obtain ⟨h7, k7⟩ := h6'.out.deep_ deep
        refine ⟨rfl, k6'.out.trans k7, l5 ++ [41], deep, by rw [List.length_append]; show l5.length + 1 ≤ _; omega, .inl ⟨40 :: x ++ [41], by rw [hT.out, hx'.out]; rfl, by rw [hlx'.out]; simp, h7⟩⟩
      · have hx' := Lib.hid hx
        have D : Calls Tryz.prog 75 #[.pointer (some ⟨b, 0, none⟩), .int .u8 41] w4 fun e w' => e = .returned .nilIface ∧ WrAt w0.heap.size b w' (l5 ++ [41]) d5 true ∧ WKeeps w0.heap.size b w4 w' := wbyte_calls w0.heap.size b _ l5 d5 true 41 hW5 (by omega) (by omega)
        have D' := Lib.hid D
        clear D hk5 hW5 D2 x3 hx
        go_wp2_with fail
        refine D'.out.mono ?_
        rintro e w5 ⟨rfl, h6, k6⟩
        obtain ⟨f2, f3, ff⟩ := h6.flag
        have h6' := Lib.hid h6
        have k6' := Lib.hid (k5'.out.trans k6)
        clear h6 k6 D'
        obtain ⟨d6, hd6⟩ : ∃ d6, wrap64 (d5 - 1) = d6 := ⟨_, rfl⟩
        go_wp2_with fail
        go_end0
        obtain ⟨h7, k7⟩ := h6'.out.deep_ d6
        exact ⟨rfl, k6'.out.trans k7, l5 ++ [41], d6, by rw [List.length_append]; show l5.length + 1 ≤ _; omega, .inr ⟨by rw [hT.out, hx'.out]; rfl, h7⟩⟩
end Go.Proofs.YtdfgbkilaepolaaGreatDoor
namespace Go.Proofs.YtdfgbkilaepolaaGreatDoor
open Go.RowKit
section
variable {cond : Wr} {d least : Nat} {sep : List Piece}
theorem partsW_snoc : ∀ (ps : List CT) (q : CT), ps ≠ [] → partsW cond d least sep (ps ++ [q]) = match partsW cond d least sep ps with
    | none => none
    | some x => (partW cond d least q).map fun y => x ++ sep ++ y
  | [], _, h => absurd rfl h
  | [c], q, _ => rfl
  | c :: c2 :: l, q, _ => by
    have ih := partsW_snoc (c2 :: l) q (List.cons_ne_nil _ _)
    show (match partW cond d least c with | none => none | some x => (partsW cond d least sep (c2 :: l ++ [q])).map fun y => x ++ sep ++ y) = (match (match partW cond d least c with | none => none | some x => (partsW cond d least sep (c2 :: l)).map fun y => x ++ sep ++ y) with | none => none | some x => (partW cond d least q).map fun y => x ++ sep ++ y)
    rw [ih]
    cases partW cond d least c with
    | none => rfl
    | some x =>
      cases partsW cond d least sep (c2 :: l) with
      | none => rfl
      | some y =>
        cases partW cond d least q with
        | none => rfl
        | some z => show some _ = some _; simp
theorem partsW_dead : ∀ (qs ps : List CT), partsW cond d least sep ps = none → partsW cond d least sep (ps ++ qs) = none
  | [], ps, h => by rw [List.append_nil]; exact h
  | q :: qs, ps, h => by
    have hne : ps ≠ [] := by rintro rfl; cases h
    have e : ps ++ q :: qs = (ps ++ [q]) ++ qs := by simp
    rw [e]
    exact partsW_dead qs (ps ++ [q]) (by rw [partsW_snoc ps q hne, h])
end
theorem cwL_app : ∀ a b : List CT, cwL (a ++ b) = cwL a + cwL b
  | [], b => by rw [cwL_nil, List.nil_append, Nat.zero_add]
  | c :: a, b => by rw [List.cons_append, cwL_cons, cwL_cons, cwL_app a b]; omega
theorem cwL_take {ps : List CT} {j : Nat} {q : CT} (h : ps[j]? = some q) : cwL (ps.take (j + 1)) = cwL (ps.take j) + (q.cw + 8) := by
  rw [List.take_add_one, h, cwL_app]
  show _ + cwL [q] = _
  rw [cwL_cons, cwL_nil, Nat.add_zero]
theorem cwL_le {ps : List CT} (j : Nat) : cwL (ps.take j) ≤ cwL ps := by
  have h := cwL_app (ps.take j) (ps.drop j)
  rw [List.take_append_drop] at h
  omega
/-- so far: the text of the first parts, or something went wrong -/
structure PInv (cond : Wr) (d least : Nat) (sep : List Piece) (ps : List CT) (B b : Nat) (w0 w : World) (l : List UInt8) (deep : Int) (j : Nat) (wr : World) (li : List UInt8) (d' : Int) (bad : Bool) : Prop where
  wr_ : WrAt B b wr li d' bad
  keeps : WKeeps B b w wr
  below : Below w0.heap.size w0 wr
  size : w.heap.size ≤ wr.heap.size
  len : li.length ≤ l.length + cwL (ps.take j)
  said : (bad = false ∧ d' = deep ∧ ∃ x, partsW cond d least sep (ps.take j) = some x ∧ li = l ++ textP x) ∨ (bad = true ∧ partsW cond d least sep (ps.take j) = none)
set_option maxHeartbeats 8000000 in
set_option maxRecDepth 100000 in
theorem parts_ok (ps : List CT) (hps : ∀ q ∈ ps, PartOK q) (w0 : World) (b d f least : Nat) (deep : Int) (w : World) (l : List UInt8) (p : Option Addr) (c : Nat) (ds : List Value) (btw : ByteArray) (sep : List Piece) (hsep : textP sep = btw.data.toList) (hbs : btw.size ≤ 5) (hd : d ≤ 8) (hdp : deep = 8 - (d : Int)) (hlst : least ≤ 100)
    (hf : ∀ q ∈ ps, q.size ≤ f) (hrow : RowV w0 (.slice p ps.length c) ps.length ds) (hp : ∀ (i : Nat) (q : CT), ps[i]? = some q → CV w0 ((ds.drop (i * 4)).take 4) q) (hb0 : Below w0.heap.size w0 w) (hz0 : w0.heap.size ≤ w.heap.size) (htb : Tb w0.heap.size w0) (h : WrAt w0.heap.size b w l deep false) (hln : l.length + cwL ps ≤ 1000000000) (hcw : cwL ps ≤ 1000000) :
    Calls Tryz.prog 95 #[.pointer (some ⟨b, 0, none⟩), .slice p ps.length c, .string btw, .int .i64 least] w (WSaid (textO (partsW (condW f) d least sep ps)) (cwL ps) w0.heap.size b w l deep) := by
  have hmax := hrow.1
  unfold maxLen at hmax
  have hps' := Lib.hid hps
  have hsep' := Lib.hid hsep
  have hdp' := Lib.hid hdp
  have hf' := Lib.hid hf
  have hrow' := Lib.hid hrow
  have hp' := Lib.hid hp
  have htb' := Lib.hid htb
  have hI : Hid (PInv (condW f) d least sep ps w0.heap.size b w0 w l deep 0 w l deep false) := Lib.hid ⟨h, WKeeps.refl _ _ _, hb0, Nat.le_refl _, by omega, .inl ⟨rfl, rfl, [], rfl, by simp [textP]⟩⟩
  generalize hn : ps.length = n at *
  have hn' := Lib.hid hn
  clear hps hsep hdp hf hrow hp htb h hn hb0
  go_enter Tryz.func95, Tryz.ntmps95
  go_wp2_with fail
  go_loopw [12] (fun i wr => ∃ (j : Nat) (li : List UInt8) (d' : Int) (bad : Bool), j ≤ n ∧ i = .int .i64 j ∧ PInv (condW f) d least sep ps w0.heap.size b w0 w l deep j wr li d' bad) (fun i _ => n - (intOf i).toNat)
  case atStart => exact ⟨0, l, deep, false, Nat.zero_le _, rfl, hI.out⟩
  case round =>
    obtain ⟨j, li, d', bad, hj, rfl, hI⟩ := hrel
    by_cases hlt : j < n
    · have hjl : j < ps.length := by rw [hn'.out]; exact hlt
      obtain ⟨q, hqq⟩ : ∃ q, ps[j]? = some q := ⟨_, List.getElem?_eq_getElem hjl⟩
      have hqm := List.mem_of_getElem? hqq
      obtain ⟨g, o, rfl, hc1, hcell⟩ := (hrow'.out.below hI.below).cell (by omega)
      obtain ⟨kq, mq, aq, pq, cq, Rq, -, lg, x0, x1, x2, x3⟩ := CV.part hcell hqq ((hp'.out j _ hqq).later hI.below)
      have R0 : CV w0 [.int .i64 kq, .int .i64 mq, .string aq, .slice pq q.parts.length cq] q := by
        obtain ⟨g0, o0, e0, _, hcell0⟩ := hrow'.out.cell (by omega)
        obtain ⟨rfl, rfl⟩ : g = g0 ∧ o = o0 := by injection e0 with e; injection e with e1 e2; exact ⟨e1, e2⟩
        obtain ⟨k2, m2, a2, p2, c2, R2, -, l2, y0, y1, y2, y3⟩ := CV.part hcell0 hqq (hp'.out j _ hqq)
        rw [hI.below.cell (p := ⟨g, o + j * 4, none⟩) l2, y0] at x0
        rw [hI.below.cell (p := ⟨g, o + j * 4 + 1, none⟩) l2, y1] at x1
        rw [hI.below.cell (p := ⟨g, o + j * 4 + 2, none⟩) l2, y2] at x2
        rw [hI.below.cell (p := ⟨g, o + j * 4 + 3, none⟩) l2, y3] at x3
        rw [← Option.some.inj x0, ← Option.some.inj x1, ← Option.some.inj x2, ← Option.some.inj x3]
        exact R2
      obtain ⟨w3, e3⟩ : ∃ w3, wr.alloc (.cells #[.int .i64 kq, .int .i64 mq, .string aq, .slice pq q.parts.length cq] 28) = w3 := ⟨_, rfl⟩
      have hb3 := (Below.refl wr.heap.size wr).alloc (Nat.le_refl _) (.cells #[.int .i64 kq, .int .i64 mq, .string aq, .slice pq q.parts.length cq] 28)
      have bq3 := Blk.new wr 28 #[.int .i64 kq, .int .i64 mq, .string aq, .slice pq q.parts.length cq]
      have hz3 : w3.heap.size = wr.heap.size + 1 := by rw [← e3]; simp
      rw [e3] at hb3 bq3
      have hsz := hI.size
      have hB3 := Lib.hid (hI.below.trans (hb3.mono (by omega)))
      have hW3 := hI.wr_.later hb3
      have hK3 := Lib.hid (hI.keeps.trans (WKeeps.of_below hb3))
      have hbl := hI.wr_.lt
      have hne : b ≠ wr.heap.size := Nat.ne_of_lt hbl
      obtain ⟨f2, f3, ff⟩ := hW3.flag
      have hW3' := Lib.hid hW3
      have bq3' := Lib.hid bq3
      have x3c := bq3.cell
      have hlen := hI.len
      have hcj := cwL_le (ps := ps) j
      have hct := cwL_take hqq
      have hcj2 := cwL_le (ps := ps) (j + 1)
      have hI' := Lib.hid hI
      have hqq' := Lib.hid hqq
      have hz3' := Lib.hid hz3
      have hPq := Lib.hid (hps'.out q hqm)
      have hfq := hf'.out q hqm
      have R0' := Lib.hid R0
      have hcc : cwL (ps.take j) + q.cw + 8 ≤ cwL ps := by omega
      have hct' := Lib.hid hct
      clear hI hqq hb3 bq3 hW3 hcell Rq R0 hqm hct hjl hz3
      cases bad with
      | true =>
        have hT : Hid (textO (partsW (condW f) d least sep ps) = none) := by
          refine Lib.hid ?_
          rcases hI'.out.said with ⟨e, _⟩ | ⟨_, e⟩
          · cases e
          · have := partsW_dead (ps.drop j) _ e
            rw [List.take_append_drop] at this
            rw [this]; rfl
        go_wp2_with fail
        go_end0
        exact ⟨rfl, hK3.out, li, d', by omega, .inr ⟨hT.out, hW3'.out⟩⟩
      | false =>
        obtain ⟨hdd, x, hx, hli⟩ : d' = deep ∧ ∃ x, partsW (condW f) d least sep (ps.take j) = some x ∧ li = l ++ textP x := by
          rcases hI'.out.said with ⟨_, e1, e2⟩ | ⟨e, _⟩
          · exact ⟨e1, e2⟩
          · cases e
        have hdd' := hdd.symm
        have hx' := Lib.hid hx
        have hli' := Lib.hid hli
        clear hdd hx hli
        subst hdd'
        by_cases hj0 : j = 0
        · subst hj0
          rw [Nat.zero_mul, Nat.add_zero] at x0 x1 x2 x3
          have D := Lib.hid (hPq.out w0 b d f least deep w3 li _ hd hdp'.out hlst hfq R0'.out hB3.out (by have := hz3'.out; omega) htb'.out hW3'.out (by omega) (by omega))
          have hz3b := hz3'.out
          go_wp2_with fail
          refine D.out.mono ?_
          rintro e w5 ⟨rfl, hk5, l5, d5, hl5, hcase⟩
          have hz5 := hk5.size
          have hB5 := Lib.hid (hB3.out.trans (hk5.below (by omega)))
          have hK5 := Lib.hid (hK3.out.trans hk5)
          have hcase' := Lib.hid hcase
          have hT1 : Hid (partsW (condW f) d least sep (ps.take (0 + 1)) = partW (condW f) d least q) := by
            refine Lib.hid ?_
            rw [List.take_add_one, hqq'.out]; rfl
          clear hk5 hcase D x0 x1 x2 x3 x3c f2 f3 ff e3
          go_wp2_with fail
          go_roundw
          case rel =>
            have hc1 := hct'.out
            have hx0 : li = l := by
              have := hx'.out
              rw [List.take_zero] at this
              rw [hli'.out, ← Option.some.inj this]; simp [textP]
            rcases hcase'.out with ⟨y, hy, hly, hW5⟩ | ⟨hy, hW5⟩
            · refine ⟨0 + 1, l5, deep, false, by omega, by go_num, hW5, hK5.out, hB5.out, by omega, by omega, .inl ⟨rfl, rfl, ?_⟩⟩
              cases hpw : partW (condW f) d least q with
              | none => rw [hpw] at hy; cases hy
              | some z =>
                rw [hpw] at hy
                refine ⟨z, hT1.out.trans hpw, ?_⟩
                rw [hly, hx0, ← Option.some.inj hy]
            · refine ⟨0 + 1, l5, d5, true, by omega, by go_num, hW5, hK5.out, hB5.out, by omega, by omega, .inr ⟨rfl, ?_⟩⟩
              cases hpw : partW (condW f) d least q with
              | none => exact hT1.out.trans hpw
              | some z => rw [hpw] at hy; cases hy
          case measure => simp [intOf]; omega
        · have hjp : (0 : Int) < (j : Int) := by omega
          have hz3b := hz3'.out
          have D := Lib.hid (wstr_calls w0.heap.size b w3 li deep false btw hW3'.out (by omega) (by omega))
          go_wp2_with fail
          refine D.out.mono ?_
          rintro e w4 ⟨rfl, hW4, hk4⟩
          have hz4 := hk4.size
          have hbx4 := bq3'.out.wkeeps hk4 (by decide) (Ne.symm hne)
          have x4 := Blk.cell hbx4
          have hll : (li ++ btw.data.toList).length = li.length + btw.size := by rw [List.length_append, ← Lib.size_eq]
          have hB4 := hB3.out.trans (hk4.below (by omega))
          have D2 := Lib.hid (hPq.out w0 b d f least deep w4 (li ++ btw.data.toList) _ hd hdp'.out hlst hfq R0'.out hB4 (by omega) htb'.out hW4 (by omega) (by omega))
          have hK4 := Lib.hid (hK3.out.trans hk4)
          have hB4' := Lib.hid hB4
          have hll' := Lib.hid hll
          clear hW4 hk4 hbx4 hB4 hll D x0 x1 x2 x3 x3c f2 f3 ff e3
          go_wp2_with fail
          refine D2.out.mono ?_
          rintro e w5 ⟨rfl, hk5, l5, d5, hl5, hcase⟩
          have hz5 := hk5.size
          have hB5 := Lib.hid (hB4'.out.trans (hk5.below (by omega)))
          have hK5 := Lib.hid (hK4.out.trans hk5)
          have hcase' := Lib.hid hcase
          have hne2 : ps.take j ≠ [] := by
            intro e
            have := congrArg List.length e
            rw [List.length_take, hn'.out] at this
            have h0 : ([] : List CT).length = 0 := rfl
            omega
          have hT1 : Hid (partsW (condW f) d least sep (ps.take (j + 1)) = (partW (condW f) d least q).map fun y => x ++ sep ++ y) := by
            refine Lib.hid ?_
            have e1 : ps.take (j + 1) = ps.take j ++ [q] := by rw [List.take_add_one, hqq'.out]; rfl
            rw [e1, partsW_snoc _ _ hne2, hx'.out]
          have hl5b : l5.length ≤ l.length + cwL (ps.take (j + 1)) := by have := hll'.out; have := hct'.out; omega
          clear hk5 hcase D2 x4 hne2
          go_wp2_with fail
          go_roundw
          case rel =>
            rcases hcase'.out with ⟨y, hy, hly, hW5⟩ | ⟨hy, hW5⟩
            · refine ⟨j + 1, l5, deep, false, by omega, by go_num, hW5, hK5.out, hB5.out, by omega, hl5b, .inl ⟨rfl, rfl, ?_⟩⟩
              cases hpw : partW (condW f) d least q with
              | none => rw [hpw] at hy; cases hy
              | some z =>
                rw [hpw] at hy
                refine ⟨x ++ sep ++ z, by rw [hT1.out, hpw]; rfl, ?_⟩
                rw [hly, hli'.out, ← Option.some.inj hy, textP_app, textP_app, hsep'.out]
                simp
            · refine ⟨j + 1, l5, d5, true, by omega, by go_num, hW5, hK5.out, hB5.out, by omega, hl5b, .inr ⟨rfl, ?_⟩⟩
              cases hpw : partW (condW f) d least q with
              | none => rw [hT1.out, hpw]; rfl
              | some z => rw [hpw] at hy; cases hy
          case measure => simp [intOf]; omega
    · obtain rfl : j = n := by omega
      have hend : Hid (ps.take j = ps) := Lib.hid (List.take_of_length_le (by rw [hn'.out]; exact Nat.le_refl _))
      have hI' := Lib.hid hI
      clear hI
      go_wp2_with fail
      go_end0
      have hI := hI'.out
      have hlen := hI.len
      rw [hend.out] at hlen
      rcases hI.said with ⟨rfl, rfl, x, hx, hli⟩ | ⟨rfl, hx⟩
      · rw [hend.out] at hx
        exact ⟨rfl, hI.keeps, li, d', hlen, .inl ⟨textP x, by rw [hx]; rfl, hli, hI.wr_⟩⟩
      · rw [hend.out] at hx
        exact ⟨rfl, hI.keeps, li, d', hlen, .inr ⟨by rw [hx]; rfl, hI.wr_⟩⟩
end Go.Proofs.YtdfgbkilaepolaaGreatDoor
namespace Go.Proofs.YtdfgbkilaepolaaGreatDoor
open Go.RowKit
set_option maxHeartbeats 2000000 in
set_option maxRecDepth 100000 in
theorem parts_odd (n : Nat) (w0 : World) (b : Nat) (least : Int) (deep : Int) (w : World) (l : List UInt8) (p : Option Addr) (c : Nat) (ps : List CT) (ds : List Value) (btw : ByteArray) (hn : ps.length = n)
    (hrow : RowV w0 (.slice p n c) n ds) (hp : ∀ (i : Nat) (q : CT), ps[i]? = some q → CV w0 ((ds.drop (i * 4)).take 4) q) (hb0 : Below w0.heap.size w0 w) (h : WrAt w0.heap.size b w l deep true) :
    Calls Tryz.prog 95 #[.pointer (some ⟨b, 0, none⟩), .slice p n c, .string btw, .int .i64 least] w (WOdd 0 w0.heap.size b w l) := by
  have hmax := hrow.1
  unfold maxLen at hmax
  have hrow' := Lib.hid hrow
  have hp' := Lib.hid hp
  have hn' := Lib.hid hn
  have hb0' := Lib.hid hb0
  have h' := Lib.hid h
  clear hrow hp hn hb0 h
  go_enter Tryz.func95, Tryz.ntmps95
  go_wp2_with fail
  go_loopg [12] 0 (fun _ i wr => i = .int .i64 0 ∧ w = wr)
  case atStart => exact ⟨rfl, rfl⟩
  case round =>
    obtain ⟨rfl, rfl⟩ := hrel
    by_cases hlt : 0 < n
    · obtain ⟨q, hqq⟩ : ∃ q, ps[0]? = some q := ⟨_, List.getElem?_eq_getElem (by rw [hn'.out]; exact hlt)⟩
      obtain ⟨g, o, rfl, hc1, hcell⟩ := (hrow'.out.below hb0'.out).cell (by omega)
      obtain ⟨kq, mq, aq, pq, cq, Rq, -, lg, x0, x1, x2, x3⟩ := CV.part hcell hqq ((hp'.out 0 _ hqq).later hb0'.out)
      have hb3 := (Below.refl w.heap.size w).alloc (Nat.le_refl _) (.cells #[.int .i64 kq, .int .i64 mq, .string aq, .slice pq q.parts.length cq] 28)
      obtain ⟨w3, e3⟩ : ∃ w3, w.alloc (.cells #[.int .i64 kq, .int .i64 mq, .string aq, .slice pq q.parts.length cq] 28) = w3 := ⟨_, rfl⟩
      rw [e3] at hb3
      have hW3 := h'.out.later hb3
      obtain ⟨f2, f3, ff⟩ := hW3.flag
      have hW3' := Lib.hid hW3
      have hb3' := Lib.hid hb3
      have hl0 : (0 : Int) < (n : Int) := by omega
      clear hcell Rq hqq hW3 hb3
      rw [Nat.zero_mul, Nat.add_zero] at x0 x1 x2 x3
      go_wp2_with fail
      go_end0
      exact ⟨rfl, WKeeps.of_below hb3'.out, l, deep, Nat.le_refl _, hW3'.out⟩
    · have hl0 : ¬ (0 : Int) < (n : Int) := by omega
      obtain rfl : n = 0 := by omega
      go_wp2_with fail
      go_end0
      exact ⟨rfl, WKeeps.refl _ _ _, l, deep, Nat.le_refl _, h'.out⟩
/-- one part of a condition: its cells, as they lie, and as they are read anywhere later -/
theorem CV.part_at {w0 : World} {ps : List CT} {p : Option Addr} {c i : Nat} {ds : List Value} {q : CT} (hrow : RowV w0 (.slice p ps.length c) ps.length ds) (hp : ∀ (i : Nat) (q : CT), ps[i]? = some q → CV w0 ((ds.drop (i * 4)).take 4) q) (hq : ps[i]? = some q) :
    ∃ (g o : Nat) (k m : Int) (a : ByteArray) (pq : Option Addr) (cq : Nat), p = some ⟨g, o, none⟩ ∧ ps.length ≤ c ∧ CV w0 [.int .i64 k, .int .i64 m, .string a, .slice pq q.parts.length cq] q ∧ q.kind = k ∧ ∀ w, Below w0.heap.size w0 w → w.cell? ⟨g, o + i * 4, none⟩ = some (.int .i64 k) ∧ w.cell? ⟨g, o + i * 4 + 1, none⟩ = some (.int .i64 m) ∧ w.cell? ⟨g, o + i * 4 + 2, none⟩ = some (.string a) ∧ w.cell? ⟨g, o + i * 4 + 3, none⟩ = some (.slice pq q.parts.length cq) := by
  have hi := (List.getElem?_eq_some_iff.1 hq).1
  obtain ⟨g, o, rfl, hc, hcell⟩ := hrow.cell (by omega)
  obtain ⟨k, m, a, pq, cq, R, hqf, lg, x0, x1, x2, x3⟩ := CV.part hcell hq (hp i q hq)
  refine ⟨g, o, k, m, a, pq, cq, rfl, hc, R, by rw [hqf]; rfl, fun w hb => ⟨?_, ?_, ?_, ?_⟩⟩
  · rw [hb.cell (p := ⟨g, o + i * 4, none⟩) lg]; exact x0
  · rw [hb.cell (p := ⟨g, o + i * 4 + 1, none⟩) lg]; exact x1
  · rw [hb.cell (p := ⟨g, o + i * 4 + 2, none⟩) lg]; exact x2
  · rw [hb.cell (p := ⟨g, o + i * 4 + 3, none⟩) lg]; exact x3
theorem two_text {cond : Wr} {d l1 l2 : Nat} {sep : List Piece} {a b : CT} : textO (twoW cond d l1 l2 sep [a, b]) = match textO (partW cond d l1 a) with
    | none => none
    | some x => (textO (partW cond d l2 b)).map fun y => x ++ textP sep ++ y := by
  show (match partW cond d l1 a with | none => none | some x => (partW cond d l2 b).map fun y => x ++ sep ++ y).map textP = match (partW cond d l1 a).map textP with | none => none | some x => ((partW cond d l2 b).map textP).map fun y => x ++ textP sep ++ y
  cases partW cond d l1 a with
  | none => rfl
  | some x =>
    cases partW cond d l2 b with
    | none => rfl
    | some y =>
      show some (textP (x ++ sep ++ y)) = some (textP x ++ textP sep ++ textP y)
      rw [textP_app, textP_app]
set_option maxHeartbeats 4000000 in
set_option maxRecDepth 100000 in
theorem reckoned_12 (r q1 q2 : CT) (hk : r.kind = 12) (hps : r.parts = [q1, q2]) (h1 : PartOK q1) (h2 : PartOK q2) (w0 : World) (b d f : Nat) (deep : Int) (w : World) (l : List UInt8) (cs : List Value) (hd : d ≤ 8) (hdp : deep = 8 - (d : Int)) (hf1 : q1.size ≤ f) (hf2 : q2.size ≤ f) (hq : CV w0 cs r) (hb0 : Below w0.heap.size w0 w) (hz0 : w0.heap.size ≤ w.heap.size) (htb : Tb w0.heap.size w0) (h : WrAt w0.heap.size b w l deep false) (hln : l.length + r.cw ≤ 1000000000) (hcw : r.cw ≤ 1000000) :
    Calls Tryz.prog 98 #[.pointer (some ⟨b, 0, none⟩), .agg cs.toArray] w (WSaid (textO (twoW (condW f) d 5 6 (spc (mk [43])) [q1, q2])) r.cw w0.heap.size b w l deep) := by
  have hcr := cw_node r
  rw [hps, cwL_cons, cwL_cons, cwL_nil] at hcr
  have hcr1 : q1.cw + q2.cw + 16 ≤ r.cw := by omega
  obtain ⟨k, m, a, p, c, ds, rfl, hrf, hrow, -, hp⟩ := hq.form
  obtain rfl : k = 12 := by rw [hrf] at hk; exact hk
  have hpl : r.parts.length = 2 := by rw [hps]; rfl
  obtain ⟨g, o, k1, m1, a1, p1, c1, rfl, hc1, R1, -, X1⟩ := CV.part_at hrow hp (i := 0) (q := q1) (by rw [hps]; rfl)
  obtain ⟨g', o', k2, m2, a2, p2, c2, e2, -, R2, -, X2⟩ := CV.part_at hrow hp (i := 1) (q := q2) (by rw [hps]; rfl)
  obtain ⟨rfl, rfl⟩ : g' = g ∧ o' = o := by injection e2 with e; injection e with e1 e2; exact ⟨e1.symm, e2.symm⟩
  have hbl := h.lt
  have hb := (Below.refl w.heap.size w).alloc (Nat.le_refl _) (.cells #[.int .i64 12, .int .i64 m, .string a, .slice (some ⟨g', o', none⟩) r.parts.length c] 28)
  have hbx := Blk.new w 28 #[.int .i64 12, .int .i64 m, .string a, .slice (some ⟨g', o', none⟩) r.parts.length c]
  have hz1 := alloc_size w (.cells #[.int .i64 12, .int .i64 m, .string a, .slice (some ⟨g', o', none⟩) r.parts.length c] 28)
  rw [hpl] at hb hbx hz1 ⊢
  obtain ⟨w1, e1⟩ : ∃ w1, w.alloc (.cells #[.int .i64 12, .int .i64 m, .string a, .slice (some ⟨g', o', none⟩) 2 c] 28) = w1 := ⟨_, rfl⟩
  rw [e1] at hb hbx hz1
  have hw1 := Lib.hid (h.later hb)
  have hk1 := Lib.hid (WKeeps.of_below (B := w0.heap.size) (b := b) hb)
  have hb1 := Lib.hid (hb0.trans (hb.mono hz0))
  have x1 := Blk.cell hbx
  have hbx' := Lib.hid hbx
  have hz1' := Lib.hid hz1
  have hne : w.heap.size ≠ b := Nat.ne_of_gt hbl
  have Y1 := X1 w1 hb1.out
  obtain ⟨y0, y1, y2, y3⟩ := Y1
  rw [Nat.zero_mul, Nat.add_zero] at y0 y1 y2 y3
  have X2' := Lib.hid X2
  have hps' := Lib.hid hps
  have D := Lib.hid (h1 w0 b d f 5 deep w1 l _ hd hdp (by omega) hf1 R1 hb1.out (by omega) htb hw1.out (by omega) (by omega))
  have D2 := Lib.hid (fun (w : World) (l : List UInt8) hb hz h hl => h2 w0 b d f 6 deep w l _ hd hdp (by omega) hf2 R2 hb hz htb h hl (by omega))
  have O2 := Lib.hid (fun (w : World) (l : List UInt8) (dd : Int) hb hz h hl => part_odd w0 b w l _ q2 dd 6 R2 hb hz h hl)
  clear h h1 h2 hb hbx hz1 hb0 hrow hp R1 R2 X1 X2 hq hrf hk hcr hps hdp htb hpl e2
  go_enter Tryz.func98, Tryz.ntmps98
  go_wp2_with fail
  refine D.out.mono ?_
  rintro e w2 ⟨rfl, hk2, l2, d2, hl2, hcase⟩
  have hz2 := hk2.size
  have hz1b := hz1'.out
  have hk2' := Lib.hid (hk1.out.trans hk2)
  have hb2 := hb1.out.trans (hk2.below (by omega))
  have hb2' := Lib.hid hb2
  have hbx2 := Lib.hid (hbx'.out.wkeeps hk2 (by decide) hne)
  clear hk2 hb2 x1 y0 y1 y2 y3 D e1
  rcases hcase with ⟨x, hx, hlx, hW2⟩ | ⟨hx, hW2⟩
  · have hx' := Lib.hid hx
    have hlx' := Lib.hid hlx
    have S := Lib.hid (wstr_calls w0.heap.size b w2 l2 deep false ⟨#[32, 43, 32]⟩ hW2 (by show l2.length + 3 ≤ _; omega) (by omega))
    clear hx hlx hW2
    go_wp2_with fail
    refine S.out.mono ?_
    rintro e w3 ⟨rfl, hW3, hk3⟩
    have hz3 := hk3.size
    have hb3 := hb2'.out.trans (hk3.below (by omega))
    have hbx3 := hbx2.out.wkeeps hk3 (by decide) hne
    have x3 := Blk.cell hbx3
    obtain ⟨y0, y1, y2, y3⟩ := X2'.out w3 hb3
    rw [Nat.one_mul] at y0 y1 y2 y3
    have hll : (l2 ++ [32, 43, 32]).length = l2.length + 3 := by rw [List.length_append]; rfl
    have D := Lib.hid (D2.out w3 (l2 ++ [32, 43, 32]) hb3 (by omega) hW3 (by omega))
    have hk3' := Lib.hid (hk2'.out.trans hk3)
    have hll' := Lib.hid hll
    clear hW3 hk3 hb3 hbx3 S hll
    go_wp2_with fail
    refine D.out.mono ?_
    rintro e w4 ⟨rfl, hk4, l4, d4, hl4, hcase⟩
    go_wp2_with fail
    go_end0
    have hll := hll'.out
    refine ⟨rfl, hk3'.out.trans hk4, l4, d4, by omega, ?_⟩
    rw [two_text, hx'.out]
    rcases hcase with ⟨y, hy, hly, hW4⟩ | ⟨hy, hW4⟩
    · refine .inl ⟨x ++ [32, 43, 32] ++ y, by rw [hy]; rfl, ?_, hW4⟩
      rw [hly, hlx'.out]; simp
    · exact .inr ⟨by rw [hy]; rfl, hW4⟩
  · have hx' := Lib.hid hx
    have S := Lib.hid (wstr_calls w0.heap.size b w2 l2 d2 true ⟨#[32, 43, 32]⟩ hW2 (by show l2.length + 3 ≤ _; omega) (by omega))
    clear hx hW2
    go_wp2_with fail
    refine S.out.mono ?_
    rintro e w3 ⟨rfl, hW3, hk3⟩
    have hz3 := hk3.size
    have hb3 := hb2'.out.trans (hk3.below (by omega))
    have hbx3 := hbx2.out.wkeeps hk3 (by decide) hne
    have x3 := Blk.cell hbx3
    obtain ⟨y0, y1, y2, y3⟩ := X2'.out w3 hb3
    rw [Nat.one_mul] at y0 y1 y2 y3
    have hll : (l2 ++ [32, 43, 32]).length = l2.length + 3 := by rw [List.length_append]; rfl
    have D := Lib.hid (O2.out w3 (l2 ++ [32, 43, 32]) d2 hb3 (by omega) hW3 (by omega))
    have hk3' := Lib.hid (hk2'.out.trans hk3)
    have hll' := Lib.hid hll
    clear hW3 hk3 hb3 hbx3 S hll
    go_wp2_with fail
    refine D.out.mono ?_
    rintro e w4 ⟨rfl, hk4, l4, d4, hl4, hW4⟩
    go_wp2_with fail
    go_end0
    have hll := hll'.out
    refine ⟨rfl, hk3'.out.trans hk4, l4, d4, by omega, .inr ⟨?_, hW4⟩⟩
    rw [two_text, hx'.out]
set_option maxHeartbeats 4000000 in
set_option maxRecDepth 100000 in
theorem reckoned_13 (r q1 q2 : CT) (hk : r.kind = 13) (hps : r.parts = [q1, q2]) (h1 : PartOK q1) (h2 : PartOK q2) (w0 : World) (b d f : Nat) (deep : Int) (w : World) (l : List UInt8) (cs : List Value) (hd : d ≤ 8) (hdp : deep = 8 - (d : Int)) (hf1 : q1.size ≤ f) (hf2 : q2.size ≤ f) (hq : CV w0 cs r) (hb0 : Below w0.heap.size w0 w) (hz0 : w0.heap.size ≤ w.heap.size) (htb : Tb w0.heap.size w0) (h : WrAt w0.heap.size b w l deep false) (hln : l.length + r.cw ≤ 1000000000) (hcw : r.cw ≤ 1000000) :
    Calls Tryz.prog 98 #[.pointer (some ⟨b, 0, none⟩), .agg cs.toArray] w (WSaid (textO (twoW (condW f) d 5 6 (spc (mk minusL)) [q1, q2])) r.cw w0.heap.size b w l deep) := by
  have hcr := cw_node r
  rw [hps, cwL_cons, cwL_cons, cwL_nil] at hcr
  have hcr1 : q1.cw + q2.cw + 16 ≤ r.cw := by omega
  obtain ⟨k, m, a, p, c, ds, rfl, hrf, hrow, -, hp⟩ := hq.form
  obtain rfl : k = 13 := by rw [hrf] at hk; exact hk
  have hpl : r.parts.length = 2 := by rw [hps]; rfl
  obtain ⟨g, o, k1, m1, a1, p1, c1, rfl, hc1, R1, -, X1⟩ := CV.part_at hrow hp (i := 0) (q := q1) (by rw [hps]; rfl)
  obtain ⟨g', o', k2, m2, a2, p2, c2, e2, -, R2, -, X2⟩ := CV.part_at hrow hp (i := 1) (q := q2) (by rw [hps]; rfl)
  obtain ⟨rfl, rfl⟩ : g' = g ∧ o' = o := by injection e2 with e; injection e with e1 e2; exact ⟨e1.symm, e2.symm⟩
  have hbl := h.lt
  have hb := (Below.refl w.heap.size w).alloc (Nat.le_refl _) (.cells #[.int .i64 13, .int .i64 m, .string a, .slice (some ⟨g', o', none⟩) r.parts.length c] 28)
  have hbx := Blk.new w 28 #[.int .i64 13, .int .i64 m, .string a, .slice (some ⟨g', o', none⟩) r.parts.length c]
  have hz1 := alloc_size w (.cells #[.int .i64 13, .int .i64 m, .string a, .slice (some ⟨g', o', none⟩) r.parts.length c] 28)
  rw [hpl] at hb hbx hz1 ⊢
  obtain ⟨w1, e1⟩ : ∃ w1, w.alloc (.cells #[.int .i64 13, .int .i64 m, .string a, .slice (some ⟨g', o', none⟩) 2 c] 28) = w1 := ⟨_, rfl⟩
  rw [e1] at hb hbx hz1
  have hw1 := Lib.hid (h.later hb)
  have hk1 := Lib.hid (WKeeps.of_below (B := w0.heap.size) (b := b) hb)
  have hb1 := Lib.hid (hb0.trans (hb.mono hz0))
  have x1 := Blk.cell hbx
  have hbx' := Lib.hid hbx
  have hz1' := Lib.hid hz1
  have hne : w.heap.size ≠ b := Nat.ne_of_gt hbl
  have Y1 := X1 w1 hb1.out
  obtain ⟨y0, y1, y2, y3⟩ := Y1
  rw [Nat.zero_mul, Nat.add_zero] at y0 y1 y2 y3
  have X2' := Lib.hid X2
  have hps' := Lib.hid hps
  have D := Lib.hid (h1 w0 b d f 5 deep w1 l _ hd hdp (by omega) hf1 R1 hb1.out (by omega) htb hw1.out (by omega) (by omega))
  have D2 := Lib.hid (fun (w : World) (l : List UInt8) hb hz h hl => h2 w0 b d f 6 deep w l _ hd hdp (by omega) hf2 R2 hb hz htb h hl (by omega))
  have O2 := Lib.hid (fun (w : World) (l : List UInt8) (dd : Int) hb hz h hl => part_odd w0 b w l _ q2 dd 6 R2 hb hz h hl)
  clear h h1 h2 hb hbx hz1 hb0 hrow hp R1 R2 X1 X2 hq hrf hk hcr hps hdp htb hpl e2
  go_enter Tryz.func98, Tryz.ntmps98
  go_wp2_with fail
  refine D.out.mono ?_
  rintro e w2 ⟨rfl, hk2, l2, d2, hl2, hcase⟩
  have hz2 := hk2.size
  have hz1b := hz1'.out
  have hk2' := Lib.hid (hk1.out.trans hk2)
  have hb2 := hb1.out.trans (hk2.below (by omega))
  have hb2' := Lib.hid hb2
  have hbx2 := Lib.hid (hbx'.out.wkeeps hk2 (by decide) hne)
  clear hk2 hb2 x1 y0 y1 y2 y3 D e1
  rcases hcase with ⟨x, hx, hlx, hW2⟩ | ⟨hx, hW2⟩
  · have hx' := Lib.hid hx
    have hlx' := Lib.hid hlx
    have S := Lib.hid (wstr_calls w0.heap.size b w2 l2 deep false ⟨#[32, 45, 32]⟩ hW2 (by show l2.length + 3 ≤ _; omega) (by omega))
    clear hx hlx hW2
    go_wp2_with fail
    refine S.out.mono ?_
    rintro e w3 ⟨rfl, hW3, hk3⟩
    have hz3 := hk3.size
    have hb3 := hb2'.out.trans (hk3.below (by omega))
    have hbx3 := hbx2.out.wkeeps hk3 (by decide) hne
    have x3 := Blk.cell hbx3
    obtain ⟨y0, y1, y2, y3⟩ := X2'.out w3 hb3
    rw [Nat.one_mul] at y0 y1 y2 y3
    have hll : (l2 ++ [32, 45, 32]).length = l2.length + 3 := by rw [List.length_append]; rfl
    have D := Lib.hid (D2.out w3 (l2 ++ [32, 45, 32]) hb3 (by omega) hW3 (by omega))
    have hk3' := Lib.hid (hk2'.out.trans hk3)
    have hll' := Lib.hid hll
    clear hW3 hk3 hb3 hbx3 S hll
    go_wp2_with fail
    refine D.out.mono ?_
    rintro e w4 ⟨rfl, hk4, l4, d4, hl4, hcase⟩
    go_wp2_with fail
    go_end0
    have hll := hll'.out
    refine ⟨rfl, hk3'.out.trans hk4, l4, d4, by omega, ?_⟩
    rw [two_text, hx'.out]
    rcases hcase with ⟨y, hy, hly, hW4⟩ | ⟨hy, hW4⟩
    · refine .inl ⟨x ++ [32, 45, 32] ++ y, by rw [hy]; rfl, ?_, hW4⟩
      rw [hly, hlx'.out]; simp
    · exact .inr ⟨by rw [hy]; rfl, hW4⟩
  · have hx' := Lib.hid hx
    have S := Lib.hid (wstr_calls w0.heap.size b w2 l2 d2 true ⟨#[32, 45, 32]⟩ hW2 (by show l2.length + 3 ≤ _; omega) (by omega))
    clear hx hW2
    go_wp2_with fail
    refine S.out.mono ?_
    rintro e w3 ⟨rfl, hW3, hk3⟩
    have hz3 := hk3.size
    have hb3 := hb2'.out.trans (hk3.below (by omega))
    have hbx3 := hbx2.out.wkeeps hk3 (by decide) hne
    have x3 := Blk.cell hbx3
    obtain ⟨y0, y1, y2, y3⟩ := X2'.out w3 hb3
    rw [Nat.one_mul] at y0 y1 y2 y3
    have hll : (l2 ++ [32, 45, 32]).length = l2.length + 3 := by rw [List.length_append]; rfl
    have D := Lib.hid (O2.out w3 (l2 ++ [32, 45, 32]) d2 hb3 (by omega) hW3 (by omega))
    have hk3' := Lib.hid (hk2'.out.trans hk3)
    have hll' := Lib.hid hll
    clear hW3 hk3 hb3 hbx3 S hll
    go_wp2_with fail
    refine D.out.mono ?_
    rintro e w4 ⟨rfl, hk4, l4, d4, hl4, hW4⟩
    go_wp2_with fail
    go_end0
    have hll := hll'.out
    refine ⟨rfl, hk3'.out.trans hk4, l4, d4, by omega, .inr ⟨?_, hW4⟩⟩
    rw [two_text, hx'.out]
set_option maxHeartbeats 4000000 in
set_option maxRecDepth 100000 in
theorem reckoned_14 (r q1 q2 : CT) (hk : r.kind = 14) (hps : r.parts = [q1, q2]) (h1 : PartOK q1) (h2 : PartOK q2) (w0 : World) (b d f : Nat) (deep : Int) (w : World) (l : List UInt8) (cs : List Value) (hd : d ≤ 8) (hdp : deep = 8 - (d : Int)) (hf1 : q1.size ≤ f) (hf2 : q2.size ≤ f) (hq : CV w0 cs r) (hb0 : Below w0.heap.size w0 w) (hz0 : w0.heap.size ≤ w.heap.size) (htb : Tb w0.heap.size w0) (h : WrAt w0.heap.size b w l deep false) (hln : l.length + r.cw ≤ 1000000000) (hcw : r.cw ≤ 1000000) :
    Calls Tryz.prog 98 #[.pointer (some ⟨b, 0, none⟩), .agg cs.toArray] w (WSaid (textO (twoW (condW f) d 6 7 (spc (mk [42])) [q1, q2])) r.cw w0.heap.size b w l deep) := by
  have hcr := cw_node r
  rw [hps, cwL_cons, cwL_cons, cwL_nil] at hcr
  have hcr1 : q1.cw + q2.cw + 16 ≤ r.cw := by omega
  obtain ⟨k, m, a, p, c, ds, rfl, hrf, hrow, -, hp⟩ := hq.form
  obtain rfl : k = 14 := by rw [hrf] at hk; exact hk
  have hpl : r.parts.length = 2 := by rw [hps]; rfl
  obtain ⟨g, o, k1, m1, a1, p1, c1, rfl, hc1, R1, -, X1⟩ := CV.part_at hrow hp (i := 0) (q := q1) (by rw [hps]; rfl)
  obtain ⟨g', o', k2, m2, a2, p2, c2, e2, -, R2, -, X2⟩ := CV.part_at hrow hp (i := 1) (q := q2) (by rw [hps]; rfl)
  obtain ⟨rfl, rfl⟩ : g' = g ∧ o' = o := by injection e2 with e; injection e with e1 e2; exact ⟨e1.symm, e2.symm⟩
  have hbl := h.lt
  have hb := (Below.refl w.heap.size w).alloc (Nat.le_refl _) (.cells #[.int .i64 14, .int .i64 m, .string a, .slice (some ⟨g', o', none⟩) r.parts.length c] 28)
  have hbx := Blk.new w 28 #[.int .i64 14, .int .i64 m, .string a, .slice (some ⟨g', o', none⟩) r.parts.length c]
  have hz1 := alloc_size w (.cells #[.int .i64 14, .int .i64 m, .string a, .slice (some ⟨g', o', none⟩) r.parts.length c] 28)
  rw [hpl] at hb hbx hz1 ⊢
  obtain ⟨w1, e1⟩ : ∃ w1, w.alloc (.cells #[.int .i64 14, .int .i64 m, .string a, .slice (some ⟨g', o', none⟩) 2 c] 28) = w1 := ⟨_, rfl⟩
  rw [e1] at hb hbx hz1
  have hw1 := Lib.hid (h.later hb)
  have hk1 := Lib.hid (WKeeps.of_below (B := w0.heap.size) (b := b) hb)
  have hb1 := Lib.hid (hb0.trans (hb.mono hz0))
  have x1 := Blk.cell hbx
  have hbx' := Lib.hid hbx
  have hz1' := Lib.hid hz1
  have hne : w.heap.size ≠ b := Nat.ne_of_gt hbl
  have Y1 := X1 w1 hb1.out
  obtain ⟨y0, y1, y2, y3⟩ := Y1
  rw [Nat.zero_mul, Nat.add_zero] at y0 y1 y2 y3
  have X2' := Lib.hid X2
  have hps' := Lib.hid hps
  have D := Lib.hid (h1 w0 b d f 6 deep w1 l _ hd hdp (by omega) hf1 R1 hb1.out (by omega) htb hw1.out (by omega) (by omega))
  have D2 := Lib.hid (fun (w : World) (l : List UInt8) hb hz h hl => h2 w0 b d f 7 deep w l _ hd hdp (by omega) hf2 R2 hb hz htb h hl (by omega))
  have O2 := Lib.hid (fun (w : World) (l : List UInt8) (dd : Int) hb hz h hl => part_odd w0 b w l _ q2 dd 7 R2 hb hz h hl)
  clear h h1 h2 hb hbx hz1 hb0 hrow hp R1 R2 X1 X2 hq hrf hk hcr hps hdp htb hpl e2
  go_enter Tryz.func98, Tryz.ntmps98
  go_wp2_with fail
  refine D.out.mono ?_
  rintro e w2 ⟨rfl, hk2, l2, d2, hl2, hcase⟩
  have hz2 := hk2.size
  have hz1b := hz1'.out
  have hk2' := Lib.hid (hk1.out.trans hk2)
  have hb2 := hb1.out.trans (hk2.below (by omega))
  have hb2' := Lib.hid hb2
  have hbx2 := Lib.hid (hbx'.out.wkeeps hk2 (by decide) hne)
  clear hk2 hb2 x1 y0 y1 y2 y3 D e1
  rcases hcase with ⟨x, hx, hlx, hW2⟩ | ⟨hx, hW2⟩
  · have hx' := Lib.hid hx
    have hlx' := Lib.hid hlx
    have S := Lib.hid (wstr_calls w0.heap.size b w2 l2 deep false ⟨#[32, 42, 32]⟩ hW2 (by show l2.length + 3 ≤ _; omega) (by omega))
    clear hx hlx hW2
    go_wp2_with fail
    refine S.out.mono ?_
    rintro e w3 ⟨rfl, hW3, hk3⟩
    have hz3 := hk3.size
    have hb3 := hb2'.out.trans (hk3.below (by omega))
    have hbx3 := hbx2.out.wkeeps hk3 (by decide) hne
    have x3 := Blk.cell hbx3
    obtain ⟨y0, y1, y2, y3⟩ := X2'.out w3 hb3
    rw [Nat.one_mul] at y0 y1 y2 y3
    have hll : (l2 ++ [32, 42, 32]).length = l2.length + 3 := by rw [List.length_append]; rfl
    have D := Lib.hid (D2.out w3 (l2 ++ [32, 42, 32]) hb3 (by omega) hW3 (by omega))
    have hk3' := Lib.hid (hk2'.out.trans hk3)
    have hll' := Lib.hid hll
    clear hW3 hk3 hb3 hbx3 S hll
    go_wp2_with fail
    refine D.out.mono ?_
    rintro e w4 ⟨rfl, hk4, l4, d4, hl4, hcase⟩
    go_wp2_with fail
    go_end0
    have hll := hll'.out
    refine ⟨rfl, hk3'.out.trans hk4, l4, d4, by omega, ?_⟩
    rw [two_text, hx'.out]
    rcases hcase with ⟨y, hy, hly, hW4⟩ | ⟨hy, hW4⟩
    · refine .inl ⟨x ++ [32, 42, 32] ++ y, by rw [hy]; rfl, ?_, hW4⟩
      rw [hly, hlx'.out]; simp
    · exact .inr ⟨by rw [hy]; rfl, hW4⟩
  · have hx' := Lib.hid hx
    have S := Lib.hid (wstr_calls w0.heap.size b w2 l2 d2 true ⟨#[32, 42, 32]⟩ hW2 (by show l2.length + 3 ≤ _; omega) (by omega))
    clear hx hW2
    go_wp2_with fail
    refine S.out.mono ?_
    rintro e w3 ⟨rfl, hW3, hk3⟩
    have hz3 := hk3.size
    have hb3 := hb2'.out.trans (hk3.below (by omega))
    have hbx3 := hbx2.out.wkeeps hk3 (by decide) hne
    have x3 := Blk.cell hbx3
    obtain ⟨y0, y1, y2, y3⟩ := X2'.out w3 hb3
    rw [Nat.one_mul] at y0 y1 y2 y3
    have hll : (l2 ++ [32, 42, 32]).length = l2.length + 3 := by rw [List.length_append]; rfl
    have D := Lib.hid (O2.out w3 (l2 ++ [32, 42, 32]) d2 hb3 (by omega) hW3 (by omega))
    have hk3' := Lib.hid (hk2'.out.trans hk3)
    have hll' := Lib.hid hll
    clear hW3 hk3 hb3 hbx3 S hll
    go_wp2_with fail
    refine D.out.mono ?_
    rintro e w4 ⟨rfl, hk4, l4, d4, hl4, hW4⟩
    go_wp2_with fail
    go_end0
    have hll := hll'.out
    refine ⟨rfl, hk3'.out.trans hk4, l4, d4, by omega, .inr ⟨?_, hW4⟩⟩
    rw [two_text, hx'.out]
end Go.Proofs.YtdfgbkilaepolaaGreatDoor
