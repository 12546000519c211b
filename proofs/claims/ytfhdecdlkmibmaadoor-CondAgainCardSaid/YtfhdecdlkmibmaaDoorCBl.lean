/- Walk: conditions: the writer: parts with something between. -/
import Derived.Test.YtfhdecdlkmibmaaDoorCBk
namespace Go.Proofs.YtfhdecdlkmibmaaDoor
open Go.RowKit
section
variable {cond : Wr} {d least : Nat} {sep : List Piece}
theorem partsW_snoc : ∀ (ps : List CT) (q : CT), ps ≠ [] → partsW cond d least sep (ps ++ [q]) = match partsW cond d least sep ps with
    | none => none
    | some x => (partW cond d least q).map fun y => x ++ sep ++ y
  | [], _, h => absurd rfl h
  | [c], q, _ => rfl
  | c :: c2 :: l, q, _ => by
    have ih := partsW_snoc (c2 :: l) q (List.cons_ne_nil _ _)
    show (match partW cond d least c with | none => none | some x => (partsW cond d least sep (c2 :: l ++ [q])).map fun y => x ++ sep ++ y) = (match (match partW cond d least c with | none => none | some x => (partsW cond d least sep (c2 :: l)).map fun y => x ++ sep ++ y) with | none => none | some x => (partW cond d least q).map fun y => x ++ sep ++ y)
    rw [ih]
    cases partW cond d least c with
    | none => rfl
    | some x =>
      cases partsW cond d least sep (c2 :: l) with
      | none => rfl
      | some y =>
        cases partW cond d least q with
        | none => rfl
        | some z => show some _ = some _; simp
theorem partsW_dead : ∀ (qs ps : List CT), partsW cond d least sep ps = none → partsW cond d least sep (ps ++ qs) = none
  | [], ps, h => by rw [List.append_nil]; exact h
  | q :: qs, ps, h => by
    have hne : ps ≠ [] := by rintro rfl; cases h
    have e : ps ++ q :: qs = (ps ++ [q]) ++ qs := by simp
    rw [e]
    exact partsW_dead qs (ps ++ [q]) (by rw [partsW_snoc ps q hne, h])
end
theorem cwL_app : ∀ a b : List CT, cwL (a ++ b) = cwL a + cwL b
  | [], b => by rw [cwL_nil, List.nil_append, Nat.zero_add]
  | c :: a, b => by rw [List.cons_append, cwL_cons, cwL_cons, cwL_app a b]; omega
theorem cwL_take {ps : List CT} {j : Nat} {q : CT} (h : ps[j]? = some q) : cwL (ps.take (j + 1)) = cwL (ps.take j) + (q.cw + 8) := by
  rw [List.take_add_one, h, cwL_app]
  show _ + cwL [q] = _
  rw [cwL_cons, cwL_nil, Nat.add_zero]
theorem cwL_le {ps : List CT} (j : Nat) : cwL (ps.take j) ≤ cwL ps := by
  have h := cwL_app (ps.take j) (ps.drop j)
  rw [List.take_append_drop] at h
  omega
/-- so far: the text of the first parts, or something went wrong -/
structure PInv (cond : Wr) (d least : Nat) (sep : List Piece) (ps : List CT) (B b : Nat) (w0 w : World) (l : List UInt8) (deep : Int) (j : Nat) (wr : World) (li : List UInt8) (d' : Int) (bad : Bool) : Prop where
  wr_ : WrAt B b wr li d' bad
  keeps : WKeeps B b w wr
  below : Below w0.heap.size w0 wr
  size : w.heap.size ≤ wr.heap.size
  len : li.length ≤ l.length + cwL (ps.take j)
  said : (bad = false ∧ d' = deep ∧ ∃ x, partsW cond d least sep (ps.take j) = some x ∧ li = l ++ textP x) ∨ (bad = true ∧ partsW cond d least sep (ps.take j) = none)
set_option maxHeartbeats 8000000 in
set_option maxRecDepth 100000 in
theorem parts_ok (ps : List CT) (hps : ∀ q ∈ ps, PartOK q) (w0 : World) (b d f least : Nat) (deep : Int) (w : World) (l : List UInt8) (p : Option Addr) (c : Nat) (ds : List Value) (btw : ByteArray) (sep : List Piece) (hsep : textP sep = btw.data.toList) (hbs : btw.size ≤ 5) (hd : d ≤ 8) (hdp : deep = 8 - (d : Int)) (hlst : least ≤ 100)
    (hf : ∀ q ∈ ps, q.size ≤ f) (hrow : RowV w0 (.slice p ps.length c) ps.length ds) (hp : ∀ (i : Nat) (q : CT), ps[i]? = some q → CV w0 ((ds.drop (i * 4)).take 4) q) (hb0 : Below w0.heap.size w0 w) (hz0 : w0.heap.size ≤ w.heap.size) (htb : Tb w0.heap.size w0) (h : WrAt w0.heap.size b w l deep false) (hln : l.length + cwL ps ≤ 1000000000) (hcw : cwL ps ≤ 1000000) :
    Calls Tryd.prog 36 #[.pointer (some ⟨b, 0, none⟩), .slice p ps.length c, .string btw, .int .i64 least] w (WSaid (textO (partsW (condW f) d least sep ps)) (cwL ps) w0.heap.size b w l deep) := by
  have hmax := hrow.1
  unfold maxLen at hmax
  have hps' := Lib.hid hps
  have hsep' := Lib.hid hsep
  have hdp' := Lib.hid hdp
  have hf' := Lib.hid hf
  have hrow' := Lib.hid hrow
  have hp' := Lib.hid hp
  have htb' := Lib.hid htb
  have hI : Hid (PInv (condW f) d least sep ps w0.heap.size b w0 w l deep 0 w l deep false) := Lib.hid ⟨h, WKeeps.refl _ _ _, hb0, Nat.le_refl _, by omega, .inl ⟨rfl, rfl, [], rfl, by simp [textP]⟩⟩
  generalize hn : ps.length = n at *
  have hn' := Lib.hid hn
  clear hps hsep hdp hf hrow hp htb h hn hb0
  go_enter Tryd.func36, Tryd.ntmps36
  go_wp2_with fail
  go_loopw [12] (fun i wr => ∃ (j : Nat) (li : List UInt8) (d' : Int) (bad : Bool), j ≤ n ∧ i = .int .i64 j ∧ PInv (condW f) d least sep ps w0.heap.size b w0 w l deep j wr li d' bad) (fun i _ => n - (intOf i).toNat)
  case atStart => exact ⟨0, l, deep, false, Nat.zero_le _, rfl, hI.out⟩
  case round =>
    obtain ⟨j, li, d', bad, hj, rfl, hI⟩ := hrel
    by_cases hlt : j < n
    · have hjl : j < ps.length := by rw [hn'.out]; exact hlt
      obtain ⟨q, hqq⟩ : ∃ q, ps[j]? = some q := ⟨_, List.getElem?_eq_getElem hjl⟩
      have hqm := List.mem_of_getElem? hqq
      obtain ⟨g, o, rfl, hc1, hcell⟩ := (hrow'.out.below hI.below).cell (by omega)
      obtain ⟨kq, mq, aq, pq, cq, Rq, -, lg, x0, x1, x2, x3⟩ := CV.part hcell hqq ((hp'.out j _ hqq).later hI.below)
      have R0 : CV w0 [.int .i64 kq, .int .i64 mq, .string aq, .slice pq q.parts.length cq] q := by
        obtain ⟨g0, o0, e0, _, hcell0⟩ := hrow'.out.cell (by omega)
        obtain ⟨rfl, rfl⟩ : g = g0 ∧ o = o0 := by injection e0 with e; injection e with e1 e2; exact ⟨e1, e2⟩
        obtain ⟨k2, m2, a2, p2, c2, R2, -, l2, y0, y1, y2, y3⟩ := CV.part hcell0 hqq (hp'.out j _ hqq)
        rw [hI.below.cell (p := ⟨g, o + j * 4, none⟩) l2, y0] at x0
        rw [hI.below.cell (p := ⟨g, o + j * 4 + 1, none⟩) l2, y1] at x1
        rw [hI.below.cell (p := ⟨g, o + j * 4 + 2, none⟩) l2, y2] at x2
        rw [hI.below.cell (p := ⟨g, o + j * 4 + 3, none⟩) l2, y3] at x3
        rw [← Option.some.inj x0, ← Option.some.inj x1, ← Option.some.inj x2, ← Option.some.inj x3]
        exact R2
      obtain ⟨w3, e3⟩ : ∃ w3, wr.alloc (.cells #[.int .i64 kq, .int .i64 mq, .string aq, .slice pq q.parts.length cq] 25) = w3 := ⟨_, rfl⟩
      have hb3 := (Below.refl wr.heap.size wr).alloc (Nat.le_refl _) (.cells #[.int .i64 kq, .int .i64 mq, .string aq, .slice pq q.parts.length cq] 25)
      have bq3 := Blk.new wr 25 #[.int .i64 kq, .int .i64 mq, .string aq, .slice pq q.parts.length cq]
      have hz3 : w3.heap.size = wr.heap.size + 1 := by rw [← e3]; simp
      rw [e3] at hb3 bq3
      have hsz := hI.size
      have hB3 := Lib.hid (hI.below.trans (hb3.mono (by omega)))
      have hW3 := hI.wr_.later hb3
      have hK3 := Lib.hid (hI.keeps.trans (WKeeps.of_below hb3))
      have hbl := hI.wr_.lt
      have hne : b ≠ wr.heap.size := Nat.ne_of_lt hbl
      obtain ⟨f2, f3, ff⟩ := hW3.flag
      have hW3' := Lib.hid hW3
      have bq3' := Lib.hid bq3
      have x3c := bq3.cell
      have hlen := hI.len
      have hcj := cwL_le (ps := ps) j
      have hct := cwL_take hqq
      have hcj2 := cwL_le (ps := ps) (j + 1)
      have hI' := Lib.hid hI
      have hqq' := Lib.hid hqq
      have hz3' := Lib.hid hz3
      have hPq := Lib.hid (hps'.out q hqm)
      have hfq := hf'.out q hqm
      have R0' := Lib.hid R0
      have hcc : cwL (ps.take j) + q.cw + 8 ≤ cwL ps := by omega
      have hct' := Lib.hid hct
      clear hI hqq hb3 bq3 hW3 hcell Rq R0 hqm hct hjl hz3
      cases bad with
      | true =>
        have hT : Hid (textO (partsW (condW f) d least sep ps) = none) := by
          refine Lib.hid ?_
          rcases hI'.out.said with ⟨e, _⟩ | ⟨_, e⟩
          · cases e
          · have := partsW_dead (ps.drop j) _ e
            rw [List.take_append_drop] at this
            rw [this]; rfl
        go_wp2_with fail
        go_end0
        exact ⟨rfl, hK3.out, li, d', by omega, .inr ⟨hT.out, hW3'.out⟩⟩
      | false =>
        obtain ⟨hdd, x, hx, hli⟩ : d' = deep ∧ ∃ x, partsW (condW f) d least sep (ps.take j) = some x ∧ li = l ++ textP x := by
          rcases hI'.out.said with ⟨_, e1, e2⟩ | ⟨e, _⟩
          · exact ⟨e1, e2⟩
          · cases e
        have hdd' := hdd.symm
        have hx' := Lib.hid hx
        have hli' := Lib.hid hli
        clear hdd hx hli
        subst hdd'
        by_cases hj0 : j = 0
        · subst hj0
          rw [Nat.zero_mul, Nat.add_zero] at x0 x1 x2 x3
          have D := Lib.hid (hPq.out w0 b d f least deep w3 li _ hd hdp'.out hlst hfq R0'.out hB3.out (by have := hz3'.out; omega) htb'.out hW3'.out (by omega) (by omega))
          have hz3b := hz3'.out
          go_wp2_with fail
          refine D.out.mono ?_
          rintro e w5 ⟨rfl, hk5, l5, d5, hl5, hcase⟩
          have hz5 := hk5.size
          have hB5 := Lib.hid (hB3.out.trans (hk5.below (by omega)))
          have hK5 := Lib.hid (hK3.out.trans hk5)
          have hcase' := Lib.hid hcase
          have hT1 : Hid (partsW (condW f) d least sep (ps.take (0 + 1)) = partW (condW f) d least q) := by
            refine Lib.hid ?_
            rw [List.take_add_one, hqq'.out]; rfl
          clear hk5 hcase D x0 x1 x2 x3 x3c f2 f3 ff e3
          go_wp2_with fail
          go_roundw
          case rel =>
            have hc1 := hct'.out
            have hx0 : li = l := by
              have := hx'.out
              rw [List.take_zero] at this
              rw [hli'.out, ← Option.some.inj this]; simp [textP]
            rcases hcase'.out with ⟨y, hy, hly, hW5⟩ | ⟨hy, hW5⟩
            · refine ⟨0 + 1, l5, deep, false, by omega, by go_num, hW5, hK5.out, hB5.out, by omega, by omega, .inl ⟨rfl, rfl, ?_⟩⟩
              cases hpw : partW (condW f) d least q with
              | none => rw [hpw] at hy; cases hy
              | some z =>
                rw [hpw] at hy
                refine ⟨z, hT1.out.trans hpw, ?_⟩
                rw [hly, hx0, ← Option.some.inj hy]
            · refine ⟨0 + 1, l5, d5, true, by omega, by go_num, hW5, hK5.out, hB5.out, by omega, by omega, .inr ⟨rfl, ?_⟩⟩
              cases hpw : partW (condW f) d least q with
              | none => exact hT1.out.trans hpw
              | some z => rw [hpw] at hy; cases hy
          case measure => simp [intOf]; omega
        · have hjp : (0 : Int) < (j : Int) := by omega
          have hz3b := hz3'.out
          have D := Lib.hid (wstr_calls w0.heap.size b w3 li deep false btw hW3'.out (by omega) (by omega))
          go_wp2_with fail
          refine D.out.mono ?_
          rintro e w4 ⟨rfl, hW4, hk4⟩
          have hz4 := hk4.size
          have hbx4 := bq3'.out.wkeeps hk4 (by decide) (Ne.symm hne)
          have x4 := Blk.cell hbx4
          have hll : (li ++ btw.data.toList).length = li.length + btw.size := by rw [List.length_append, ← Lib.size_eq]
          have hB4 := hB3.out.trans (hk4.below (by omega))
          have D2 := Lib.hid (hPq.out w0 b d f least deep w4 (li ++ btw.data.toList) _ hd hdp'.out hlst hfq R0'.out hB4 (by omega) htb'.out hW4 (by omega) (by omega))
          have hK4 := Lib.hid (hK3.out.trans hk4)
          have hB4' := Lib.hid hB4
          have hll' := Lib.hid hll
          clear hW4 hk4 hbx4 hB4 hll D x0 x1 x2 x3 x3c f2 f3 ff e3
          go_wp2_with fail
          refine D2.out.mono ?_
          rintro e w5 ⟨rfl, hk5, l5, d5, hl5, hcase⟩
          have hz5 := hk5.size
          have hB5 := Lib.hid (hB4'.out.trans (hk5.below (by omega)))
          have hK5 := Lib.hid (hK4.out.trans hk5)
          have hcase' := Lib.hid hcase
          have hne2 : ps.take j ≠ [] := by
            intro e
            have := congrArg List.length e
            rw [List.length_take, hn'.out] at this
            have h0 : ([] : List CT).length = 0 := rfl
            omega
          have hT1 : Hid (partsW (condW f) d least sep (ps.take (j + 1)) = (partW (condW f) d least q).map fun y => x ++ sep ++ y) := by
            refine Lib.hid ?_
            have e1 : ps.take (j + 1) = ps.take j ++ [q] := by rw [List.take_add_one, hqq'.out]; rfl
            rw [e1, partsW_snoc _ _ hne2, hx'.out]
          have hl5b : l5.length ≤ l.length + cwL (ps.take (j + 1)) := by have := hll'.out; have := hct'.out; omega
          clear hk5 hcase D2 x4 hne2
          go_wp2_with fail
          go_roundw
          case rel =>
            rcases hcase'.out with ⟨y, hy, hly, hW5⟩ | ⟨hy, hW5⟩
            · refine ⟨j + 1, l5, deep, false, by omega, by go_num, hW5, hK5.out, hB5.out, by omega, hl5b, .inl ⟨rfl, rfl, ?_⟩⟩
              cases hpw : partW (condW f) d least q with
              | none => rw [hpw] at hy; cases hy
              | some z =>
                rw [hpw] at hy
                refine ⟨x ++ sep ++ z, by rw [hT1.out, hpw]; rfl, ?_⟩
                rw [hly, hli'.out, ← Option.some.inj hy, textP_app, textP_app, hsep'.out]
                simp
            · refine ⟨j + 1, l5, d5, true, by omega, by go_num, hW5, hK5.out, hB5.out, by omega, hl5b, .inr ⟨rfl, ?_⟩⟩
              cases hpw : partW (condW f) d least q with
              | none => rw [hT1.out, hpw]; rfl
              | some z => rw [hpw] at hy; cases hy
          case measure => simp [intOf]; omega
    · obtain rfl : j = n := by omega
      have hend : Hid (ps.take j = ps) := Lib.hid (List.take_of_length_le (by rw [hn'.out]; exact Nat.le_refl _))
      have hI' := Lib.hid hI
      clear hI
      go_wp2_with fail
      go_end0
      have hI := hI'.out
      have hlen := hI.len
      rw [hend.out] at hlen
      rcases hI.said with ⟨rfl, rfl, x, hx, hli⟩ | ⟨rfl, hx⟩
      · rw [hend.out] at hx
        exact ⟨rfl, hI.keeps, li, d', hlen, .inl ⟨textP x, by rw [hx]; rfl, hli, hI.wr_⟩⟩
      · rw [hend.out] at hx
        exact ⟨rfl, hI.keeps, li, d', hlen, .inr ⟨by rw [hx]; rfl, hI.wr_⟩⟩
end Go.Proofs.YtfhdecdlkmibmaaDoor
