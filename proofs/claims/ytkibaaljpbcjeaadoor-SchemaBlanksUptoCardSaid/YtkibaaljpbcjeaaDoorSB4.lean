/- Walk: the writer's parts. -/
import Derived.Test.YtkibaaljpbcjeaaDoorSB3
namespace Go.Proofs.YtkibaaljpbcjeaaDoor
open Go.RowKit
theorem sep_len (k : Int) : (sepT k).length = 3 := by unfold sepT; split <;> rfl
theorem partT_0 {k : Int} {q : RT} (h5 : k = 5) (h4 : q.kind = 4) : partT k 0 q = none := by unfold partT; rw [if_pos ⟨h5, h4⟩]
theorem partT_s {k : Int} {q : RT} (h5 : k = 5) (h4 : q.kind = 4) (d : Nat) : partT k (d + 1) q = (ruleT d q).map fun t => opL ++ t ++ clL := by unfold partT; rw [if_pos ⟨h5, h4⟩]
/-- a part in brackets -/
theorem bracket_rule {k : Int} {q : RT} (h5 : k = 5) (h4 : q.kind = 4) (hOK : RuleOK q) (hodd : RuleOdd) {d : Nat} {deep : Int} (hd : d ≤ 8) (hdp : deep = 8 - d) {w0 w5 : World} {b : Nat} {l5 : List UInt8} {kq : Int} {aq bq : ByteArray} {pq : Option Addr} {cq : Nat}
    (hR : RV w0 [.int .i64 kq, .string aq, .string bq, .slice pq q.parts.length cq] q) (hB : Below w0.heap.size w0 w5) (hz : w0.heap.size ≤ w5.heap.size) (hW : WrAt w0.heap.size b w5 l5 false) (hl : l5.length + q.wt ≤ 1000000000) :
    ∃ o8, (deep == 8) = o8 ∧ ∀ w6, w5.setCell ⟨b, 2, none⟩ (.bool o8) = w6 → Calls Tryd.prog 27 #[.pointer (some ⟨b, 0, none⟩), .agg #[.int .i64 kq, .string aq, .string bq, .slice pq q.parts.length cq], .int .i64 (deep + 1)] w6 fun e w7 => e = .returned (.tuple #[]) ∧ WKeeps w0.heap.size b w6 w7 ∧ ∃ l7 o7, WrAt w0.heap.size b w7 l7 o7 ∧ l7.length ≤ l5.length + q.wt ∧ ((o7 = true ∧ partT k d q = none) ∨ (o7 = false ∧ ∃ t, partT k d q = some (opL ++ t ++ clL) ∧ l7 = l5 ++ t)) := by
  match d, hd, hdp with
  | 0, _, hdp =>
    refine ⟨true, by rw [hdp]; rfl, fun w6 e6 => ?_⟩
    obtain ⟨hW6, hK6⟩ := hW.odd true
    rw [e6] at hW6 hK6
    refine (hodd _ b w6 _ [.int .i64 kq, .string aq, .string bq, .slice pq q.parts.length cq] (deep + 1) rfl ⟨_, _, _, _, _, _, rfl⟩ (by have := hK6.size; omega) hW6).mono ?_
    rintro e w7 ⟨rfl, hK7, hW7⟩
    exact ⟨rfl, hK7, _, _, hW7, by omega, .inl ⟨rfl, partT_0 h5 h4⟩⟩
  | d + 1, hd, hdp =>
    refine ⟨false, beq_false_of_ne (by omega), fun w6 e6 => ?_⟩
    obtain ⟨hW6, hK6⟩ := hW.odd false
    rw [e6] at hW6 hK6
    have hB6 : Below w0.heap.size w0 w6 := hB.trans (hK6.below hz)
    refine (hOK w0 b d (deep + 1) w6 _ _ (by omega) (by omega) hR hB6 (by have := hK6.size; omega) hW6 hl).mono ?_
    rintro e w7 ⟨rfl, hK7, l7, hl7, hs7⟩
    refine ⟨rfl, hK7, l7, ?_⟩
    rcases hs7 with ⟨x, hx, hlx, hw7⟩ | ⟨hx, hw7⟩
    · exact ⟨false, hw7, hl7, .inr ⟨rfl, x, by rw [partT_s h5 h4, hx]; rfl, hlx⟩⟩
    · exact ⟨true, hw7, hl7, .inl ⟨rfl, by rw [partT_s h5 h4, hx]; rfl⟩⟩
set_option maxHeartbeats 8000000 in
set_option maxRecDepth 100000 in
theorem wparts_calls (k : Int) (hk : k = 4 ∨ k = 5) (sg : ByteArray) (hsg : sg.data.toList = sepT k) (a bb : ByteArray) (p : Option Addr) (c : Nat) (ps : List RT) (ds : List Value) (w0 : World) (hrow : RowV w0 (.slice p ps.length c) ps.length ds)
    (hps : ∀ (i : Nat) (q : RT), ps[i]? = some q → RV w0 ((ds.drop (i * 4)).take 4) q) (hrec : ∀ q ∈ ps, RuleOK q) (hodd : RuleOdd) (b d : Nat) (deep : Int) (w : World) (l : List UInt8) (hd : d ≤ 8) (hdp : deep = 8 - d) (hB0 : Below w0.heap.size w0 w) (hz0 : w0.heap.size ≤ w.heap.size) (h : WrAt w0.heap.size b w l false) (hl : l.length + wtL ps + 8 ≤ 1000000000) :
    Calls Tryd.prog 48 #[.pointer (some ⟨b, 0, none⟩), .agg #[.int .i64 k, .string a, .string bb, .slice p ps.length c], .string sg, .int .i64 deep] w (WSaid (partsT k d true ps) (wtL ps + 8) w0.heap.size b w l) := by
  have hbl := h.lt
  have hsgl : sg.size = 3 := by rw [Lib.size_eq, hsg, sep_len]
  have hmax := hrow.1
  unfold maxLen at hmax
  obtain ⟨w1, e1⟩ : ∃ w1, w.alloc (.cells #[.int .i64 k, .string a, .string bb, .slice p ps.length c] 42) = w1 := ⟨_, rfl⟩
  have hb1 := (Below.refl w.heap.size w).alloc (Nat.le_refl _) (.cells #[.int .i64 k, .string a, .string bb, .slice p ps.length c] 42)
  have bx1 := Blk.new w 42 #[.int .i64 k, .string a, .string bb, .slice p ps.length c]
  have hz1 : w1.heap.size = w.heap.size + 1 := by rw [← e1]; simp
  rw [e1] at hb1 bx1
  have h1 := h.later hb1
  have bx1c := bx1.cell
  have hrow' := Lib.hid hrow
  have hps' := Lib.hid hps
  have hrec' := Lib.hid hrec
  have hodd' := Lib.hid hodd
  have hB0' := Lib.hid hB0
  have hb1' := Lib.hid hb1
  have bx1' := Lib.hid bx1
  have h1' := Lib.hid h1
  have hsg' := Lib.hid hsg
  have hk' := Lib.hid hk
  have hdp' := Lib.hid hdp
  have hd0 : 0 ≤ deep := by omega
  have hd8 : deep ≤ 8 := by omega
  clear hrow hps hrec hodd hB0 hb1 bx1 h1 h hsg hk hdp
  generalize hn : ps.length = n at *
  have hn' := Lib.hid hn
  clear hn
  go_enter Tryd.func48, Tryd.ntmps48
  go_wp2_with fail
  go_loopw [13] (fun i wr => ∃ (j : Nat) (li : List UInt8) (odd : Bool), j ≤ n ∧ i = .int .i64 j ∧ PInv k d ps l j li odd ∧ WrAt w0.heap.size b wr li odd ∧ Blk wr w.heap.size 42 #[.int .i64 k, .string a, .string bb, .slice p n c] ∧ WKeeps w0.heap.size b w wr ∧ w.heap.size + 1 ≤ wr.heap.size) (fun i _ => n - (intOf i).toNat)
  case atStart => exact ⟨0, l, false, Nat.zero_le _, rfl, PInv.start k d ps l, h1'.out, bx1'.out, WKeeps.of_below hb1'.out, by omega⟩
  case round =>
    obtain ⟨j, li, odd, hj, rfl, hI, hW, hX, hK, hz⟩ := hrel
    by_cases hlt : j < n
    · have hjl : j < ps.length := by rw [hn'.out]; exact hlt
      obtain ⟨q, hq⟩ : ∃ q, ps[j]? = some q := ⟨_, List.getElem?_eq_getElem hjl⟩
      have hBr : Below w0.heap.size w0 wr := hB0'.out.trans (hK.below hz0)
      obtain ⟨g, o, rfl, hc1, hcell⟩ := hrow'.out.cell (by omega)
      obtain ⟨kq, aq, bq, pq, cq, Rq, hqe, lg, x0, x1, x2, x3⟩ := RV.part hcell hq (hps'.out j _ hq)
      have hkq : q.kind = kq := by rw [hqe]; rfl
      have tr : ∀ i v, w0.cell? ⟨g, i, none⟩ = some v → wr.cell? ⟨g, i, none⟩ = some v := fun i v hv => by rw [hBr.cell (p := ⟨g, i, none⟩) lg]; exact hv
      have y0 := tr _ _ x0
      have y1 := tr _ _ x1
      have y2 := tr _ _ x2
      have y3 := tr _ _ x3
      have lgr : g < wr.heap.size := by have := hBr.size; omega
      -- the part's box
      obtain ⟨w2, e2⟩ : ∃ w2, wr.alloc (.cells #[.int .i64 kq, .string aq, .string bq, .slice pq q.parts.length cq] 42) = w2 := ⟨_, rfl⟩
      have hb2 := (Below.refl wr.heap.size wr).alloc (Nat.le_refl _) (.cells #[.int .i64 kq, .string aq, .string bq, .slice pq q.parts.length cq] 42)
      have bq2 := Blk.new wr 42 #[.int .i64 kq, .string aq, .string bq, .slice pq q.parts.length cq]
      have hz2 : w2.heap.size = wr.heap.size + 1 := by rw [← e2]; simp
      rw [e2] at hb2 bq2
      have hW2 := hW.later hb2
      have hX2 := hX.below hb2 (by omega)
      have hK2 : WKeeps w0.heap.size b w w2 := hK.trans (WKeeps.of_below hb2)
      have hblr := hW.lt
      have hlen := hI.len
      have hwt : q.wt + 8 + wtL (ps.drop (j + 1)) = wtL (ps.drop j) := by
        have : ps.drop j = q :: ps.drop (j + 1) := by rw [List.drop_eq_getElem_cons hjl, (List.getElem?_eq_some_iff.1 hq).2]
        rw [this]; conv => rhs; unfold wtL
      have hq' := Lib.hid hq
      have hI' := Lib.hid hI
      have hn2 := Lib.hid hqe
      have Rq' := Lib.hid Rq
      have hKo := Lib.hid hK2
      have hW2' := Lib.hid hW2
      have bq2' := Lib.hid bq2
      have hX2' := Lib.hid hX2
      have hb2' := Lib.hid hb2
      have hqm := Lib.hid (List.mem_of_getElem? hq)
      clear hI hqe Rq hK hW hX hK2 hW2 bq2 hX2 hb2 tr hcell x0 x1 x2 x3 hjl hq
      rcases Nat.eq_zero_or_pos j with hj0 | hj0
      case' inl =>
        obtain ⟨w3, e3⟩ : ∃ w3 : World, w3 = w2 := ⟨_, rfl⟩
        have hW3 : WrAt w0.heap.size b w3 (li ++ (if j = 0 then [] else sepT k)) odd := by rw [if_pos hj0, List.append_nil, e3]; exact hW2'.out
        have hK23 : WKeeps w0.heap.size b w2 w3 := by rw [e3]; exact WKeeps.refl _ _ _
        have hW3' := Lib.hid hW3
        have hK23' := Lib.hid hK23
        rw [← e3] at e2
        clear hW3 hK23 e3
        rw [hj0, Nat.zero_mul, Nat.add_zero] at y0 y1 y2 y3
      case' inr =>
        have hput := put_calls _ b w2 li odd sg hW2'.out (by omega) (by omega)
        have hput' := Lib.hid hput
        clear hput
        go_wp2_with fail
        refine hput'.out.mono ?_
        rintro e w3 ⟨rfl, hW3, hK23⟩
        rw [hsg'.out, show sepT k = (if j = 0 then [] else sepT k) from (if_neg (by omega)).symm] at hW3
        have hW3' := Lib.hid hW3
        have hK23' := Lib.hid hK23
        clear hW3 hK23 hput' e2
      all_goals
        have hl3 : (li ++ (if j = 0 then [] else sepT k)).length ≤ li.length + 3 := by
          have hsl := sep_len k
          rw [List.length_append]
          by_cases h0 : j = 0
          · rw [if_pos h0]; simp
          · rw [if_neg h0]; omega
        generalize hli : li ++ (if j = 0 then [] else sepT k) = li3 at *
        have hli' := Lib.hid hli
        clear hli
        have bq3 := bq2'.out.wkeeps hK23'.out (by decide) (by omega)
        have hX3 := hX2'.out.wkeeps hK23'.out (by decide) (by omega)
        have hz3 := hK23'.out.size
        have hK3 := hKo.out.trans hK23'.out
        obtain ⟨q3c, q3f⟩ := hW3'.out.flag
        have q3f2 := q3f 2
        have bq3c := bq3.cell
        have hX3c := hX3.cell
        have hb3l := hW3'.out.lt
        have lq3 : wr.heap.size < w3.heap.size := by omega
        have lx3 : w.heap.size < w3.heap.size := by omega
        cases odd
        · by_cases hkk : kq = k
          · have hnone := hI'.out.same_kind hq'.out (hkq.trans hkk)
            obtain ⟨hW4, hK4⟩ := hW3'.out.odd true
            have hfin : WSaid (partsT k d true ps) (wtL ps + 8) w0.heap.size b w l (.returned (.tuple #[])) (w3.setCell ⟨b, 2, none⟩ (.bool true)) := ⟨rfl, hK3.trans hK4, li3, by omega, .inr ⟨hnone, hW4⟩⟩
            have hfin' := Lib.hid hfin
            have e9 : (kq == k) = true := by rw [hkk]; exact beq_self_eq_true _
            clear hfin hW4 hK4 hnone hK3 hX3 bq3 q3f hkk hkq
            go_wp2_with fail
            go_end0
            exact hfin'.out
          · have e9 : (kq == k) = false := beq_false_of_ne hkk
            obtain ⟨w4, e4⟩ : ∃ w4, w3.setCell ⟨b, 2, none⟩ (.bool false) = w4 := ⟨_, rfl⟩
            obtain ⟨hW4, hK4⟩ := hW3'.out.odd false
            rw [e4] at hW4 hK4
            have bq4 := bq3.wkeeps hK4 (by decide) (by omega)
            have hX4 := hX3.wkeeps hK4 (by decide) (by omega)
            have bq4c := bq4.cell
            have hX4c := hX4.cell
            have q4c := hW4.flag.1
            have hz4 := hK4.size
            have hKw4 := hK3.trans hK4
            have hB4 : Below w0.heap.size w0 w4 := hB0'.out.trans (hKw4.below hz0)
            have lq4 : wr.heap.size < w4.heap.size := by omega
            have lx4 : w.heap.size < w4.heap.size := by omega
            have hkk' := Lib.hid hkk
            clear hkk hK3 hK4 hX3 bq3 q3f
            by_cases hbr : k = 5 ∧ kq = 4
            · obtain ⟨hk5, hk4⟩ := hbr
              subst hk4
              have o1 : (k == 4) = false := by rw [hk5]; rfl
              have P1 := put_calls _ b w4 li3 false ⟨#[40]⟩ hW4 (by rw [show (⟨#[40]⟩ : ByteArray).size = 1 from rfl]; omega) (by omega)
              have P1' := Lib.hid P1
              have bq4' := Lib.hid bq4
              have hX4' := Lib.hid hX4
              have hKw4' := Lib.hid hKw4
              have hk5' := Lib.hid hk5
              clear P1 bq4 hX4 hW4 hB4 hKw4 hk5
              go_wp2_with fail
              refine P1'.out.mono ?_
              rintro e w5 ⟨rfl, hW5, hK5⟩
              have bq5 := bq4'.out.wkeeps hK5 (by decide) (by omega)
              have hX5 := hX4'.out.wkeeps hK5 (by decide) (by omega)
              have hKw5 := hKw4'.out.trans hK5
              have hz5 := hK5.size
              obtain ⟨q5c, q5f⟩ := hW5.flag
              have q5f2 := q5f 2
              have b5l := hW5.lt
              have hln5 : (li3 ++ (⟨#[40]⟩ : ByteArray).data.toList).length = li3.length + 1 := by simp
              obtain ⟨o8, ho8, hR8⟩ := bracket_rule hk5'.out hkq (hrec'.out q hqm.out) hodd'.out hd hdp'.out Rq'.out (hB0'.out.trans (hKw5.below hz0)) (by omega) hW5 (by rw [hln5]; omega)
              rw [hln5] at hR8
              obtain ⟨w6, e6⟩ : ∃ w6, w5.setCell ⟨b, 2, none⟩ (.bool o8) = w6 := ⟨_, rfl⟩
              obtain ⟨hW6, hK6⟩ := hW5.odd o8
              rw [e6] at hW6 hK6
              have bq6 := bq5.wkeeps hK6 (by decide) (by omega)
              have hX6 := hX5.wkeeps hK6 (by decide) (by omega)
              have hKw6 := hKw5.trans hK6
              have hz6 := hK6.size
              have bq6c := bq6.cell
              have lq6 : wr.heap.size < w6.heap.size := by omega
              have hR6 := Lib.hid (hR8 w6 e6)
              have bq6' := Lib.hid bq6
              have hX6' := Lib.hid hX6
              have hKw6' := Lib.hid hKw6
              clear hR8 bq6 hX6 hKw6 hW6 hK6 bq5 hX5 hKw5 hW5 hK5 q5f
              go_wp2_with fail
              refine hR6.out.mono ?_
              rintro e w7 ⟨rfl, hK7, l7, o7, hW7, hl7, hs7⟩
              have hX7 := hX6'.out.wkeeps hK7 (by decide) (by omega)
              have hKw7 := hKw6'.out.trans hK7
              have hz7 := hK7.size
              have P2 := put_calls _ b w7 l7 o7 ⟨#[41]⟩ hW7 (by rw [show (⟨#[41]⟩ : ByteArray).size = 1 from rfl]; omega) (by omega)
              have P2' := Lib.hid P2
              have hX7' := Lib.hid hX7
              have hKw7' := Lib.hid hKw7
              clear P2 hX7 hKw7 hW7 hK7
              go_wp2_with fail
              refine P2'.out.mono ?_
              rintro e w8 ⟨rfl, hW8, hK8⟩
              have hX8 := hX7'.out.wkeeps hK8 (by decide) (by omega)
              have hKw8 := hKw7'.out.trans hK8
              have hz8 := hK8.size
              have hl8 : (l7 ++ (⟨#[41]⟩ : ByteArray).data.toList).length = l7.length + 1 := by simp
              have hI8 : PInv k d ps l (j + 1) (l7 ++ (⟨#[41]⟩ : ByteArray).data.toList) o7 := by
                refine hI'.out.step hq'.out (fun e => hkk'.out (hkq.symm.trans e)) (by rw [hl8]; omega) ?_
                rcases hs7 with ⟨ho, hx⟩ | ⟨ho, t, hx, hlx⟩
                · exact .inl ⟨ho, hx⟩
                · refine .inr ⟨ho, _, hx, ?_⟩
                  rw [hli'.out, hlx]; simp [opL, clL]
              have hI8' := Lib.hid hI8
              have hW8' := Lib.hid hW8
              have hX8' := Lib.hid hX8
              have hKw8' := Lib.hid hKw8
              clear hI8 hW8 hX8 hKw8 hs7 hK8
              go_wp2_with fail
              go_roundw
              case rel => exact ⟨j + 1, _, o7, by omega, by go_num, hI8'.out, hW8'.out, hX8'.out, hKw8'.out, by omega⟩
              case measure => simp [intOf]; omega
            · have hpt : partT k d q = ruleT d q := by unfold partT; rw [hkq]; exact if_neg hbr
              have hbo : (k == 4) = true ∨ ((k == 4) = false ∧ (kq == 4) = false) := by
                rcases hk'.out with e | e
                · exact .inl (by rw [e]; rfl)
                · exact .inr ⟨by rw [e]; rfl, beq_false_of_ne fun e2 => hbr ⟨e, e2⟩⟩
              have hR := hrec'.out q hqm.out w0 b d deep w4 li3 _ hd hdp'.out Rq'.out hB4 (by omega) hW4 (by omega)
              have hR' := Lib.hid hR
              have hpt' := Lib.hid hpt
              have bq4' := Lib.hid bq4
              have hX4' := Lib.hid hX4
              have hKw4' := Lib.hid hKw4
              clear hR hpt hbr bq4 hX4 hW4 hB4 hKw4
              rcases hbo with o1 | ⟨o1, o2⟩
              all_goals
                go_wp2_with fail
                refine hR'.out.mono ?_
                rintro e w5 ⟨rfl, hK5, l5, hl5, hs5⟩
                have hX5 := hX4'.out.wkeeps hK5 (by decide) (by omega)
                have hKw5 := hKw4'.out.trans hK5
                have hz5 := hK5.size
                have hI5 : ∃ odd5, PInv k d ps l (j + 1) l5 odd5 ∧ WrAt w0.heap.size b w5 l5 odd5 := by
                  rcases hs5 with ⟨x, hx, hlx, hw5⟩ | ⟨hx, hw5⟩
                  · exact ⟨false, hI'.out.step hq'.out (fun e => hkk'.out (hkq.symm.trans e)) (by omega) (.inr ⟨rfl, x, by rw [hpt'.out, hx], by rw [hlx, hli'.out]⟩), hw5⟩
                  · exact ⟨true, hI'.out.step hq'.out (fun e => hkk'.out (hkq.symm.trans e)) (by omega) (.inl ⟨rfl, by rw [hpt'.out, hx]⟩), hw5⟩
                obtain ⟨odd5, hI5, hW5⟩ := hI5
                have hI5' := Lib.hid hI5
                have hW5' := Lib.hid hW5
                have hX5' := Lib.hid hX5
                have hKw5' := Lib.hid hKw5
                clear hI5 hW5 hX5 hKw5 hs5 hK5
                go_wp2_with fail
                go_roundw
                case rel => exact ⟨j + 1, l5, odd5, by omega, by go_num, hI5'.out, hW5'.out, hX5'.out, hKw5'.out, by omega⟩
                case measure => simp [intOf]; omega
        · have hnone : partsT k d true ps = none := by
            rcases hI'.out.said with ⟨_, h⟩ | ⟨h, _⟩
            · exact h
            · cases h
          obtain ⟨hW4, hK4⟩ := hW3'.out.odd true
          have hfin : WSaid (partsT k d true ps) (wtL ps + 8) w0.heap.size b w l (.returned (.tuple #[])) (w3.setCell ⟨b, 2, none⟩ (.bool true)) := ⟨rfl, hK3.trans hK4, li3, by omega, .inr ⟨hnone, hW4⟩⟩
          have hfin' := Lib.hid hfin
          clear hfin hW4 hK4 hnone hK3 hX3 bq3 q3f
          go_wp2_with fail
          go_end0
          exact hfin'.out
    · obtain rfl : j = n := by omega
      have hE := hI
      rw [← hn'.out] at hE
      have hE2 := hE.end_
      have hfin : WSaid (partsT k d true ps) (wtL ps + 8) w0.heap.size b w l (.returned (.tuple #[])) wr := by
        refine ⟨rfl, hK, li, by omega, ?_⟩
        rcases hE2.2 with ⟨ho, hn⟩ | ⟨ho, x, hx, hxe⟩
        · exact .inr ⟨hn, by rw [ho] at hW; exact hW⟩
        · exact .inl ⟨x, hx, hxe, by rw [ho] at hW; exact hW⟩
      have hfin' := Lib.hid hfin
      clear hfin hE hE2 hI hW hX hK
      go_wp2_with fail
      go_end0
      exact hfin'.out
end Go.Proofs.YtkibaaljpbcjeaaDoor
