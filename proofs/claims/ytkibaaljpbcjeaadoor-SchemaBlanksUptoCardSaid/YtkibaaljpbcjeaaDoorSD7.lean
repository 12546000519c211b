/- Walk: the document's Parse. -/
import Derived.Test.YtkibaaljpbcjeaaDoorSD6
namespace Go.Proofs.YtkibaaljpbcjeaaDoor
open Go.RowKit
attribute [local go_sem ↓] dapp_op
theorem linesG_size (s : List UInt8) : (linesG s).length ≤ s.length + 1 ∧ ∀ p ∈ linesG s, p.length ≤ s.length := by rw [linesG_cut]; exact cutL_len s
theorem linesG_pos (s : List UInt8) : 0 < (linesG s).length := by
  rw [linesG_cut]
  cases h : cutL s with
  | nil => exact absurd h (cutL_ne s)
  | cons _ _ => simp
set_option maxHeartbeats 8000000 in
set_option maxRecDepth 100000 in
theorem dparse_calls (s : ByteArray) (w : World) (hs : s.size ≤ 65536) :
    Calls Tryd.prog 9 #[.string s] w (DParseSaid w (linesG s.data.toList)) := by
  have hsl : s.data.toList.length ≤ 65536 := by rw [← Lib.size_eq]; exact hs
  have hlsz := linesG_size s.data.toList
  have hpos := linesG_pos s.data.toList
  have hLC := fun W => lines_calls s W hs
  generalize linesG s.data.toList = ls at *
  have hb1 := ((Below.refl w.heap.size w).alloc (Nat.le_refl _) (.cells #[.slice none 0 0] 25)).alloc (by simp) (.cells #[.slice none 0 0] 25)
  have hr1 := (Blk.new w 25 #[.slice none 0 0]).alloc (.cells #[.slice none 0 0] 25)
  have hs1 := Blk.new (w.alloc (.cells #[.slice none 0 0] 25)) 25 #[.slice none 0 0]
  have hz1 : ((w.alloc (.cells #[.slice none 0 0] 25)).alloc (.cells #[.slice none 0 0] 25)).heap.size = w.heap.size + 2 := by simp
  simp only [World.size_alloc] at hs1
  have hb1' := Lib.hid hb1
  have hr1' := Lib.hid hr1
  have hs1' := Lib.hid hs1
  have hLC' := Lib.hid hLC
  clear hb1 hr1 hs1 hLC
  go_enter Tryd.func9, Tryd.ntmps9
  go_wp2_with fail
  refine (hLC'.out _).mono ?_
  rintro e w2 ⟨pl, cl, rfl, hrow, b2⟩
  rw [hz1] at b2 hrow
  obtain ⟨gl, cl2, hv, hcl, hgl, hlc⟩ := (RowAt.of_own hrow).cell hpos
  have hglB := fun j hj => (hrow.lt j hj).1
  injection hv with hv1 _ hv2
  subst hv1 hv2
  have hglb := hglB gl rfl
  have hLn : ∃ cur : Array Value, Blk w2 gl 9 cur ∧ ∀ (i : Nat) (u : Value), (ls.map strV)[i]? = some u → cur[i]? = some u := by
    obtain ⟨cur, hb⟩ := (RowAt.of_own hrow).blk gl rfl
    exact ⟨cur, hb, fun i u hu => by rw [← hb.cell]; exact hlc i u hu⟩
  obtain ⟨lcur, hLb, hLv⟩ := hLn
  have hS2 := hs1'.out.below b2 (by omega)
  have hR2 := hr1'.out.below b2 (by omega)
  have B2 : Below w.heap.size w w2 := hb1'.out.trans (b2.mono (by omega))
  have hz2 := b2.size
  rw [hz1] at hz2
  have hS2' := Lib.hid hS2
  have hR2' := Lib.hid hR2
  have B2' := Lib.hid B2
  have hLb' := Lib.hid hLb
  have hLv' := Lib.hid hLv
  clear hS2 hR2 B2 hLb hLv hrow hlc hglB b2
  go_wp2_with fail
  go_loopw [20] (fun i wr => ∃ (k : Nat) (ts : List TyD) (v : Value) (us : List Value), k ≤ ls.length ∧ i = .int .i64 k ∧ Blk wr (w.heap.size + 1) 25 #[v] ∧ Sch (w.heap.size + 2) wr v us ts ∧ Blk wr w.heap.size 25 #[.slice none 0 0] ∧ Blk wr gl 9 lcur ∧ Below w.heap.size w wr ∧ w.heap.size + 2 ≤ wr.heap.size ∧ Few_ k ts ∧ parseD (ls.drop k) k ts = parseD ls 0 []) (fun i _ => ls.length - (intOf i).toNat)
  case atStart => exact ⟨0, [], .slice none 0 0, [], Nat.zero_le _, rfl, hS2'.out, Sch.nil _ _, hR2'.out, hLb'.out, B2'.out, hz2, ⟨Nat.le_refl _, fun t ht => by cases ht⟩, by rw [List.drop_zero]⟩
  case round =>
    obtain ⟨k, ts, v, us, hk, rfl, hS, hsch, hR, hL, hB, hz, hfew, hp⟩ := hrel
    obtain ⟨pv, cv, rfl⟩ := own_slice hsch.row
    by_cases hlt : k < ls.length
    · obtain ⟨T, eT, dT⟩ := str_of ls[k]
      have hcell : wr.cell? ⟨gl, k, none⟩ = some (.string T) := by
        rw [hL.cell, ← eT]
        exact hLv'.out k _ (by rw [List.getElem?_map, List.getElem?_eq_getElem hlt]; rfl)
      have hll : T.size ≤ 65536 := by
        have := hlsz.2 ls[k] (List.getElem_mem hlt)
        rw [Lib.size_eq, dT]; omega
      have hstep : parseD ls 0 [] = if blankL T.data.toList then parseD (ls.drop (k + 1)) (k + 1) ts else match lineX ts T.data.toList with
          | none => (none, (k : Int) + 1)
          | some ts' => parseD (ls.drop (k + 1)) (k + 1) ts' := by
        rw [← hp, List.drop_eq_getElem_cons hlt, dT]
        rfl
      have hBl := Lib.hid (blank_calls T wr (by omega))
      have hTk := Lib.hid (tokens_calls T wr hll)
      have hstep' := Lib.hid hstep
      have hS' := Lib.hid hS
      have hsch' := Lib.hid hsch
      have hR' := Lib.hid hR
      have hL' := Lib.hid hL
      have hB' := Lib.hid hB
      have hfew' := Lib.hid hfew
      clear hp hstep hS hsch hR hL hB hfew eT
      cases hbl : blankL T.data.toList
      · rw [hbl] at hBl hstep'
        go_wp2_with fail
        refine hBl.out.mono ?_
        rintro e w4 ⟨rfl, rfl⟩
        go_wp2_with fail
        refine hTk.out.mono ?_
        rintro e w5 ⟨b5, hcase⟩
        have z5 := b5.size
        have hS5 := hS'.out.below b5 (by omega)
        have hR5 := hR'.out.below b5 (by omega)
        have hL5 := hL'.out.below b5 hL'.out.lt
        have hsch5 := hsch'.out.keeps (S := fun _ => False) (.of_below b5) fun _ _ _ => id
        have B5 := hB'.out.trans (b5.mono (by omega))
        have S5c := hS5.cell
        have R5c := hR5.cell
        have R5f := hR5.frozen
        have hfail : lineX ts T.data.toList = none → parseD ls 0 [] = (none, (k : Int) + 1) := fun e => by
          have := hstep'.out
          rw [e, if_neg Bool.false_ne_true] at this
          exact this
        have hfail' := Lib.hid hfail
        have B5' := Lib.hid B5
        have hsch5' := Lib.hid hsch5
        have hS5' := Lib.hid hS5
        have hR5' := Lib.hid hR5
        have hL5' := Lib.hid hL5
        clear hfail B5 hsch5 hS5 hR5 hL5 hTk hBl
        rcases hcase with ⟨hbad, rfl⟩ | ⟨hok, pt, ct, rfl, hown⟩
        · have hpf := hfail'.out (if_pos hbad)
          have hpf' := Lib.hid hpf
          clear hpf hbad
          go_wp2_with fail
          refine bodyPost_ret (v := .tuple #[.agg #[.slice none 0 0], .int .i64 ((k : Int) + 1), .int .i64 9]) (by simp [results, Tryd.results9, go_sem, R5c]) rfl ?_
          exact ⟨B5'.out.setCell (p := ⟨w.heap.size, 0, none⟩) (Nat.le_refl _) _, .inl ⟨_, hpf'.out, rfl⟩⟩
        · have hX : lineX ts T.data.toList = lineD ts (toks T.data.toList) := if_neg hok
          have htl := toks_le _ T.data.toList (Nat.le_refl _)
          have htsz : ∀ x ∈ toks T.data.toList, x.length ≤ 100000 := fun x hx => by have := htl.2 x hx; rw [Lib.size_eq] at hll; omega
          have htn : (toks T.data.toList).length ≤ 100000 := by have := htl.1; rw [Lib.size_eq] at hll; omega
          rw [hX] at hfail'
          generalize toks T.data.toList = tl at *
          obtain ⟨g, hgc⟩ : ∃ g, tl ≠ [] → pt = some ⟨g, 0, none⟩ ∧ LAt w5 g (.slice pt tl.length ct) tl := by
            by_cases htl0 : tl = []
            · exact ⟨0, fun h => absurd htl0 h⟩
            · obtain ⟨g, h1, h2⟩ := lat_of_own hown htl0 htsz
              exact ⟨g, fun _ => ⟨h1, h2⟩⟩
          have hcells : ∀ i x, tl[i]? = some x → w5.cell? ⟨g, i, none⟩ = some (strV x) := fun i x hi => by
            have hne : tl ≠ [] := fun e => by rw [e] at hi; simp at hi
            obtain ⟨rfl, hl⟩ := hgc hne
            have := hl.cell.2.2.1 i x hi
            rwa [Nat.zero_add] at this
          rcases line_cases ts tl hcells htsz with ⟨hno, hln⟩ | ⟨b, rfl, hgb⟩ | ⟨a, c, l2, rfl, hts, hga, hat⟩
          · have hpf := hfail'.out hln
            have hpf' := Lib.hid hpf
            have hpt : 2 ≤ tl.length → pt = some ⟨g, 0, none⟩ := fun h => (hgc fun e => by rw [e] at h; simp at h).1
            have hct : 2 ≤ tl.length → tl.length ≤ ct := fun h => by
              obtain ⟨o, c', e, h⟩ := (hgc fun e => by rw [e] at h; simp at h).2.form
              injection e with _ _ e3; omega
            clear hpf hln hX hcells hown hgc htsz dT
            have hpt2 : tl.length < 2 ∨ (2 ≤ tl.length ∧ tl.length ≤ ct ∧ pt = some ⟨g, 0, none⟩) := by
              rcases Nat.lt_or_ge tl.length 2 with h | h
              · exact .inl h
              · exact .inr ⟨h, hct h, hpt h⟩
            clear hpt hct
            rcases hno with h1 | ⟨h1, A, c0, a0⟩ | ⟨h1, A, B, c0, a0, c1, hN⟩ | ⟨h1, A, B, c0, a0, c1, hN, a1⟩ | ⟨h1, h2⟩ | ⟨h1, h2, A, c0, hN⟩ | ⟨h1, h2, A, c0, hN, a0⟩ | ⟨h1, h2, A, c0, hN, a0, a1⟩ | ⟨h1, h2, A, E, c0, hN, a0, a1, c1, a2⟩
            case inl =>
              clear hpt2
              go_wp2_with fail
              all_goals
                refine bodyPost_ret (v := .tuple #[.agg #[.slice none 0 0], .int .i64 ((k : Int) + 1), .int .i64 9]) (by simp [results, Tryd.results9, go_sem, R5c]) rfl ?_
                exact ⟨B5'.out.setCell (p := ⟨w.heap.size, 0, none⟩) (Nat.le_refl _) _, .inl ⟨_, hpf'.out, rfl⟩⟩
            all_goals
              rcases hpt2 with hpt2 | ⟨_, hct, rfl⟩
              case inl => omega
              go_wp2_with fail
              all_goals
                try
                  refine (hN _).mono ?_
                  rintro e w6 ⟨rfl, rfl⟩
                  go_wp2_with fail
              all_goals
                refine bodyPost_ret (v := .tuple #[.agg #[.slice none 0 0], .int .i64 ((k : Int) + 1), .int .i64 9]) (by simp [results, Tryd.results9, go_sem, R5c]) rfl ?_
                exact ⟨B5'.out.setCell (p := ⟨w.heap.size, 0, none⟩) (Nat.le_refl _) _, .inl ⟨_, hpf'.out, rfl⟩⟩
          · have hgbn := good_and hgb
            obtain ⟨g2, hlat⟩ : ∃ x, pt = some ⟨g, 0, none⟩ ∧ x = LAt w5 g (.slice pt 2 ct) [typeL, b] := ⟨_, (hgc (by simp)).1, rfl⟩
            have hct : 2 ≤ ct := by
              obtain ⟨o, c', e, h⟩ := (hgc (by simp)).2.form
              injection e with _ _ e3; subst e3; exact h
            obtain ⟨rfl, _⟩ := hlat
            obtain ⟨A, eA, dA⟩ := str_of typeL
            obtain ⟨Q, eQ, dQ⟩ := str_of b
            have c0 := hcells 0 typeL rfl
            have c1 := hcells 1 b rfl
            rw [eA] at c0
            rw [eQ] at c1
            have a0 : (A.toList == [116, 121, 112, 101]) = true := by rw [tysaid, dA]; rfl
            have a1 : (Q.toList == [116, 104, 105, 115]) = false := by rw [this_eq, dQ]; exact beq_false_of_ne hgbn.2
            have hN := name_said dQ (htsz b (by simp)) hgbn.1
            have x9 : Blk ((w5.alloc (.cells #[.string Q, .slice none 0 0] 39)).drew) w5.heap.size 39 #[.string Q, .slice none 0 0] := Blk.new w5 _ _
            have hk9 : Keeps (fun _ => False) w5 ((w5.alloc (.cells #[.string Q, .slice none 0 0] 39)).drew) := ((Keeps.refl _ w5).alloc _).drew
            have z9 := hk9.size
            have hfl := hfew'.out.1
            obtain ⟨p9, c9, w10, e10, sch10, k10⟩ := (hsch5'.out.keeps hk9 fun _ _ _ => id).push (by omega) (by omega) x9
            have z10 := k10.size
            have hS10 := (hS5'.out.keeps hk9 id).keeps k10 (by omega)
            have hR10 := (hR5'.out.keeps hk9 id).keeps k10 (by omega)
            have hgne : ¬ (w.heap.size + 2 ≤ gl ∧ (Value.slice pv ts.length cv).ownBlock = some gl) := fun e => by
              obtain ⟨cur, hb⟩ := (RowAt.of_own hsch5'.out.row).blk gl e.2
              exact Blk.ne_ hL5'.out hb (by decide) rfl
            have hL10 := (hL5'.out.keeps hk9 id).keeps k10 hgne
            have B10 : Below w.heap.size w w10 := Keeps.below_step (B5'.out.trans ((show Below w5.heap.size w5 _ from ((Below.refl w5.heap.size w5).alloc (Nat.le_refl _) _).drew).mono (by omega))) (by omega) k10 fun j e => by omega
            obtain ⟨w11, e11⟩ : ∃ w11, w10.setCell ⟨w.heap.size + 1, 0, none⟩ (.slice p9 (ts.length + 1) c9) = w11 := ⟨_, rfl⟩
            have k11 : Keeps (fun j => j = w.heap.size + 1) w10 w11 := by rw [← e11]; exact (Keeps.refl (fun j => j = w.heap.size + 1) w10).setCell (p := ⟨w.heap.size + 1, 0, none⟩) (.inl rfl) _
            have hS11 : Blk w11 (w.heap.size + 1) 25 #[.slice p9 (ts.length + 1) c9] := by rw [← e11]; exact hS10.set_ 0 _
            have sch11 := sch10.keeps k11 fun j hj _ e => by omega
            have B11 : Below w.heap.size w w11 := by rw [← e11]; exact B10.setCell (p := ⟨w.heap.size + 1, 0, none⟩) (by show _ ≤ _ + 1; omega) _
            have hR11 := hR10.keeps k11 (by omega)
            have hL11 := hL10.keeps k11 (by omega)
            have z11 := k11.size
            have hXs : lineX ts T.data.toList = some (ts ++ [(Q.data.toList, [])]) := by rw [hX, lineD_two, if_pos ⟨rfl, hgb⟩, dQ]
            have hfew11 := lineX_few hfew'.out hXs
            have hpp := hstep'.out
            rw [hXs, if_neg Bool.false_ne_true] at hpp
            have S10c := hS10.cell
            have S10f := hS10.frozen
            have S5lt : w.heap.size + 1 < w5.heap.size := by omega
            have g5lt : g < w5.heap.size := (hgc (by simp)).2.lt
            have S10lt : w.heap.size + 1 < w10.heap.size := by omega
            have hfew11' := Lib.hid hfew11
            have hpp' := Lib.hid hpp
            have sch11' := Lib.hid sch11
            have B11' := Lib.hid B11
            have hS11' := Lib.hid hS11
            have hR11' := Lib.hid hR11
            have hL11' := Lib.hid hL11
            have hN' := Lib.hid hN
            have zf : w.heap.size + 2 ≤ w11.heap.size := by omega
            clear hfew11 hpp sch11 B11 hS11 hR11 hL11 hN hXs k11 B10 hL10 hgne hR10 hS10 sch10 k10 x9 hk9 hcells hgc hown htsz hX hgb hgbn hct z9 z10 z11 hok hfail' eA eQ dA htn
            rename_i htl1
            clear htl1
            go_wp2_with fail
            refine (hN'.out _).mono ?_
            rintro e w6 ⟨rfl, rfl⟩
            go_wp2_with fail
            go_region
            try rw [e11]
            go_wp2_with fail
            go_roundw
            case rel => exact ⟨k + 1, _, _, _, by omega, by go_num, hS11'.out, sch11'.out, hR11'.out, hL11'.out, B11'.out, zf, hfew11'.out, hpp'.out.symm⟩
            case measure => simp [intOf]; omega
          · have hgan := good_and hga
            have hlat0 := hgc (by simp)
            obtain ⟨rfl, hlat⟩ := hlat0
            have hlen3 : (a :: eqL :: c :: l2).length = l2.length + 3 := rfl
            have hct : l2.length + 3 ≤ ct := by
              obtain ⟨o, c', e, h⟩ := hlat.form
              injection e with _ _ e3; subst e3; exact h
            have g5lt := hlat.lt
            obtain ⟨A, eA, dA⟩ := str_of a
            obtain ⟨E, eE, dE⟩ := str_of eqL
            have c0 := hcells 0 a rfl
            have c1 := hcells 1 eqL rfl
            rw [eA] at c0
            rw [eE] at c1
            have a0 : (A.toList == [116, 104, 105, 115]) = false := by rw [this_eq, dA]; exact beq_false_of_ne hgan.2
            have a1 : (A.toList == [116, 121, 112, 101]) = false := by rw [tysaid, dA]; exact beq_false_of_ne hat
            have a2 : (E.toList == [61]) = true := by rw [eqsaid, dE]; rfl
            have hN := name_said dA (htsz a (by simp)) hgan.1
            have htl2 : (ct = 2 ∧ LAt w5 g (.slice (some ⟨g, 0, none⟩) (l2.length + 1) 0) (c :: l2)) ∨ (¬ ct = 2 ∧ LAt w5 g (.slice (some ⟨g, 2, none⟩) (l2.length + 1) (ct - 2)) (c :: l2)) := by
              refine .inr ⟨by omega, ?_⟩
              have := hlat.cell.2.2.2 2 (by omega)
              exact this
            have hLr : LAt w5 g (.slice (some ⟨g, 2, none⟩) (l2.length + 1) (ct - 2)) (c :: l2) := hlat.cell.2.2.2 2 (by omega)
            have hDR := Lib.hid (drule_calls g _ (c :: l2) w5 (by have : (c :: l2).length = l2.length + 1 := rfl; omega) hLr)
            -- the schema ahead: its last type
            obtain ⟨init, ⟨nm, rels⟩, rfl⟩ : ∃ init x, ts = init ++ [x] := by
              rcases List.eq_nil_or_concat ts with e | ⟨init, x, e⟩
              · exact absurd e hts
              · exact ⟨init, x, by simpa using e⟩
            have hlenu := hsch5'.out.len
            obtain ⟨ini, u, rfl⟩ : ∃ ini u, us = ini ++ [u] := by
              rcases List.eq_nil_or_concat us with e | ⟨ini, x, e⟩
              · rw [e] at hlenu; simp at hlenu
              · exact ⟨ini, x, by simpa using e⟩
            have hLn1 : (init ++ [(nm, rels)]).length = init.length + 1 := by simp
            have hXs : ∀ r, dRule 8 (c :: l2) = some (r, []) → lineX (init ++ [(nm, rels)]) T.data.toList = some (init ++ [(nm, rels ++ [(a, r)])]) := fun r hr => by
              rw [hX, lineD_more, if_pos ⟨hts, hga, hat, rfl⟩, hr]
              unfold addRel
              simp
            have hXn : (∀ r, dRule 8 (c :: l2) ≠ some (r, [])) → lineX (init ++ [(nm, rels)]) T.data.toList = none := fun h => by
              rw [hX, lineD_more, if_pos ⟨hts, hga, hat, rfl⟩]
              split
              · rename_i r hr; exact absurd hr (h r)
              · rfl
            rw [hX.symm] at hfail'
            have hXs' := Lib.hid hXs
            have hXn' := Lib.hid hXn
            have hN' := Lib.hid hN
            have hnp : ((init.length : Int) + 1 == 0) = false := beq_false_of_ne (by omega)
            have dA' := Lib.hid dA
            rw [hLn1] at S5c hS5'
            clear hXs hXn hX hN hlat hLr htl2 hcells hgc hown htsz hga hgan hat hok eA eE dE dA hts hlenu hlen3
            go_wp2_with fail
            refine (hN'.out _).mono ?_
            rintro e w6 ⟨rfl, rfl⟩
            go_wp2_with fail
            refine hDR.out.mono ?_
            rintro e w6 ⟨b6, kk, aa, bb, p0, n0, cc0, p2, n2, c2, ok, rfl, hcase⟩
            have z6 := b6.size
            obtain ⟨w7, e7⟩ : ∃ w7, w6.alloc (.cells #[.int .i64 kk, .string aa, .string bb, .slice p0 n0 cc0] 42) = w7 := ⟨_, rfl⟩
            have hb7 := (Below.refl w6.heap.size w6).alloc (Nat.le_refl _) (.cells #[.int .i64 kk, .string aa, .string bb, .slice p0 n0 cc0] 42)
            have x7 := Blk.new w6 42 #[.int .i64 kk, .string aa, .string bb, .slice p0 n0 cc0]
            rw [e7] at hb7 x7
            have b57 : Below w5.heap.size w5 w7 := b6.trans (hb7.mono z6)
            have hS7 := hS5'.out.below b57 (by omega)
            have hR7 := hR5'.out.below b57 (by omega)
            have hL7 := hL5'.out.below b57 hL5'.out.lt
            have sch7 := hsch5'.out.keeps (S := fun _ => False) (.of_below b57) fun _ _ _ => id
            have B7 := B5'.out.trans (b57.mono (by omega))
            have S7c := hS7.cell
            have R7c := hR7.cell
            have R7f := hR7.frozen
            have x7c := x7.cell
            have c07 : w7.cell? ⟨g, 0, none⟩ = some (.string A) := by rw [b57.cell (p := ⟨g, 0, none⟩) g5lt]; exact c0
            have z7 := hb7.size
            have x7lt := x7.lt
            have hfin : parseD ls 0 [] = (none, (k : Int) + 1) → DParseSaid w ls (.returned (.tuple #[.agg #[.slice none 0 0], .int .i64 ((k : Int) + 1), .int .i64 9])) (w7.setCell ⟨w.heap.size, 0, none⟩ (.slice none 0 0)) := fun h => ⟨B7.setCell (p := ⟨w.heap.size, 0, none⟩) (Nat.le_refl _) _, .inl ⟨_, h, rfl⟩⟩
            have hfin' := Lib.hid hfin
            rcases hcase with ⟨rfl, hn⟩ | ⟨rfl, r, l', hs, hRA, hL2⟩
            · have hpf := hfail'.out (hXn'.out fun r h => by rw [hn] at h; cases h)
              have hpf' := Lib.hid hpf
              clear hpf hn hfin hS7 hR7 hL7 sch7 B7 b57 x7 hb7 hDR
              go_wp2_with fail
              refine bodyPost_ret (v := .tuple #[.agg #[.slice none 0 0], .int .i64 ((k : Int) + 1), .int .i64 9]) (by simp [results, Tryd.results9, go_sem, R7c]) rfl ?_
              exact hfin'.out hpf'.out
            · obtain ⟨o2, c3, e5, hc3⟩ := hL2.form
              injection e5 with e5 e6 e8
              subst e5 e6 e8
              cases l' with
              | cons y l3 =>
                have hpf := hfail'.out (hXn'.out fun r h => by rw [hs] at h; cases h)
                have hpf' := Lib.hid hpf
                clear hpf hs hRA hL2 hfin hS7 hR7 hL7 sch7 B7 b57 x7 hb7 hDR
                go_wp2_with fail
                refine bodyPost_ret (v := .tuple #[.agg #[.slice none 0 0], .int .i64 ((k : Int) + 1), .int .i64 9]) (by simp [results, Tryd.results9, go_sem, R7c]) rfl ?_
                exact hfin'.out hpf'.out
              | nil =>
                have hXr := hXs'.out r hs
                have hrow := hsch5'.out.row
                rw [hLn1] at hrow
                obtain ⟨gv, rfl⟩ : ∃ gv, pv = some ⟨gv, 0, none⟩ := by
                  rcases hrow.2 with ⟨e, _⟩ | ⟨gv, cap, cur, e, _⟩
                  · injection e with _ e; omega
                  · injection e with e; exact ⟨gv, e⟩
                have hgv5 := (hrow.lt gv rfl)
                have hlenI : ini.length = init.length := by have := hsch5'.out.len; rw [List.length_append, List.length_append] at this; simpa using this
                have hul : (ini ++ [u])[init.length]? = some u := by rw [← hlenI]; simp
                obtain ⟨csu, hou, _⟩ := sch7.rels init.length (nm, rels) u (by simp) hul
                obtain ⟨pu, cu, rfl⟩ := own_slice hou
                have hrow7 := sch7.row
                rw [hLn1] at hrow7
                have hcu : w7.cell? ⟨gv, init.length * 2 + 1, none⟩ = some (.slice pu rels.length cu) := by
                  rw [hrow7.cellAt (init.length * 2 + 1) (by omega), tcells_app hlenI, List.getElem?_append_right (by rw [tcells_len _ _ hlenI]; omega), tcells_len _ _ hlenI, show init.length * 2 + 1 - init.length * 2 = 1 by omega]
                  rfl
                have hgvB := hrow7.lt gv rfl
                have RA7 := hRA.later hb7
                have x9 : Blk ((w7.alloc (.cells #[.string A, .int .i64 kk, .string aa, .string bb, .slice p0 n0 cc0] 44)).drew) w7.heap.size 44 #[.string A, .int .i64 kk, .string aa, .string bb, .slice p0 n0 cc0] := Blk.new w7 _ _
                have hk9 : Keeps (fun _ => False) w7 ((w7.alloc (.cells #[.string A, .int .i64 kk, .string aa, .string bb, .slice p0 n0 cc0] 44)).drew) := ((Keeps.refl _ w7).alloc _).drew
                have sch9 := sch7.keeps hk9 fun _ _ _ => id
                rw [hLn1] at sch9
                have RA9 := (RA7.keeps hk9 fun _ _ _ => id).mono (Q := fun j => w.heap.size + 2 ≤ j ∧ (Value.slice (some ⟨gv, 0, none⟩) (init.length + 1) cv).ownBlock ≠ some j ∧ ∀ x ∈ ini ++ [Value.slice pu rels.length cu], x.ownBlock ≠ some j) fun j hj _ => by
                  refine ⟨by omega, fun e => ?_, fun x hx e => ?_⟩
                  · have := (hrow.lt j e).2; omega
                  · obtain ⟨n1, cs1, ho1⟩ := hsch5'.out.own hx
                    have := (ho1.lt j e).2; omega
                have hfr := hfew'.out.2 (nm, rels) (by simp)
                have hfl := hfew'.out.1
                rw [hLn1] at hfl
                have z9 := hk9.size
                obtain ⟨p9, c9, w10, e10, sch10, k10⟩ := sch9.addRel rfl (by omega) (by simp at hfr; omega) x9 RA9
                have hum := List.mem_of_getElem? hul
                have hgv9 : gv < ((w7.alloc (.cells #[.string A, .int .i64 kk, .string aa, .string bb, .slice p0 n0 cc0] 44)).drew).heap.size := by omega
                have hgv10 : w10.cell? ⟨gv, init.length * 2 + 1, none⟩ = some (.slice pu rels.length cu) := by
                  rw [World.cell?_of_block (k10.block gv hgv9 fun e => sch9.vne hum e.2 rfl), World.cell?_of_block (hk9.block gv hgvB.2 id)]
                  exact hcu
                have f10 : ∀ i, w10.frozen? ⟨gv, i, none⟩ = false := by
                  obtain ⟨cur, hb⟩ := (RowAt.of_own sch10.row).blk gv rfl
                  intro i
                  have := hb.frozen i
                  rwa [World.frozen?_setCell] at this
                have hgu : ∀ j, (Value.slice pu rels.length cu).ownBlock = some j → j < w5.heap.size := fun j hj => by
                  obtain ⟨n1, cs1, ho1⟩ := hsch5'.out.own hum
                  exact (ho1.lt j hj).2
                have hune : ∀ {q : Nat} {Tq : TypeId} {cs : Array Value}, Blk w7 q Tq cs → 44 ≠ Tq → ¬ (w.heap.size + 2 ≤ q ∧ (Value.slice pu rels.length cu).ownBlock = some q) := fun hb ht e => by
                  obtain ⟨cur, hb2⟩ := own_blk hou _ e.2
                  exact Blk.ne_ hb2 hb ht rfl
                have z10 := k10.size
                obtain ⟨w11, e11⟩ : ∃ w11, w10.setCell ⟨gv, init.length * 2 + 1, none⟩ (.slice p9 (rels.length + 1) c9) = w11 := ⟨_, rfl⟩
                have k11 : Keeps (fun j => j = gv) w10 w11 := by rw [← e11]; exact (Keeps.refl (fun j => j = gv) w10).setCell (p := ⟨gv, init.length * 2 + 1, none⟩) (.inl rfl) _
                have hglne : ¬ gl = gv := fun e => by
                  obtain ⟨cur, hb⟩ := (RowAt.of_own hrow7).blk gv rfl
                  exact Blk.ne_ hL7 hb (by decide) e
                have hS11 := ((hS7.keeps hk9 id).keeps k10 (by omega)).keeps k11 (by omega)
                have hR11 := ((hR7.keeps hk9 id).keeps k10 (by omega)).keeps k11 (by omega)
                have hL11 := ((hL7.keeps hk9 id).keeps k10 (hune hL7 (by decide))).keeps k11 hglne
                have B11 : Below w.heap.size w w11 := by
                  rw [← e11]
                  exact (Keeps.below_step (B7.trans ((show Below w7.heap.size w7 _ from ((Below.refl w7.heap.size w7).alloc (Nat.le_refl _) _).drew).mono (by omega))) (by omega) k10 fun j e => by omega).setCell (p := ⟨gv, init.length * 2 + 1, none⟩) (by show w.heap.size ≤ gv; omega) _
                have z11 := k11.size
                rw [e11] at sch10
                have hfew11 := lineX_few hfew'.out hXr
                have hpp := hstep'.out
                rw [hXr, if_neg Bool.false_ne_true] at hpp
                have hwr : IntKind.i64.wrap (init.length : Int) = init.length := by rw [IntKind.wrap_i64]; omega
                have hgvlt := hgvB.2
                have g7lt : g < w7.heap.size := by omega
                rw [dA'.out] at sch10
                have hLn2 : (init ++ [(nm, rels ++ [(a, r)])]).length = init.length + 1 := by simp
                have hS11' := Lib.hid hS11
                have hR11' := Lib.hid hR11
                have hL11' := Lib.hid hL11
                have B11' := Lib.hid B11
                have sch11' := Lib.hid sch10
                have hfew11' := Lib.hid hfew11
                have hpp' := Lib.hid hpp
                have zf : w.heap.size + 2 ≤ w11.heap.size := by omega
                have S7lt := hS7.lt
                clear hfew11 hpp sch10 B11 hL11 hR11 hS11 hglne k11 hune hgu z10 hgv9 hum k10 hfl hfr RA9 sch9 hk9 x9 RA7 hgvB hrow7 hou hul hgv5 hrow hXr hs hRA hL2 hfin hS7 hR7 hL7 sch7 B7 b57 x7 hb7 hDR hLn2
                go_wp2_with fail
                go_region
                try rw [e11]
                go_wp2_with fail
                go_roundw
                case rel => exact ⟨k + 1, _, _, _, by omega, by go_num, hS11'.out, sch11'.out, hR11'.out, hL11'.out, B11'.out, zf, hfew11'.out, hpp'.out.symm⟩
                case measure => simp [intOf]; omega
      · rw [hbl, if_pos rfl] at hstep'
        rw [hbl] at hBl
        go_wp2_with fail
        refine hBl.out.mono ?_
        rintro e w4 ⟨rfl, rfl⟩
        go_wp2_with fail
        go_roundw
        case rel => exact ⟨k + 1, ts, _, us, by omega, by go_num, hS'.out, hsch'.out, hR'.out, hL'.out, hB'.out, hz, ⟨by have := hfew'.out.1; omega, fun t ht => by have := hfew'.out.2 t ht; omega⟩, hstep'.out.symm⟩
        case measure => simp [intOf]; omega
    · obtain rfl : k = ls.length := by omega
      have Sc := hS.cell
      have Rc := hR.cell
      have Rf := hR.frozen
      rw [List.drop_eq_nil_of_le (Nat.le_refl _)] at hp
      have hp' := Lib.hid hp
      have hsch' := Lib.hid hsch
      have hB' := Lib.hid hB
      clear hp hsch hB hS hR hL hfew
      go_wp2_with fail
      refine bodyPost_ret (v := .tuple #[.agg #[.slice pv ts.length cv], .int .i64 0, .int .i64 0]) (by simp [results, Tryd.results9, go_sem, Rc]) rfl ?_
      exact ⟨hB'.out.setCell (p := ⟨w.heap.size, 0, none⟩) (Nat.le_refl _) _, .inr ⟨ts, _, us, hp'.out.symm, rfl, hsch'.out.keeps ((Keeps.refl (fun j => j = w.heap.size) wr).setCell (p := ⟨w.heap.size, 0, none⟩) (.inl rfl) _) fun j hj _ e => by omega⟩⟩
end Go.Proofs.YtkibaaljpbcjeaaDoor
