/- Walk: the document's Text, whole; the document's Print. -/
import Derived.Test.YtkibaaljpbcjeaaDoorSX3
import Derived.Test.YtkibaaljpbcjeaaDoorSF2
namespace Go.Proofs.YtkibaaljpbcjeaaDoor
open Go.RowKit
theorem ruleT_other {k : Int} (h : (k ≠ 1 ∧ k ≠ 2 ∧ k ≠ 3) ∧ k ≠ 4 ∧ k ≠ 5) (d : Nat) (a b : List UInt8) (ps : List RT) : ruleT d (.node k a b ps) = none := by
  unfold ruleT
  rw [if_neg h.1.1, if_neg h.1.2.1, if_neg h.1.2.2, if_neg (by omega)]
set_option maxHeartbeats 1000000 in
set_option maxRecDepth 100000 in
theorem text_0 (k : Int) (h : (k ≠ 1 ∧ k ≠ 2 ∧ k ≠ 3) ∧ k ≠ 4 ∧ k ≠ 5) (a bb : ByteArray) (p : Option Addr) (c n : Nat) (deep : Int) (w : World) :
    Calls Tryd.prog 30 #[.agg #[.int .i64 k, .string a, .string bb, .slice p n c], .int .i64 deep] w (TextSaid none w) := by
  have bx := Blk.new w 42 #[.int .i64 k, .string a, .string bb, .slice p n c]
  have hb := (Below.refl w.heap.size w).alloc (Nat.le_refl _) (.cells #[.int .i64 k, .string a, .string bb, .slice p n c] 42)
  obtain ⟨W, eW⟩ : ∃ W, w.alloc (.cells #[.int .i64 k, .string a, .string bb, .slice p n c] 42) = W := ⟨_, rfl⟩
  have hzW : W.heap.size = w.heap.size + 1 := by rw [← eW]; simp
  rw [eW] at bx hb
  have bxc := bx.cell
  have hb' := Lib.hid hb
  have x1 : (k == 1) = false := beqF.2 h.1.1
  have x2 : (k == 2) = false := beqF.2 h.1.2.1
  have x3 : (k == 3) = false := beqF.2 h.1.2.2
  have x4 : (k == 4) = false := beqF.2 h.2.1
  have x5 : (k == 5) = false := beqF.2 h.2.2
  clear bx hb h
  go_enter Tryd.func30, Tryd.ntmps30
  go_wp2_with fail
  go_ret2
  exact ⟨⟨_, _, rfl, .inr ⟨rfl, rfl⟩⟩, hb'.out⟩
theorem text_step (q : RT) (hrec : ∀ x ∈ q.parts, TextOK x) : TextOK q := by
  intro d deep w cs hd hdp hR hl
  obtain ⟨k, a, bb, p, c, ds, rfl, hq, hrow, hlen, hp⟩ := hR.form
  have hmax := hrow.1
  have hwt : q.wt = a.data.toList.length + bb.data.toList.length + 8 + wtL q.parts := by rw [RT.wt_eq, hq]; rfl
  have sa := Lib.size_eq a
  have sb := Lib.size_eq bb
  have hT : ruleT d q = ruleT d (.node k a.data.toList bb.data.toList q.parts) := by rw [← hq]
  rw [hT]
  by_cases k1 : k = 1
  · subst k1; exact text_1 a bb p c _ hmax d deep w q.parts rfl
  by_cases k2 : k = 2
  · subst k2; exact text_2 a bb p c _ hmax (by unfold maxLen; omega) d deep w q.parts rfl
  by_cases k3 : k = 3
  · subst k3; exact text_3 a bb p c _ hmax (by omega) (by omega) d deep w q.parts rfl
  by_cases k4 : k = 4
  · subst k4; exact text_grp4 a bb p c q.parts ds w hrow hp hrec d deep hd hdp (by omega)
  by_cases k5 : k = 5
  · subst k5; exact text_grp5 a bb p c q.parts ds w hrow hp hrec d deep hd hdp (by omega)
  rw [ruleT_other ⟨⟨k1, k2, k3⟩, k4, k5⟩]
  exact text_0 k ⟨⟨k1, k2, k3⟩, k4, k5⟩ a bb p c _ deep w
theorem text_calls (q : RT) : TextOK q := text_step q fun x _ => text_calls x
termination_by SizeOf.sizeOf q
decreasing_by exact part_lt (by assumption)
/-- a writing under way, which has not failed -/
def PD (T : Option (List UInt8)) (W : Nat) (O : ByteArray) (R : Option (List UInt8)) (rw : Nat) : Prop := O.size + rw ≤ W ∧ T = R.map fun u => O.data.toList ++ u
theorem PD.pi {T : Option (List UInt8)} {W : Nat} {O : ByteArray} {R : Option (List UInt8)} {rw : Nat} (h : PD T W O R rw) : PI T W O.data.toList false R rw := ⟨by rw [← Lib.size_eq]; exact h.1, .inr ⟨rfl, h.2⟩⟩
theorem PI.pd {T : Option (List UInt8)} {W : Nat} {O : ByteArray} {R : Option (List UInt8)} {rw : Nat} (h : PI T W O.data.toList false R rw) : PD T W O R rw := by
  refine ⟨by rw [Lib.size_eq]; exact h.len, ?_⟩
  rcases h.said with ⟨e, _⟩ | ⟨_, e⟩
  · cases e
  · exact e
set_option maxHeartbeats 8000000 in
set_option maxRecDepth 100000 in
theorem dprint_calls (v : Value) (ts : List TyD) (w : World) (hS : SchV w v ts) (hW : tysW ts ≤ 900000000) :
    Calls Tryd.prog 13 #[.agg #[v]] w (PrintSaid w (tysT ts)) := by
  obtain ⟨p, c, rfl⟩ := hS.form
  obtain ⟨cs, hrow, hty⟩ := hS
  have hmax := hrow.1
  unfold maxLen at hmax
  obtain ⟨w1, e1⟩ : ∃ w1, w.alloc (.cells #[.slice p ts.length c] 25) = w1 := ⟨_, rfl⟩
  have hb1 := (Below.refl w.heap.size w).alloc (Nat.le_refl _) (.cells #[.slice p ts.length c] 25)
  have bx1 := Blk.new w 25 #[.slice p ts.length c]
  have hz1 : w1.heap.size = w.heap.size + 1 := by rw [← e1]; simp
  rw [e1] at hb1 bx1
  have c1 := bx1.cell
  have hI0 : PD (tysT ts) (tysW ts) ⟨#[]⟩ (tysT (ts.drop 0)) (tysW (ts.drop 0)) := by
    rw [List.drop_zero]
    exact PI.pd (O := ⟨#[]⟩) (PI.start _ _)
  generalize hTT : tysT ts = T at *
  generalize hTW : tysW ts = TW at *
  generalize hn : ts.length = n at *
  have hn' := Lib.hid hn
  have hrow' := Lib.hid hrow
  have hty' := Lib.hid hty
  have hb1' := Lib.hid hb1
  have hI0' := Lib.hid hI0
  clear hn hrow hty bx1 hb1 hI0 hTT hTW
  go_enter Tryd.func13, Tryd.ntmps13
  go_wp2_with fail
  go_loopw [4, 14] (fun l i wr => ∃ (j : Nat) (O : ByteArray), j ≤ n ∧ i = .int .i64 j ∧ l = .string O ∧ PD T TW O (tysT (ts.drop j)) (tysW (ts.drop j)) ∧ Below w.heap.size w wr ∧ w.heap.size + 1 ≤ wr.heap.size) (fun _ i _ => n - (intOf i).toNat)
  case atStart => exact ⟨0, ⟨#[]⟩, Nat.zero_le _, rfl, rfl, hI0'.out, hb1'.out, by omega⟩
  case round =>
    obtain ⟨j, O, hj, rfl, rfl, hI, hB, hz⟩ := hrel
    by_cases hlt : j < n
    · obtain ⟨wo, rfl⟩ : ∃ wo : World, wo = wr := ⟨_, rfl⟩
      have hjl : j < ts.length := by rw [hn'.out]; exact hlt
      obtain ⟨⟨nm, rels⟩, hq⟩ : ∃ q, ts[j]? = some q := ⟨_, List.getElem?_eq_getElem hjl⟩
      have hdr : ts.drop j = (nm, rels) :: ts.drop (j + 1) := by
        rw [List.drop_eq_getElem_cons hjl, (List.getElem?_eq_some_iff.1 hq).2]
      obtain ⟨g, o, rfl, hc1, hcell⟩ := hrow'.out.cell (by omega)
      obtain ⟨N, rp, rc, rcs, hN, lg, x0, x1, hrr, hrv⟩ := hty'.out.part hcell hq
      have tr : ∀ i v, w.cell? ⟨g, i, none⟩ = some v → wo.cell? ⟨g, i, none⟩ = some v := fun i v hv => by rw [hB.cell (p := ⟨g, i, none⟩) lg]; exact hv
      have y0 := tr _ _ x0
      have y1 := tr _ _ x1
      have lgr : g < wo.heap.size := by omega
      rw [hdr] at hI
      have hlen := hI.1
      rw [tysW_cons] at hlen
      have sN := Lib.size_eq N
      rw [hN] at sN
      obtain ⟨w3, e3⟩ : ∃ w3, wo.alloc (.cells #[.string N, .slice rp rels.length rc] 39) = w3 := ⟨_, rfl⟩
      have hb3 := (Below.refl wo.heap.size wo).alloc (Nat.le_refl _) (.cells #[.string N, .slice rp rels.length rc] 39)
      have bt3 := Blk.new wo 39 #[.string N, .slice rp rels.length rc]
      have hz3 : w3.heap.size = wo.heap.size + 1 := by rw [← e3]; simp
      rw [e3] at hb3 bt3
      have B3 := hB.trans (hb3.mono (by omega))
      have c3 := bt3.cell
      have l3 := bt3.lt
      have hNn : N.size ≤ 900000000 := by omega
      have hOn : O.size + N.size + 16 ≤ 900000000 := by omega
      have P := own_calls N w3 (by unfold maxLen; omega)
      rw [hN] at P
      have hrx := hrr.1
      unfold maxLen at hrx
      have hT2 : good nm = false → T = none := fun hg => by rw [hI.2, tysT_cons, hg]; rfl
      have hI2 : good nm = true → PD T TW (O ++ ⟨#[116, 121, 112, 101, 32]⟩ ++ N ++ ⟨#[10]⟩) (restT (rels.drop 0) (ts.drop (j + 1))) (restW (rels.drop 0) (ts.drop (j + 1))) := fun hg => by
        rw [List.drop_zero]
        refine PI.pd (hI.pi.type ?_ (by rw [hg]; rfl))
        rw [bd, bd, bd, hN]
        show O.data.toList ++ [116, 121, 112, 101, 32] ++ nm ++ [10] = O.data.toList ++ ([116, 121, 112, 101] ++ [32] ++ nm ++ [10])
        simp
      generalize hnr : rels.length = nr at *
      have hnr' := Lib.hid hnr
      have hrr' := Lib.hid hrr
      have hrv' := Lib.hid hrv
      have P' := Lib.hid P
      have B3' := Lib.hid B3
      have hT2' := Lib.hid hT2
      have hI2' := Lib.hid hI2
      clear hnr hrr hrv P B3 hT2 hI2 hI hlen hb3 bt3 hB hdr hq hjl tr x0 x1 hcell lg sN hN
      cases hg : good nm
      · have hT := Lib.hid (hT2'.out hg)
        rw [hg] at P'
        clear hT2' hI2' hg
        go_wp2_with fail
        refine P'.out.mono ?_
        rintro e w4 ⟨rfl, rfl⟩
        go_wp2_with fail
        go_ret2
        exact ⟨.inr ⟨hT.out, rfl⟩, B3'.out⟩
      have hI3 := Lib.hid (hI2'.out hg)
      rw [hg] at P'
      clear hT2' hI2' hg
      go_wp2_with fail
      refine P'.out.mono ?_
      rintro e w4 ⟨rfl, rfl⟩
      go_wp2_with fail
      go_loopw [4, 31] (fun l i wr => ∃ (k : Nat) (O : ByteArray), k ≤ nr ∧ i = .int .i64 k ∧ l = .string O ∧ PD T TW O (restT (rels.drop k) (ts.drop (j + 1))) (restW (rels.drop k) (ts.drop (j + 1))) ∧ Below w.heap.size w wr ∧ w.heap.size + 1 ≤ wr.heap.size) (fun _ i _ => nr - (intOf i).toNat)
      case atStart => exact ⟨0, _, Nat.zero_le _, rfl, rfl, hI3.out, B3'.out, by omega⟩
      case round =>
        obtain ⟨k, Q, hk, rfl, rfl, hIk, hBk, hzk⟩ := hrel
        by_cases hlk : k < nr
        · have hkl : k < rels.length := by rw [hnr'.out]; exact hlk
          obtain ⟨⟨mm, r⟩, hqk⟩ : ∃ q, rels[k]? = some q := ⟨_, List.getElem?_eq_getElem hkl⟩
          have hdk : rels.drop k = (mm, r) :: rels.drop (k + 1) := by
            rw [List.drop_eq_getElem_cons hkl, (List.getElem?_eq_some_iff.1 hqk).2]
          obtain ⟨h1, u1, rfl, hd1, hck⟩ := (hrr'.out.below hBk).cell (by omega)
          obtain ⟨M, kk, a, bb, q, d, hM, lh, v0, v1, v2, v3, v4, R⟩ := (hrv'.out.later hBk).part hck hqk
          rw [hdk] at hIk
          have hlen := hIk.1
          rw [restW_cons] at hlen
          have sM := Lib.size_eq M
          rw [hM] at sM
          obtain ⟨w7, e7⟩ : ∃ w7, wr.alloc (.cells #[.string M, .int .i64 kk, .string a, .string bb, .slice q r.parts.length d] 44) = w7 := ⟨_, rfl⟩
          have hb7 := (Below.refl wr.heap.size wr).alloc (Nat.le_refl _) (.cells #[.string M, .int .i64 kk, .string a, .string bb, .slice q r.parts.length d] 44)
          have br7 := Blk.new wr 44 #[.string M, .int .i64 kk, .string a, .string bb, .slice q r.parts.length d]
          have hz7 : w7.heap.size = wr.heap.size + 1 := by rw [← e7]; simp
          rw [e7] at hb7 br7
          have B7 := hBk.trans (hb7.mono (by omega))
          have c7 := br7.cell
          have l7 := br7.lt
          have R7 := R.later hb7
          have PT := text_calls r 8 0 w7 _ (Nat.le_refl _) (by decide) R7 (by omega)
          have hQn : Q.size + M.size + r.wt + 8 ≤ 900000000 := by omega
          have hMn : M.size ≤ 900000000 := by omega
          have hO := fun w => own_calls M w (by unfold maxLen; omega)
          rw [hM] at hO
          have hty5 := tysaid5 M
          rw [hM] at hty5
          have hbad : relT mm r = none → T = none := fun h => by rw [hIk.2, restT_cons, h]; rfl
          have hgood : ∀ (s : ByteArray), good mm = true → mm ≠ typeL → ruleT 8 r = some s.data.toList → PD T TW (Q ++ M ++ ⟨#[32, 61, 32]⟩ ++ s ++ ⟨#[10]⟩) (restT (rels.drop (k + 1)) (ts.drop (j + 1))) (restW (rels.drop (k + 1)) (ts.drop (j + 1))) ∧ s.size ≤ r.wt := fun s g1 g2 g3 => by
            have hsz : s.size ≤ r.wt := by
              have h1 := rule_len r 8 _ g3
              have h2 := tl_wt r
              rw [← Lib.size_eq] at h1
              omega
            refine ⟨PI.pd (hIk.pi.rel ?_ (.inr ⟨rfl, rfl, mm ++ [32, 61, 32] ++ s.data.toList ++ [10], ?_, ?_⟩)), hsz⟩
            · rw [← Lib.size_eq, ← Lib.size_eq, ByteArray.size_append, ByteArray.size_append, ByteArray.size_append, ByteArray.size_append, show (⟨#[32, 61, 32]⟩ : ByteArray).size = 3 from rfl, show (⟨#[10]⟩ : ByteArray).size = 1 from rfl]
              omega
            · unfold relT
              rw [if_pos ⟨g1, g2⟩, g3]; rfl
            · rw [bd, bd, bd, bd, hM]
              show Q.data.toList ++ mm ++ [32, 61, 32] ++ s.data.toList ++ [10] = Q.data.toList ++ (mm ++ [32, 61, 32] ++ s.data.toList ++ [10])
              simp
          have hrelno : (good mm = true → mm ≠ typeL → ruleT 8 r = none) → relT mm r = none := fun h => by
            unfold relT
            by_cases hc : good mm = true ∧ mm ≠ typeL
            · rw [if_pos hc, h hc.1 hc.2]; rfl
            · rw [if_neg hc]
          have PT' := Lib.hid PT
          have hO' := Lib.hid hO
          have B7' := Lib.hid B7
          have br7' := Lib.hid br7
          have hbad' := Lib.hid hbad
          have hgood' := Lib.hid hgood
          have hrelno' := Lib.hid hrelno
          clear PT hO B7 br7 hbad hgood hrelno hlen hb7 hBk R R7 hdk hqk hkl hck hIk sM hM
          go_wp2_with fail
          refine PT'.out.mono ?_
          rintro e w8 ⟨⟨s, ok, rfl, hs⟩, hb8⟩
          have l8 := hb8.size
          have B8 := B7'.out.trans (hb8.mono (by omega))
          have br8 := br7'.out.below hb8 l7
          have c8 := br8.cell
          have l88 := br8.lt
          have P8 := hO'.out w8
          have B8' := Lib.hid B8
          cases hg : good mm
          · rw [hg] at P8
            have P8' := Lib.hid P8
            have hT := Lib.hid (hbad'.out (hrelno'.out fun e => by rw [hg] at e; cases e))
            clear hbad' hgood' hrelno' hs hg P8 B8 br8 hb8 c7 v0 v1 v2 v3 v4 hO' PT'
            go_wp2_with fail
            refine P8'.out.mono ?_
            rintro e w9 ⟨rfl, rfl⟩
            go_wp2_with fail
            go_ret2
            exact ⟨.inr ⟨hT.out, rfl⟩, B8'.out⟩
          · rw [hg] at P8
            have P8' := Lib.hid P8
            by_cases htl : mm = typeL
            · have hT := Lib.hid (hbad'.out (hrelno'.out fun _ e => absurd htl e))
              rw [decide_eq_true htl] at hty5
              clear hbad' hgood' hrelno' hs hg P8 B8 br8 hb8 c7 v0 v1 v2 v3 v4 hO' PT' htl
              go_wp2_with fail
              refine P8'.out.mono ?_
              rintro e w9 ⟨rfl, rfl⟩
              go_wp2_with fail
              go_ret2
              exact ⟨.inr ⟨hT.out, rfl⟩, B8'.out⟩
            · rw [decide_eq_false htl] at hty5
              rcases hs with ⟨rfl, hs⟩ | ⟨rfl, hs⟩
              · obtain ⟨hI9, hss⟩ := hgood'.out s hg htl hs
                have hI9' := Lib.hid hI9
                clear hbad' hgood' hrelno' hs hg P8 B8 br8 hb8 c7 v0 v1 v2 v3 v4 hO' PT' htl hI9
                go_wp2_with fail
                refine P8'.out.mono ?_
                rintro e w9 ⟨rfl, rfl⟩
                go_wp2_with fail
                go_roundw
                case rel => exact ⟨k + 1, _, by omega, by go_num, rfl, hI9'.out, B8'.out, by omega⟩
                case measure => simp [intOf]; omega
              · have hT := Lib.hid (hbad'.out (hrelno'.out fun _ _ => hs))
                clear hbad' hgood' hrelno' hs hg P8 B8 br8 hb8 c7 v0 v1 v2 v3 v4 hO' PT' htl
                go_wp2_with fail
                refine P8'.out.mono ?_
                rintro e w9 ⟨rfl, rfl⟩
                go_wp2_with fail
                go_ret2
                exact ⟨.inr ⟨hT.out, rfl⟩, B8'.out⟩
        · obtain rfl : k = nr := by omega
          have hIe : PD T TW Q (tysT (ts.drop (j + 1))) (tysW (ts.drop (j + 1))) := by
            have h := hIk
            rw [List.drop_eq_nil_of_le (by rw [hnr'.out]; exact Nat.le_refl _), restT_nil, restW_nil] at h
            exact h
          have hIe' := Lib.hid hIe
          have hBk' := Lib.hid hBk
          clear hIe hIk hBk
          go_wp2_with fail
          go_roundw
          case rel => exact ⟨j + 1, _, by omega, by go_num, rfl, hIe'.out, hBk'.out, by omega⟩
          case measure => simp [intOf]; omega
    · obtain rfl : j = n := by omega
      have hE : T = some O.data.toList := by
        have h := hI.2
        rw [List.drop_eq_nil_of_le (by rw [hn'.out]; exact Nat.le_refl _)] at h
        rw [h]
        show some (O.data.toList ++ []) = _
        rw [List.append_nil]
      have hE' := Lib.hid hE
      have hB' := Lib.hid hB
      clear hE hI hB
      go_wp2_with fail
      go_ret2
      refine ⟨.inl ⟨O.data.toList, hE'.out, ?_⟩, hB'.out⟩
      rfl
end Go.Proofs.YtkibaaljpbcjeaaDoor
