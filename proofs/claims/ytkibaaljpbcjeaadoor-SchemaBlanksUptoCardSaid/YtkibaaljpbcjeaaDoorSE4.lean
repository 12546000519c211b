/- Walk: the document's Same. -/
import Derived.Test.YtkibaaljpbcjeaaDoorSC1
namespace Go.Proofs.YtkibaaljpbcjeaaDoor
open Go.RowKit
theorem list_ext_of {α : Type} {xs ys : List α} (hl : xs.length = ys.length) (h : ∀ j, j < xs.length → xs[j]? = ys[j]?) : xs = ys := by
  apply List.ext_getElem?
  intro j
  by_cases hj : j < xs.length
  · exact h j hj
  · rw [List.getElem?_eq_none (by omega), List.getElem?_eq_none (by omega)]
theorem two_alloc (w : World) (T : TypeId) (c c' : Array Value) : ∃ w4, ((w.alloc (.cells c T)).alloc (.cells c' T)).drew = w4 ∧ Blk w4 w.heap.size T c ∧ Blk w4 (w.heap.size + 1) T c' ∧ Below w.heap.size w w4 ∧ w4.heap.size = w.heap.size + 2 := by
  have h2 := Blk.new (w.alloc (.cells c T)) T c'
  simp only [World.size_alloc] at h2
  exact ⟨_, rfl, ((Blk.new w T c).alloc (.cells c' T)).drew, h2.drew, (((Below.refl w.heap.size w).alloc (Nat.le_refl _) (.cells c T)).alloc (by simp) (.cells c' T)).drew, by simp [World.drew]⟩
set_option maxHeartbeats 8000000 in
set_option maxRecDepth 100000 in
theorem same_calls (v1 v2 : Value) (ts1 ts2 : List TyD) (w : World) (h1 : SchV w v1 ts1) (h2 : SchV w v2 ts2) :
    Calls Tryd.prog 10 #[.agg #[v1], .agg #[v2]] w fun e w' => ∃ b : Bool, e = .returned (.bool b) ∧ (b = true ↔ ts1 = ts2) ∧ Below w.heap.size w w' := by
  obtain ⟨p1, c1, rfl⟩ := h1.form
  obtain ⟨p2, c2, rfl⟩ := h2.form
  have bx1 := (Blk.new w 25 #[.slice p1 ts1.length c1]).alloc (.cells #[.slice p2 ts2.length c2] 25)
  have bx2 := Blk.new (w.alloc (.cells #[.slice p1 ts1.length c1] 25)) 25 #[.slice p2 ts2.length c2]
  simp only [World.size_alloc] at bx2
  have hb := ((Below.refl w.heap.size w).alloc (Nat.le_refl _) (.cells #[.slice p1 ts1.length c1] 25)).alloc (by simp) (.cells #[.slice p2 ts2.length c2] 25)
  obtain ⟨W, eW⟩ : ∃ W, (w.alloc (.cells #[.slice p1 ts1.length c1] 25)).alloc (.cells #[.slice p2 ts2.length c2] 25) = W := ⟨_, rfl⟩
  have hzW : W.heap.size = w.heap.size + 2 := by rw [← eW]; simp
  rw [eW] at bx1 bx2 hb
  have x1c := bx1.cell
  have x2c := bx2.cell
  obtain ⟨cs1, hrow1, hty1⟩ := h1
  obtain ⟨cs2, hrow2, hty2⟩ := h2
  have hmax := Lib.hid hrow1.1
  have hrow1' := Lib.hid hrow1
  have hrow2' := Lib.hid hrow2
  have hty1' := Lib.hid hty1
  have hty2' := Lib.hid hty2
  have bx1' := Lib.hid bx1
  have bx2' := Lib.hid bx2
  have hb' := Lib.hid hb
  clear hrow1 hrow2 hty1 hty2 bx1 bx2 hb
  by_cases hl : ts1.length = ts2.length
  · have hl' := Lib.hid hl
    generalize hn1 : ts1.length = n1 at *
    generalize hn2 : ts2.length = n2 at *
    obtain rfl : n1 = n2 := hl
    have hn1' := Lib.hid hn1
    have hn2' := Lib.hid hn2
    clear hn1 hn2 hl'
    go_enter Tryd.func10, Tryd.ntmps10
    go_wp2_with fail
    go_loopw [19] (fun i wr => ∃ j : Nat, j ≤ n1 ∧ i = .int .i64 j ∧ (∀ t, t < j → ts1[t]? = ts2[t]?) ∧ Blk wr w.heap.size 25 #[.slice p1 n1 c1] ∧ Blk wr (w.heap.size + 1) 25 #[.slice p2 n1 c2] ∧ Below w.heap.size w wr ∧ w.heap.size + 2 ≤ wr.heap.size) (fun i _ => n1 - (intOf i).toNat)
    case atStart => exact ⟨0, Nat.zero_le _, rfl, fun t h => absurd h (Nat.not_lt_zero _), bx1'.out, bx2'.out, hb'.out, by omega⟩
    case round =>
      obtain ⟨j, hj, rfl, hall, hx1, hx2, hB, hz⟩ := hrel
      by_cases hlt : j < n1
      · have hl1 : j < ts1.length := by rw [hn1'.out]; exact hlt
        have hl2 : j < ts2.length := by rw [hn2'.out]; exact hlt
        obtain ⟨⟨m1, rels1⟩, hq1⟩ : ∃ q, ts1[j]? = some q := ⟨_, List.getElem?_eq_getElem hl1⟩
        obtain ⟨⟨m2, rels2⟩, hq2⟩ : ∃ q, ts2[j]? = some q := ⟨_, List.getElem?_eq_getElem hl2⟩
        obtain ⟨g1, o1, rfl, hc1, hcell1⟩ := (hrow1'.out.below hB).cell (by omega)
        obtain ⟨g2, o2, rfl, hc2, hcell2⟩ := (hrow2'.out.below hB).cell (by omega)
        obtain ⟨M1, q1, d1, rcs1, hM1, l1, y0, y1, hrr1, hrv1⟩ := (hty1'.out.later hB).part hcell1 hq1
        obtain ⟨M2, q2, d2, rcs2, hM2, l2, z0, z1, hrr2, hrv2⟩ := (hty2'.out.later hB).part hcell2 hq2
        have hx1c := hx1.cell
        have hx2c := hx2.cell
        have lA : w.heap.size < wr.heap.size := by omega
        have lB : w.heap.size + 1 < wr.heap.size := by omega
        have hall' := Lib.hid hall
        have hq1' := Lib.hid hq1
        have hq2' := Lib.hid hq2
        have hM1' := Lib.hid hM1
        have hM2' := Lib.hid hM2
        have hrr1' := Lib.hid hrr1
        have hrr2' := Lib.hid hrr2
        have hrv1' := Lib.hid hrv1
        have hrv2' := Lib.hid hrv2
        have hx1' := Lib.hid hx1
        have hx2' := Lib.hid hx2
        clear eW hzW x1c x2c hall hq1 hq2 hl1 hl2 hcell1 hcell2 hM1 hM2 hrr1 hrr2 hrv1 hrv2 hx1 hx2
        go_wp2_with fail
        go_region
        · obtain ⟨wo, rfl⟩ : ∃ wo : World, wo = wr := ⟨_, rfl⟩
          obtain ⟨w4, e4, bX, bY, b4, z4⟩ := two_alloc wo 39 #[.string M1, .slice q1 rels1.length d1] #[.string M2, .slice q2 rels2.length d2]
          rw [e4]
          have bxc := bX.cell
          have byc := bY.cell
          have B4 := hB.trans (b4.mono (by omega))
          have hx14 := hx1'.out.below b4 lA
          have hx24 := hx2'.out.below b4 lB
          have bX' := Lib.hid bX
          have bY' := Lib.hid bY
          have hx14' := Lib.hid hx14
          have hx24' := Lib.hid hx24
          have B4' := Lib.hid B4
          have b4' := Lib.hid b4
          clear bX bY hx14 hx24 B4 b4 hB e4 hx1c hx2c y0 y1 z0 z1
          by_cases hc : (M1.toList == M2.toList) = true ∧ rels1.length = rels2.length
          · obtain ⟨hce, hcl⟩ := hc
            have hmm : m1 = m2 := by
              rw [beq_str, beq_iff_eq, hM1'.out, hM2'.out] at hce; exact hce
            generalize hr1 : rels1.length = nr at *
            generalize hr2 : rels2.length = nr2 at *
            obtain rfl : nr = nr2 := hcl
            have hr1' := Lib.hid hr1
            have hr2' := Lib.hid hr2
            clear hr1 hr2
            go_wp2_with fail
            go_loopw [49] (fun i wr => ∃ k : Nat, k ≤ nr ∧ i = .int .i64 k ∧ (∀ t, t < k → rels1[t]? = rels2[t]?) ∧ Blk wr wo.heap.size 39 #[.string M1, .slice q1 nr d1] ∧ Blk wr (wo.heap.size + 1) 39 #[.string M2, .slice q2 nr d2] ∧ Blk wr w.heap.size 25 #[.slice (some ⟨g1, o1, none⟩) n1 c1] ∧ Blk wr (w.heap.size + 1) 25 #[.slice (some ⟨g2, o2, none⟩) n1 c2] ∧ Below wo.heap.size wo wr ∧ Below w.heap.size w wr ∧ wo.heap.size + 2 ≤ wr.heap.size) (fun i _ => nr - (intOf i).toNat)
            case atStart => exact ⟨0, Nat.zero_le _, rfl, fun t h => absurd h (Nat.not_lt_zero _), bX'.out, bY'.out, hx14'.out, hx24'.out, b4'.out, B4'.out, by omega⟩
            case round =>
              obtain ⟨k, hk, rfl, hal, hX, hY, hS1, hS2, hBr, hBw, hzr⟩ := hrel
              by_cases hlk : k < nr
              · have hk1 : k < rels1.length := by rw [hr1'.out]; exact hlk
                have hk2 : k < rels2.length := by rw [hr2'.out]; exact hlk
                obtain ⟨⟨a1, t1⟩, hp1⟩ : ∃ q, rels1[k]? = some q := ⟨_, List.getElem?_eq_getElem hk1⟩
                obtain ⟨⟨a2, t2⟩, hp2⟩ : ∃ q, rels2[k]? = some q := ⟨_, List.getElem?_eq_getElem hk2⟩
                have hrowk1 := hrr1'.out.below hBr
                have hrowk2 := hrr2'.out.below hBr
                obtain ⟨h1, u1, rfl, hd1, hck1⟩ := hrowk1.cell (by omega)
                obtain ⟨h2, u2, rfl, hd2, hck2⟩ := hrowk2.cell (by omega)
                obtain ⟨N1, k1, e1, f1, r1, s1, hN1, lh1, v0, v1, v2, v3, v4, R1⟩ := (hrv1'.out.later hBr).part hck1 hp1
                obtain ⟨N2, k2, e2, f2, r2, s2, hN2, lh2, x0, x1, x2, x3, x4, R2⟩ := (hrv2'.out.later hBr).part hck2 hp2
                have hcall : ∀ W', Below wr.heap.size wr W' → Calls Tryd.prog 23 #[.agg #[.int .i64 k1, .string e1, .string f1, .slice r1 t1.parts.length s1], .agg #[.int .i64 k2, .string e2, .string f2, .slice r2 t2.parts.length s2]] W' (SameSaid W' t1 t2) := fun W' hBW => sameRule_calls t1 _ _ t2 W' (R1.later hBW) (R2.later hBW)
                have hcall' := Lib.hid hcall
                have hp1' := Lib.hid hp1
                have hp2' := Lib.hid hp2
                have hal' := Lib.hid hal
                have hXc := hX.cell
                have hYc := hY.cell
                have lX : wo.heap.size < wr.heap.size := by omega
                have lY : wo.heap.size + 1 < wr.heap.size := by omega
                have hNe := beq_str N1 N2
                rw [hN1, hN2] at hNe
                have hX' := Lib.hid hX
                have hY' := Lib.hid hY
                have hS1' := Lib.hid hS1
                have hS2' := Lib.hid hS2
                have hBr' := Lib.hid hBr
                have hBw' := Lib.hid hBw
                clear hcall hp1 hp2 hal hX hY hS1 hS2 hBr hBw R1 R2 hck1 hck2 hrowk1 hrowk2 hk1 hk2 hN1 hN2 bxc byc
                by_cases hnn : a1 = a2
                · have hNe1 : (N1.toList == N2.toList) = true := by rw [hNe, hnn]; exact beq_self_eq_true _
                  clear hNe
                  go_wp2_with fail
                  go_region_held3 (fun w' => (∀ q i, q < wr.heap.size → w'.cell? ⟨q, i, none⟩ = wr.cell? ⟨q, i, none⟩) ∧ Below wr.heap.size wr w')
                    (first | exact Kept.start _ | exact Kept.next (by assumption) (by assumption))
                    ((go_at_call 23; with_reducible refine (hcall'.out _ (by first | assumption | exact (by assumption : Kept wr _).2)).mono ?_; rintro e w3 ⟨bq, rfl, hbq, hb3⟩))
                  rename_i w5 hS5
                  have hB5 := hS5.2
                  have hX5 := hX'.out.below hB5 (by omega)
                  have hY5 := hY'.out.below hB5 (by omega)
                  have hS15 := hS1'.out.below hB5 (by omega)
                  have hS25 := hS2'.out.below hB5 (by omega)
                  have hBr5 := hBr'.out.trans (hB5.mono (by omega))
                  have hBw5 := hBw'.out.trans (hB5.mono (by omega))
                  have hz5 := hB5.size
                  clear hS5 v0 v1 v2 v3 v4 x0 x1 x2 x3 x4 hXc hYc
                  cases bq
                  · have hne : ¬ ts1 = ts2 := fun e => by
                      have h1 := hq1'.out
                      rw [e, hq2'.out] at h1
                      obtain ⟨_, h3⟩ := Prod.mk.inj (Option.some.inj h1)
                      have h2 := hp1'.out
                      rw [← h3, hp2'.out] at h2
                      have := hbq.2 (Prod.mk.inj (Option.some.inj h2)).2.symm
                      cases this
                    have hne' := Lib.hid hne
                    have hB6 := Lib.hid hBw5
                    clear hne hBw5
                    go_wp2_with fail
                    go_ret
                    exact ⟨false, rfl, ⟨fun e => (by cases e), fun e => absurd e hne'.out⟩, hB6.out⟩
                  · have hqq := hbq.1 rfl
                    have hall2 : ∀ t, t < k + 1 → rels1[t]? = rels2[t]? := fun t ht => by
                      by_cases htj : t = k
                      · rw [htj, hp1'.out, hp2'.out, hqq, hnn]
                      · exact hal'.out t (by omega)
                    have hall2' := Lib.hid hall2
                    have hmx := hrr1'.out.1
                    unfold maxLen at hmx
                    clear hall2 hqq hbq
                    go_wp2_with fail
                    go_roundw
                    case rel => exact ⟨k + 1, by omega, by go_num, hall2'.out, hX5, hY5, hS15, hS25, hBr5, hBw5, by omega⟩
                    case measure => simp [intOf]; omega
                · have hNe1 : (N1.toList == N2.toList) = false := by rw [hNe]; exact beq_false_of_ne hnn
                  have hne : ¬ ts1 = ts2 := fun e => by
                    have h1 := hq1'.out
                    rw [e, hq2'.out] at h1
                    obtain ⟨_, h3⟩ := Prod.mk.inj (Option.some.inj h1)
                    have h2 := hp1'.out
                    rw [← h3, hp2'.out] at h2
                    exact hnn (Prod.mk.inj (Option.some.inj h2)).1.symm
                  have hne' := Lib.hid hne
                  clear hNe hne
                  go_wp2_with fail
                  go_quiet (fail)
                  go_wp2_with fail
                  go_ret
                  exact ⟨false, rfl, ⟨fun e => (by cases e), fun e => absurd e hne'.out⟩, bdrewN hBw'.out _⟩
              · obtain rfl : k = nr := by omega
                have hrr : rels1 = rels2 := list_ext_of (by rw [hr1'.out, hr2'.out]) fun t ht => hal t (by rw [hr1'.out] at ht; exact ht)
                have hall2 : ∀ t, t < j + 1 → ts1[t]? = ts2[t]? := fun t ht => by
                  by_cases htj : t = j
                  · rw [htj, hq1'.out, hq2'.out, hrr, hmm]
                  · exact hall'.out t (by omega)
                have hall2' := Lib.hid hall2
                have hmx := hmax.out
                unfold maxLen at hmx
                clear hall2 hrr hal hX hY
                go_wp2_with fail
                go_roundw
                case rel => exact ⟨j + 1, by omega, by go_num, hall2'.out, hS1, hS2, hBw, by omega⟩
                case measure => simp [intOf]; omega
          · have hne : ¬ ts1 = ts2 := fun e => by
              have h1 := hq1'.out
              rw [e, hq2'.out] at h1
              obtain ⟨h3, h4⟩ := Prod.mk.inj (Option.some.inj h1)
              refine hc ⟨?_, by rw [h4]⟩
              rw [beq_str, hM1'.out, hM2'.out, h3]
              exact beq_self_eq_true _
            have hcs : (M1.toList == M2.toList) = false ∨ ((M1.toList == M2.toList) = true ∧ ¬ rels1.length = rels2.length) := by
              cases hh : (M1.toList == M2.toList)
              · exact .inl rfl
              · exact .inr ⟨rfl, fun e => hc ⟨hh, e⟩⟩
            have hne' := Lib.hid hne
            clear hc hne
            rcases hcs with n1 | ⟨n1, n2⟩
            all_goals
              go_wp2_with fail
              all_goals
                go_ret
                exact ⟨false, rfl, ⟨fun e => (by cases e), fun e => absurd e hne'.out⟩, B4'.out⟩
        · obtain ⟨wo, rfl⟩ : ∃ wo : World, wo = wr := ⟨_, rfl⟩
          obtain ⟨w4, e4, bY, bX, b4, z4⟩ := two_alloc wo 39 #[.string M2, .slice q2 rels2.length d2] #[.string M1, .slice q1 rels1.length d1]
          rw [e4]
          have bxc := bX.cell
          have byc := bY.cell
          have B4 := hB.trans (b4.mono (by omega))
          have hx14 := hx1'.out.below b4 lA
          have hx24 := hx2'.out.below b4 lB
          have bX' := Lib.hid bX
          have bY' := Lib.hid bY
          have hx14' := Lib.hid hx14
          have hx24' := Lib.hid hx24
          have B4' := Lib.hid B4
          have b4' := Lib.hid b4
          clear bX bY hx14 hx24 B4 b4 hB e4 hx1c hx2c y0 y1 z0 z1
          by_cases hc : (M1.toList == M2.toList) = true ∧ rels1.length = rels2.length
          · obtain ⟨hce, hcl⟩ := hc
            have hmm : m1 = m2 := by
              rw [beq_str, beq_iff_eq, hM1'.out, hM2'.out] at hce; exact hce
            generalize hr1 : rels1.length = nr at *
            generalize hr2 : rels2.length = nr2 at *
            obtain rfl : nr = nr2 := hcl
            have hr1' := Lib.hid hr1
            have hr2' := Lib.hid hr2
            clear hr1 hr2
            go_wp2_with fail
            go_loopw [49] (fun i wr => ∃ k : Nat, k ≤ nr ∧ i = .int .i64 k ∧ (∀ t, t < k → rels1[t]? = rels2[t]?) ∧ Blk wr (wo.heap.size + 1) 39 #[.string M1, .slice q1 nr d1] ∧ Blk wr wo.heap.size 39 #[.string M2, .slice q2 nr d2] ∧ Blk wr w.heap.size 25 #[.slice (some ⟨g1, o1, none⟩) n1 c1] ∧ Blk wr (w.heap.size + 1) 25 #[.slice (some ⟨g2, o2, none⟩) n1 c2] ∧ Below wo.heap.size wo wr ∧ Below w.heap.size w wr ∧ wo.heap.size + 2 ≤ wr.heap.size) (fun i _ => nr - (intOf i).toNat)
            case atStart => exact ⟨0, Nat.zero_le _, rfl, fun t h => absurd h (Nat.not_lt_zero _), bX'.out, bY'.out, hx14'.out, hx24'.out, b4'.out, B4'.out, by omega⟩
            case round =>
              obtain ⟨k, hk, rfl, hal, hX, hY, hS1, hS2, hBr, hBw, hzr⟩ := hrel
              by_cases hlk : k < nr
              · have hk1 : k < rels1.length := by rw [hr1'.out]; exact hlk
                have hk2 : k < rels2.length := by rw [hr2'.out]; exact hlk
                obtain ⟨⟨a1, t1⟩, hp1⟩ : ∃ q, rels1[k]? = some q := ⟨_, List.getElem?_eq_getElem hk1⟩
                obtain ⟨⟨a2, t2⟩, hp2⟩ : ∃ q, rels2[k]? = some q := ⟨_, List.getElem?_eq_getElem hk2⟩
                have hrowk1 := hrr1'.out.below hBr
                have hrowk2 := hrr2'.out.below hBr
                obtain ⟨h1, u1, rfl, hd1, hck1⟩ := hrowk1.cell (by omega)
                obtain ⟨h2, u2, rfl, hd2, hck2⟩ := hrowk2.cell (by omega)
                obtain ⟨N1, k1, e1, f1, r1, s1, hN1, lh1, v0, v1, v2, v3, v4, R1⟩ := (hrv1'.out.later hBr).part hck1 hp1
                obtain ⟨N2, k2, e2, f2, r2, s2, hN2, lh2, x0, x1, x2, x3, x4, R2⟩ := (hrv2'.out.later hBr).part hck2 hp2
                have hcall : ∀ W', Below wr.heap.size wr W' → Calls Tryd.prog 23 #[.agg #[.int .i64 k1, .string e1, .string f1, .slice r1 t1.parts.length s1], .agg #[.int .i64 k2, .string e2, .string f2, .slice r2 t2.parts.length s2]] W' (SameSaid W' t1 t2) := fun W' hBW => sameRule_calls t1 _ _ t2 W' (R1.later hBW) (R2.later hBW)
                have hcall' := Lib.hid hcall
                have hp1' := Lib.hid hp1
                have hp2' := Lib.hid hp2
                have hal' := Lib.hid hal
                have hXc := hX.cell
                have hYc := hY.cell
                have lX : wo.heap.size < wr.heap.size := by omega
                have lY : wo.heap.size + 1 < wr.heap.size := by omega
                have hNe := beq_str N1 N2
                rw [hN1, hN2] at hNe
                have hX' := Lib.hid hX
                have hY' := Lib.hid hY
                have hS1' := Lib.hid hS1
                have hS2' := Lib.hid hS2
                have hBr' := Lib.hid hBr
                have hBw' := Lib.hid hBw
                clear hcall hp1 hp2 hal hX hY hS1 hS2 hBr hBw R1 R2 hck1 hck2 hrowk1 hrowk2 hk1 hk2 hN1 hN2 bxc byc
                by_cases hnn : a1 = a2
                · have hNe1 : (N1.toList == N2.toList) = true := by rw [hNe, hnn]; exact beq_self_eq_true _
                  clear hNe
                  go_wp2_with fail
                  go_region_held3 (fun w' => (∀ q i, q < wr.heap.size → w'.cell? ⟨q, i, none⟩ = wr.cell? ⟨q, i, none⟩) ∧ Below wr.heap.size wr w')
                    (first | exact Kept.start _ | exact Kept.next (by assumption) (by assumption))
                    ((go_at_call 23; with_reducible refine (hcall'.out _ (by first | assumption | exact (by assumption : Kept wr _).2)).mono ?_; rintro e w3 ⟨bq, rfl, hbq, hb3⟩))
                  rename_i w5 hS5
                  have hB5 := hS5.2
                  have hX5 := hX'.out.below hB5 (by omega)
                  have hY5 := hY'.out.below hB5 (by omega)
                  have hS15 := hS1'.out.below hB5 (by omega)
                  have hS25 := hS2'.out.below hB5 (by omega)
                  have hBr5 := hBr'.out.trans (hB5.mono (by omega))
                  have hBw5 := hBw'.out.trans (hB5.mono (by omega))
                  have hz5 := hB5.size
                  clear hS5 v0 v1 v2 v3 v4 x0 x1 x2 x3 x4 hXc hYc
                  cases bq
                  · have hne : ¬ ts1 = ts2 := fun e => by
                      have h1 := hq1'.out
                      rw [e, hq2'.out] at h1
                      obtain ⟨_, h3⟩ := Prod.mk.inj (Option.some.inj h1)
                      have h2 := hp1'.out
                      rw [← h3, hp2'.out] at h2
                      have := hbq.2 (Prod.mk.inj (Option.some.inj h2)).2.symm
                      cases this
                    have hne' := Lib.hid hne
                    have hB6 := Lib.hid hBw5
                    clear hne hBw5
                    go_wp2_with fail
                    go_ret
                    exact ⟨false, rfl, ⟨fun e => (by cases e), fun e => absurd e hne'.out⟩, hB6.out⟩
                  · have hqq := hbq.1 rfl
                    have hall2 : ∀ t, t < k + 1 → rels1[t]? = rels2[t]? := fun t ht => by
                      by_cases htj : t = k
                      · rw [htj, hp1'.out, hp2'.out, hqq, hnn]
                      · exact hal'.out t (by omega)
                    have hall2' := Lib.hid hall2
                    have hmx := hrr1'.out.1
                    unfold maxLen at hmx
                    clear hall2 hqq hbq
                    go_wp2_with fail
                    go_roundw
                    case rel => exact ⟨k + 1, by omega, by go_num, hall2'.out, hX5, hY5, hS15, hS25, hBr5, hBw5, by omega⟩
                    case measure => simp [intOf]; omega
                · have hNe1 : (N1.toList == N2.toList) = false := by rw [hNe]; exact beq_false_of_ne hnn
                  have hne : ¬ ts1 = ts2 := fun e => by
                    have h1 := hq1'.out
                    rw [e, hq2'.out] at h1
                    obtain ⟨_, h3⟩ := Prod.mk.inj (Option.some.inj h1)
                    have h2 := hp1'.out
                    rw [← h3, hp2'.out] at h2
                    exact hnn (Prod.mk.inj (Option.some.inj h2)).1.symm
                  have hne' := Lib.hid hne
                  clear hNe hne
                  go_wp2_with fail
                  go_quiet (fail)
                  go_wp2_with fail
                  go_ret
                  exact ⟨false, rfl, ⟨fun e => (by cases e), fun e => absurd e hne'.out⟩, bdrewN hBw'.out _⟩
              · obtain rfl : k = nr := by omega
                have hrr : rels1 = rels2 := list_ext_of (by rw [hr1'.out, hr2'.out]) fun t ht => hal t (by rw [hr1'.out] at ht; exact ht)
                have hall2 : ∀ t, t < j + 1 → ts1[t]? = ts2[t]? := fun t ht => by
                  by_cases htj : t = j
                  · rw [htj, hq1'.out, hq2'.out, hrr, hmm]
                  · exact hall'.out t (by omega)
                have hall2' := Lib.hid hall2
                have hmx := hmax.out
                unfold maxLen at hmx
                clear hall2 hrr hal hX hY
                go_wp2_with fail
                go_roundw
                case rel => exact ⟨j + 1, by omega, by go_num, hall2'.out, hS1, hS2, hBw, by omega⟩
                case measure => simp [intOf]; omega
          · have hne : ¬ ts1 = ts2 := fun e => by
              have h1 := hq1'.out
              rw [e, hq2'.out] at h1
              obtain ⟨h3, h4⟩ := Prod.mk.inj (Option.some.inj h1)
              refine hc ⟨?_, by rw [h4]⟩
              rw [beq_str, hM1'.out, hM2'.out, h3]
              exact beq_self_eq_true _
            have hcs : (M1.toList == M2.toList) = false ∨ ((M1.toList == M2.toList) = true ∧ ¬ rels1.length = rels2.length) := by
              cases hh : (M1.toList == M2.toList)
              · exact .inl rfl
              · exact .inr ⟨rfl, fun e => hc ⟨hh, e⟩⟩
            have hne' := Lib.hid hne
            clear hc hne
            rcases hcs with n1 | ⟨n1, n2⟩
            all_goals
              go_wp2_with fail
              all_goals
                go_ret
                exact ⟨false, rfl, ⟨fun e => (by cases e), fun e => absurd e hne'.out⟩, B4'.out⟩
      · obtain rfl : j = n1 := by omega
        have heqf : ts1 = ts2 := list_ext_of (by rw [hn1'.out, hn2'.out]) fun t ht => hall t (by rw [hn1'.out] at ht; exact ht)
        have heqf' := Lib.hid heqf
        clear heqf hall
        go_wp2_with fail
        go_ret
        exact ⟨true, rfl, ⟨fun _ => heqf'.out, fun _ => rfl⟩, hB⟩
  · have hne : ¬ ts1 = ts2 := fun e => hl (by rw [e])
    have hne' := Lib.hid hne
    clear hne
    go_enter Tryd.func10, Tryd.ntmps10
    go_wp2_with fail
    go_ret
    exact ⟨false, rfl, ⟨fun e => (by cases e), fun e => absurd e hne'.out⟩, hb'.out⟩
end Go.Proofs.YtkibaaljpbcjeaaDoor
