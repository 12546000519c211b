/- Walks: the value of a condition. -/
import Derived.Test.YtdfgbkilaepolaaGreatDoorPO21
namespace Go.Proofs.YtdfgbkilaepolaaGreatDoor
open Go.RowKit Go.Maps
attribute [local go_sem ↓] eql_val
theorem togI_all {l : List Int} (h : 0 < togI l) : ∀ j ∈ l, j = togI l := by
  cases l with
  | nil => exact absurd h (by decide)
  | cons k l =>
    have e : togI (k :: l) = if l.all (fun j => decide (j = k)) then k else 0 := rfl
    rw [e] at h ⊢
    by_cases ha : l.all (fun j => decide (j = k)) = true
    · rw [if_pos ha] at h ⊢
      intro j hj
      rcases List.mem_cons.1 hj with rfl | hj
      · rfl
      · exact of_decide_eq_true (List.all_eq_true.1 ha j hj)
    · rw [if_neg ha] at h; exact absurd h (by decide)
theorem kind_parts {K : List UInt8 → Int} {r : CT} (h : 0 < kindC K r) (h6 : 6 ≤ r.kind) : ∀ q ∈ r.parts, 0 < kindC K q ∧ takesK r.kind (kindC K q) = true := by
  rw [kindC_eq, if_neg (by omega), if_neg (by omega), if_neg (by omega), if_neg (by omega)] at h
  unfold ofK at h
  by_cases hc : 0 < togI (r.parts.map (kindC K)) ∧ takesK r.kind (togI (r.parts.map (kindC K))) = true
  · intro q hq
    have := togI_all hc.1 _ (List.mem_map.2 ⟨q, hq, rfl⟩)
    rw [this]
    exact hc
  · rw [if_neg hc] at h; exact absurd h (by decide)
theorem flagV_of (b : Bool) (n : Int) (h : (flagV b).n = n) : flagV b = ⟨1, n, (⟨#[]⟩ : ByteArray).data.toList⟩ := by rw [← h]; rfl
set_option maxHeartbeats 16000000 in
set_option maxRecDepth 100000 in
theorem value_step (pa : List Par) (B : List UInt8 → Vl) (hG : Goes (kindOf pa) B) (r : CT) (hrec : ∀ q ∈ r.parts, ValSaid B q) (hs : r.slim) (hw : r.well) (hk : 0 < kindC (kindOf pa) r) : ValSaid B r := by
  intro cs w b hR hM
  obtain ⟨k, m, a, p, c, ds, ecs, hq, hrow, hlen, hp⟩ := hR.form
  have hkk : r.kind = k := by rw [hq]; rfl
  have hss : r.str = a.data.toList := by rw [hq]; rfl
  have hnn : r.num = m := by rw [hq]; rfl
  have ha : a.size ≤ maxLen := by
    have := hs.str
    rw [hss] at this
    rw [Lib.size_eq]; unfold maxLen; omega
  have hkinds := hw.kinds
  rw [ecs]
  have hpar := fun h6 => kind_parts hk h6
  have hwp : ∀ q ∈ r.parts, rightC q = true := fun q hqm => (hw.part hqm).right
  -- the blocks
  have b0 := Blk.new w 28 #[.int .i64 k, .int .i64 m, .string a, .slice p r.parts.length c]
  have B0 := (Below.refl w.heap.size w).alloc (Nat.le_refl _) (.cells #[.int .i64 k, .int .i64 m, .string a, .slice p r.parts.length c] 28)
  obtain ⟨w0, e0⟩ : ∃ w0, w.alloc (.cells #[.int .i64 k, .int .i64 m, .string a, .slice p r.parts.length c] 28) = w0 := ⟨_, rfl⟩
  rw [e0] at b0 B0
  have r1 := Blk.new w0 33 #[.int .i64 0, .int .i64 0, .string ⟨#[]⟩]
  have b1 := b0.alloc (.cells #[.int .i64 0, .int .i64 0, .string ⟨#[]⟩] 33)
  have B1 := B0.alloc B0.size (.cells #[.int .i64 0, .int .i64 0, .string ⟨#[]⟩] 33)
  have hgw : w.heap.size ≤ w0.heap.size := B0.size
  obtain ⟨w1, e1⟩ : ∃ w1, w0.alloc (.cells #[.int .i64 0, .int .i64 0, .string ⟨#[]⟩] 33) = w1 := ⟨_, rfl⟩
  obtain ⟨gr, hgr⟩ : ∃ gr, w0.heap.size = gr := ⟨_, rfl⟩
  rw [e1] at r1 b1 B1
  rw [hgr] at r1 hgw
  have bc := b1.cell
  have rc := r1.cell
  have rf := r1.frozen
  have hr1 := Lib.hid r1
  have hb1 := Lib.hid b1
  have hB1 := Lib.hid B1
  have hM1 := hM.later B1
  have hrow1 := hrow.below B1
  have hp1 : ∀ (i : Nat) (q : CT), r.parts[i]? = some q → CV w1 ((ds.drop (i * 4)).take 4) q := fun i q hi => (hp i q hi).later B1
  obtain ⟨O, hO⟩ : ∃ O, valueC B r = O := ⟨_, rfl⟩
  rw [hO]
  rw [valueC_eq, hkk, hss, hnn] at hO
  clear hR hM hrow hp hq ecs hs hw hk b0 B0 b1 r1 B1 hnn hlen
  by_cases k1 : k = 1 ∨ k = 2
  · rw [show stepV B k m a.data.toList (r.parts.map (valueC B)) = some (flagV (decide (k = 1))) from by unfold stepV; rw [if_pos k1]] at hO
    rcases k1 with rfl | rfl
    · have hOn : Hid (O = some (flagV true)) := Lib.hid hO.symm
      clear hkinds hrow1 hp1 hrec hpar hwp hM1 hO hkk hss
      obtain ⟨fn, hfn⟩ : ∃ fn, (flagV true).n = fn := ⟨_, rfl⟩
      have F0 := flag_calls' true w1
      have hfe := Lib.hid (flagV_of true fn hfn)
      rw [hfn] at F0
      have F1 := Lib.hid F0
      clear F0 hfn
      go_enter Tryz.func17, Tryz.ntmps17
      go_wp2_with fail
      refine F1.out.mono ?_
      rintro e w2 ⟨rfl, hb2⟩
      have hB2 := hB1.out.trans (hb2.mono hB1.out.size)
      have hr2 := hr1.out.below hb2 hr1.out.lt
      have rc9 := (hr2).cell
      have rf9 := (hr2).frozen
      have F9 := (hr2).set3 (.int .i64 1) (.int .i64 fn) (.string ⟨#[]⟩)
      have FB := Lib.hid (below_set3 (hB2) hgw (.int .i64 1) (.int .i64 fn) (.string ⟨#[]⟩))
      have Fc := F9.cell
      clear F9
      clear hB2 hr2 hb2 rc rf
      go_wp2_with fail
      refine bodyPost_ret (v := .tuple #[.agg #[.int .i64 1, .int .i64 fn, .string ⟨#[]⟩], .bool true]) (by simp [results, Tryz.results17, go_sem, Fc]) rfl ?_
      exact ⟨1, fn, ⟨#[]⟩, true, rfl, FB.out, by rw [hOn.out]; exact ⟨rfl, hfe.out⟩⟩
    · have hOn : Hid (O = some (flagV false)) := Lib.hid hO.symm
      clear hkinds hrow1 hp1 hrec hpar hwp hM1 hO hkk hss
      obtain ⟨fn, hfn⟩ : ∃ fn, (flagV false).n = fn := ⟨_, rfl⟩
      have F0 := flag_calls' false w1
      have hfe := Lib.hid (flagV_of false fn hfn)
      rw [hfn] at F0
      have F1 := Lib.hid F0
      clear F0 hfn
      go_enter Tryz.func17, Tryz.ntmps17
      go_wp2_with fail
      refine F1.out.mono ?_
      rintro e w2 ⟨rfl, hb2⟩
      have hB2 := hB1.out.trans (hb2.mono hB1.out.size)
      have hr2 := hr1.out.below hb2 hr1.out.lt
      have rc9 := (hr2).cell
      have rf9 := (hr2).frozen
      have F9 := (hr2).set3 (.int .i64 1) (.int .i64 fn) (.string ⟨#[]⟩)
      have FB := Lib.hid (below_set3 (hB2) hgw (.int .i64 1) (.int .i64 fn) (.string ⟨#[]⟩))
      have Fc := F9.cell
      clear F9
      clear hB2 hr2 hb2 rc rf
      go_wp2_with fail
      refine bodyPost_ret (v := .tuple #[.agg #[.int .i64 1, .int .i64 fn, .string ⟨#[]⟩], .bool true]) (by simp [results, Tryz.results17, go_sem, Fc]) rfl ?_
      exact ⟨1, fn, ⟨#[]⟩, true, rfl, FB.out, by rw [hOn.out]; exact ⟨rfl, hfe.out⟩⟩
  by_cases k3 : k = 3
  · subst k3
    have hOn : Hid (O = some ⟨2, m, []⟩) := Lib.hid hO.symm
    clear hkinds hrow1 hp1 hrec hpar hwp hM1 hO hkk hss
    go_enter Tryz.func17, Tryz.ntmps17
    have rc9 := (hr1.out).cell
    have rf9 := (hr1.out).frozen
    have F9 := (hr1.out).set3 (.int .i64 2) (.int .i64 m) (.string ⟨#[]⟩)
    have FB := Lib.hid (below_set3 (hB1.out) hgw (.int .i64 2) (.int .i64 m) (.string ⟨#[]⟩))
    have Fc := F9.cell
    clear F9
    clear rc9 rf9
    go_wp2_with fail
    refine bodyPost_ret (v := .tuple #[.agg #[.int .i64 2, .int .i64 m, .string ⟨#[]⟩], .bool true]) (by simp [results, Tryz.results17, go_sem, Fc]) rfl ?_
    exact ⟨2, m, ⟨#[]⟩, true, rfl, FB.out, by rw [hOn.out]; exact ⟨rfl, rfl⟩⟩
  by_cases k4 : k = 4
  · subst k4
    have hOn : Hid (O = some ⟨3, 0, a.data.toList⟩) := Lib.hid hO.symm
    clear hkinds hrow1 hp1 hrec hpar hwp hM1 hO hkk hss
    go_enter Tryz.func17, Tryz.ntmps17
    have rc9 := (hr1.out).cell
    have rf9 := (hr1.out).frozen
    have F9 := (hr1.out).set3 (.int .i64 3) (.int .i64 0) (.string a)
    have FB := Lib.hid (below_set3 (hB1.out) hgw (.int .i64 3) (.int .i64 0) (.string a))
    have Fc := F9.cell
    clear F9
    clear rc9 rf9
    go_wp2_with fail
    refine bodyPost_ret (v := .tuple #[.agg #[.int .i64 3, .int .i64 0, .string a], .bool true]) (by simp [results, Tryz.results17, go_sem, Fc]) rfl ?_
    exact ⟨3, 0, a, true, rfl, FB.out, by rw [hOn.out]; exact ⟨rfl, rfl⟩⟩
  by_cases k5 : k = 5
  · subst k5
    have hOn : Hid (O = some (B a.data.toList)) := Lib.hid hO.symm
    have hl := hM1.look ha
    obtain ⟨V, hV⟩ : ∃ V, B a.data.toList = V := ⟨_, rfl⟩
    rw [hV] at hl hOn
    obtain ⟨vk, vn, vs⟩ := V
    have hl2 : (Instr.lookup 55 (.map (some b)) (.string a) false).run Tryz.prog w1 = .ok (.agg #[.int .i64 vk, .int .i64 vn, .string ⟨vs.toArray⟩]) w1 := hl
    obtain ⟨vb, hvb⟩ : ∃ vb : ByteArray, ⟨vs.toArray⟩ = vb := ⟨_, rfl⟩
    rw [hvb] at hl2
    have hvs : Hid (vs = vb.data.toList) := Lib.hid (by rw [← hvb])
    clear hl hV hvb
    clear hkinds hrow1 hp1 hrec hpar hwp hM1 hO hkk hss
    go_enter Tryz.func17, Tryz.ntmps17
    have rc9 := (hr1.out).cell
    have rf9 := (hr1.out).frozen
    have F9 := (hr1.out).set3 (.int .i64 vk) (.int .i64 vn) (.string vb)
    have FB := Lib.hid (below_set3 (hB1.out) hgw (.int .i64 vk) (.int .i64 vn) (.string vb))
    have Fc := F9.cell
    clear F9
    clear rc9 rf9
    go_wp2_with fail
    refine bodyPost_ret (v := .tuple #[.agg #[.int .i64 vk, .int .i64 vn, .string vb], .bool true]) (by simp [results, Tryz.results17, go_sem, Fc]) rfl ?_
    exact ⟨vk, vn, vb, true, rfl, FB.out, by rw [hOn.out, hvs.out]; exact ⟨rfl, rfl⟩⟩
  have hk6 : 6 ≤ k := by rcases hkinds with h | h | h | h <;> omega
  have hpar6 := hpar (by omega)
  by_cases k7 : k = 7
  · subst k7
    have hOn : firstV false (r.parts.map (valueC B)) = O := hO
    have D0 := first_calls B r.parts hrec (.slice p r.parts.length c) ds w1 b hrow1 hp1 hM1 false
    rw [hOn] at D0
    have D := Lib.hid D0
    clear D0 hOn hpar6
    clear hkinds hrow1 hp1 hrec hpar hwp hM1 hO hkk hss
    go_enter Tryz.func17, Tryz.ntmps17
    go_wp2_with fail
    refine D.out.mono ?_
    rintro e w2 ⟨vk, vn, vs, ok, rfl, hb2, hV⟩
    have hB2 := hB1.out.trans (hb2.mono hB1.out.size)
    have hr2 := hr1.out.below hb2 hr1.out.lt
    have hV' := Lib.hid hV
    have rc9 := (hr2).cell
    have rf9 := (hr2).frozen
    have F9 := (hr2).set3 (.int .i64 vk) (.int .i64 vn) (.string vs)
    have FB := Lib.hid (below_set3 (hB2) hgw (.int .i64 vk) (.int .i64 vn) (.string vs))
    have Fc := F9.cell
    clear F9
    clear hB2 hr2 hb2 hV D rc rf
    go_wp2_with fail
    refine bodyPost_ret (v := .tuple #[.agg #[.int .i64 vk, .int .i64 vn, .string vs], .bool ok]) (by simp [results, Tryz.results17, go_sem, Fc]) rfl ?_
    exact ⟨vk, vn, vs, ok, rfl, FB.out, hV'.out⟩
  by_cases k8 : k = 8
  · subst k8
    have hOn : firstV true (r.parts.map (valueC B)) = O := hO
    have D0 := first_calls B r.parts hrec (.slice p r.parts.length c) ds w1 b hrow1 hp1 hM1 true
    rw [hOn] at D0
    have D := Lib.hid D0
    clear D0 hOn hpar6
    clear hkinds hrow1 hp1 hrec hpar hwp hM1 hO hkk hss
    go_enter Tryz.func17, Tryz.ntmps17
    go_wp2_with fail
    refine D.out.mono ?_
    rintro e w2 ⟨vk, vn, vs, ok, rfl, hb2, hV⟩
    have hB2 := hB1.out.trans (hb2.mono hB1.out.size)
    have hr2 := hr1.out.below hb2 hr1.out.lt
    have hV' := Lib.hid hV
    have rc9 := (hr2).cell
    have rf9 := (hr2).frozen
    have F9 := (hr2).set3 (.int .i64 vk) (.int .i64 vn) (.string vs)
    have FB := Lib.hid (below_set3 (hB2) hgw (.int .i64 vk) (.int .i64 vn) (.string vs))
    have Fc := F9.cell
    clear F9
    clear hB2 hr2 hb2 hV D rc rf
    go_wp2_with fail
    refine bodyPost_ret (v := .tuple #[.agg #[.int .i64 vk, .int .i64 vn, .string vs], .bool ok]) (by simp [results, Tryz.results17, go_sem, Fc]) rfl ?_
    exact ⟨vk, vn, vs, ok, rfl, FB.out, hV'.out⟩
  obtain ⟨p0, ps, hps⟩ : ∃ p0 ps, r.parts = p0 :: ps := by
    cases h : r.parts with
    | nil => rcases hkinds with h2 | h2 | h2 | h2 <;> (rw [h] at h2; simp at h2; try omega)
    | cons x l => exact ⟨x, l, rfl⟩
  have hpl : r.parts.length = ps.length + 1 := by rw [hps]; rfl
  by_cases k15 : k = 15
  · subst k15
    have h2 : 1 ≤ ps.length := by
      rcases hkinds with h | h | h | h <;> omega
    have hOn : amongV (r.parts.map (valueC B)) = O := hO
    have D0 : Calls Tryz.prog 35 #[.map (some b), .slice p r.parts.length c] w1 (ValPost (amongV (r.parts.map (valueC B))) w1) := by
      rw [hps] at hrec hrow1 hp1 ⊢
      exact among_calls B p0 ps h2 hrec (.slice p (p0 :: ps).length c) ds w1 b hrow1 hp1 hM1
    rw [hOn] at D0
    have D := Lib.hid D0
    clear D0 hOn hpar6 hps hpl h2
    clear hkinds hrow1 hp1 hrec hpar hwp hM1 hO hkk hss
    go_enter Tryz.func17, Tryz.ntmps17
    go_wp2_with fail
    refine D.out.mono ?_
    rintro e w2 ⟨vk, vn, vs, ok, rfl, hb2, hV⟩
    have hB2 := hB1.out.trans (hb2.mono hB1.out.size)
    have hr2 := hr1.out.below hb2 hr1.out.lt
    have hV' := Lib.hid hV
    have rc9 := (hr2).cell
    have rf9 := (hr2).frozen
    have F9 := (hr2).set3 (.int .i64 vk) (.int .i64 vn) (.string vs)
    have FB := Lib.hid (below_set3 (hB2) hgw (.int .i64 vk) (.int .i64 vn) (.string vs))
    have Fc := F9.cell
    clear F9
    clear hB2 hr2 hb2 hV D rc rf
    go_wp2_with fail
    refine bodyPost_ret (v := .tuple #[.agg #[.int .i64 vk, .int .i64 vn, .string vs], .bool ok]) (by simp [results, Tryz.results17, go_sem, Fc]) rfl ?_
    exact ⟨vk, vn, vs, ok, rfl, FB.out, hV'.out⟩
  have hrow0 := hrow1
  obtain ⟨g4, o, rfl, hc1, hcell⟩ := hrow1.cell (by omega)
  obtain ⟨kx, mx, ax, px, cx, Rx, -, lx, x0, x1, x2, x3⟩ := CV.part (i := 0) hcell (show r.parts[0]? = some p0 by rw [hps]; rfl) (hp1 0 p0 (by rw [hps]; rfl))
  rw [Nat.zero_mul, Nat.add_zero] at x0 x1 x2 x3
  have hL1 : (0 : Int) < (r.parts.length : Int) := by omega
  have D1 := Lib.hid (hrec p0 (by rw [hps]; exact List.mem_cons_self) _ w1 b Rx hM1)
  by_cases k6 : k = 6
  · subst k6
    have hps1 : ps = [] := by
      have : ps.length = 0 := by rcases hkinds with h | h | h | h <;> omega
      exact List.eq_nil_of_length_eq_zero this
    have hOn : Hid ((match valueC B p0 with | some v => some (flagV (decide (v.n = 0))) | none => none) = O) := Lib.hid (by
      rw [← hO, hps, hps1]
      show _ = (match [valueC B p0] with | some v :: _ => some (flagV (decide (v.n = 0))) | _ => none)
      cases valueC B p0 <;> rfl)
    generalize valueC B p0 = V0 at *
    have FF := Lib.hid (fun (t : Bool) W => flag_calls' t W)
    generalize r.parts.length = L at *
    clear hps hpl hps1 hpar6 hrow0 Rx hcell
    clear hkinds hp1 hrec hpar hwp hM1 hO hkk hss
    go_enter Tryz.func17, Tryz.ntmps17
    go_wp2_with fail
    refine D1.out.mono ?_
    rintro e w2 ⟨vk, vn, vs, ok, rfl, hb2, hV⟩
    have hB2 := hB1.out.trans (hb2.mono hB1.out.size)
    have hr2 := hr1.out.below hb2 hr1.out.lt
    have g3 := Blk.new w2 33 #[.int .i64 vk, .int .i64 vn, .string vs]
    have hB3 := hB2.alloc hB2.size (.cells #[.int .i64 vk, .int .i64 vn, .string vs] 33)
    have hr3 := hr2.alloc (.cells #[.int .i64 vk, .int .i64 vn, .string vs] 33)
    obtain ⟨w3, e3⟩ : ∃ w3, w2.alloc (.cells #[.int .i64 vk, .int .i64 vn, .string vs] 33) = w3 := ⟨_, rfl⟩
    rw [e3] at g3 hB3 hr3
    have gc := g3.cell
    obtain ⟨t, ht⟩ : ∃ t, (vn == 0) = t := ⟨_, rfl⟩
    have ht2 : decide (vn = 0) = t := ht
    have F0 := FF.out t w3
    obtain ⟨fn, hfn⟩ : ∃ fn, (flagV t).n = fn := ⟨_, rfl⟩
    have hfe := Lib.hid (flagV_of t fn hfn)
    rw [hfn] at F0
    have F1 := Lib.hid F0
    have hB3' := Lib.hid hB3
    have hr3' := Lib.hid hr3
    have hV' := Lib.hid hV
    have ht' := Lib.hid ht2
    clear F0 hfn hB2 hr2 g3 hB3 hr3 hb2 hV D1 FF ht2 x0 x1 x2 x3 rc rf
    go_wp2_with fail
    refine F1.out.mono ?_
    rintro e w4 ⟨rfl, hb4⟩
    have hB4 := hB3'.out.trans (hb4.mono hB3'.out.size)
    have hr4 := hr3'.out.below hb4 hr3'.out.lt
    have rc9 := (hr4).cell
    have rf9 := (hr4).frozen
    have F9 := (hr4).set3 (.int .i64 1) (.int .i64 fn) (.string ⟨#[]⟩)
    have FB := Lib.hid (below_set3 (hB4) hgw (.int .i64 1) (.int .i64 fn) (.string ⟨#[]⟩))
    have Fc := F9.cell
    clear F9
    clear hB4 hr4 hb4 gc
    go_wp2_with fail
    refine bodyPost_ret (v := .tuple #[.agg #[.int .i64 1, .int .i64 fn, .string ⟨#[]⟩], .bool ok]) (by simp [results, Tryz.results17, go_sem, Fc]) rfl ?_
    exact ⟨1, fn, ⟨#[]⟩, ok, rfl, FB.out, by
      rw [← hOn.out]
      cases V0 with
      | none => exact hV'.out
      | some u =>
        obtain ⟨h1, h2⟩ := hV'.out
        refine ⟨h1, ?_⟩
        rw [h2]
        show flagV (decide (vn = 0)) = _
        rw [ht'.out]; exact hfe.out⟩
  obtain ⟨p1, hps1⟩ : ∃ p1, ps = [p1] := by
    have : ps.length = 1 := by rcases hkinds with h | h | h | h <;> omega
    match ps, this with
    | [x], _ => exact ⟨x, rfl⟩
  rw [hps1] at hps
  have hkp : k = 9 ∨ k = 10 ∨ k = 11 ∨ k = 12 ∨ k = 13 ∨ k = 14 := by rcases hkinds with h | h | h | h <;> omega
  obtain ⟨ky, my, ay, py, cy, Ry, -, ly, y0, y1, y2, y3⟩ := CV.part (i := 1) hcell (show r.parts[1]? = some p1 by rw [hps]; rfl) (hp1 1 p1 (by rw [hps]; rfl))
  rw [Nat.one_mul] at y0 y1 y2 y3
  have hL2 : (1 : Int) < (r.parts.length : Int) := by rw [hps]; simp
  have hOn : Hid (pairV k [valueC B p0, valueC B p1] = O) := Lib.hid (by
    rw [← hO, hps]
    unfold stepV
    rw [if_neg k1, if_neg k3, if_neg k4, if_neg k5, if_neg k7, if_neg k8, if_neg k15, if_neg k6]; rfl)
  have hok0 : Hid (∀ u, valueC B p0 = some u → OkV (kindC (kindOf pa) p0) u) := Lib.hid fun u hu => value_ok hG p0 (hwp p0 (by rw [hps]; simp)) (hpar6 p0 (by rw [hps]; simp)).1 hu
  have hok1 : Hid (∀ u, valueC B p1 = some u → OkV (kindC (kindOf pa) p1) u) := Lib.hid fun u hu => value_ok hG p1 (hwp p1 (by rw [hps]; simp)) (hpar6 p1 (by rw [hps]; simp)).1 hu
  have D2 := Lib.hid (fun W (h : Below w1.heap.size w1 W) => hrec p1 (by rw [hps]; simp) _ W b (Ry.later h) (hM1.later h))
  generalize valueC B p0 = V0 at *
  generalize valueC B p1 = V1 at *
  have hcy : Hid (∀ W, Below w1.heap.size w1 W → W.cell? ⟨g4, o + 4, none⟩ = some (.int .i64 ky) ∧ W.cell? ⟨g4, o + 4 + 1, none⟩ = some (.int .i64 my) ∧ W.cell? ⟨g4, o + 4 + 2, none⟩ = some (.string ay) ∧ W.cell? ⟨g4, o + 4 + 3, none⟩ = some (.slice py p1.parts.length cy)) := Lib.hid fun W h =>
    ⟨by rw [h.cell (p := ⟨g4, o + 4, none⟩) ly]; exact y0, by rw [h.cell (p := ⟨g4, o + 4 + 1, none⟩) ly]; exact y1, by rw [h.cell (p := ⟨g4, o + 4 + 2, none⟩) ly]; exact y2, by rw [h.cell (p := ⟨g4, o + 4 + 3, none⟩) ly]; exact y3⟩
  have FF := Lib.hid (fun (t : Bool) W => flag_calls' t W)
  generalize r.parts.length = L at *
  clear hps hpl hps1 hpar6 hrow0 Rx Ry hcell y0 y1 y2 y3 hkk hss hwp hpar hM1 hO hp1 hrec k1 k3 k4 k5 k6 k7 k8 k15 hk6 hkinds
  rcases hkp with rfl | rfl | rfl | rfl | rfl | rfl
  · go_enter Tryz.func17, Tryz.ntmps17
    go_wp2_with fail
    refine D1.out.mono ?_
    rintro e w2 ⟨xk, xn, xs, ok, rfl, hb2, hV⟩
    have hB2 := hB1.out.trans (hb2.mono hB1.out.size)
    have hr2 := hr1.out.below hb2 hr1.out.lt
    have hx2 := hb1.out.below hb2 hb1.out.lt
    have g3 := Blk.new w2 33 #[.int .i64 xk, .int .i64 xn, .string xs]
    have hB3 := hB2.alloc hB2.size (.cells #[.int .i64 xk, .int .i64 xn, .string xs] 33)
    have hr3 := hr2.alloc (.cells #[.int .i64 xk, .int .i64 xn, .string xs] 33)
    have hx3 := hx2.alloc (.cells #[.int .i64 xk, .int .i64 xn, .string xs] 33)
    have hf3 := hb2.alloc hb2.size (.cells #[.int .i64 xk, .int .i64 xn, .string xs] 33)
    obtain ⟨w3, e3⟩ : ∃ w3, w2.alloc (.cells #[.int .i64 xk, .int .i64 xn, .string xs] 33) = w3 := ⟨_, rfl⟩
    obtain ⟨gx, hgx⟩ : ∃ gx, w2.heap.size = gx := ⟨_, rfl⟩
    rw [e3] at g3 hB3 hr3 hx3 hf3
    rw [hgx] at g3
    have gc := g3.cell
    have xc3 := hx3.cell
    obtain ⟨y0, y1, y2, y3⟩ := hcy.out w3 hf3
    have D3 := Lib.hid (D2.out w3 hf3)
    have hV' := Lib.hid hV
    have hB3' := Lib.hid hB3
    have hr3' := Lib.hid hr3
    have hx3' := Lib.hid hx3
    have g3' := Lib.hid g3
    have rc3 := hr3.cell
    have rf3 := hr3.frozen
    clear hB2 hr2 hx2 g3 hB3 hr3 hx3 hf3 hb2 hV D1 D2 hcy x0 x1 x2 x3 rc rf bc
    cases ok
    · have hN : Hid (O = none) := Lib.hid (by
        rw [← hOn.out]
        cases V0 with
        | none => rfl
        | some u => exact absurd hV'.out.1 (by simp))
      have rc9 := (hr3'.out).cell
      have rf9 := (hr3'.out).frozen
      have F9 := (hr3'.out).set3 (.int .i64 xk) (.int .i64 xn) (.string xs)
      have FB := Lib.hid (below_set3 (hB3'.out) hgw (.int .i64 xk) (.int .i64 xn) (.string xs))
      have Fc := F9.cell
      clear F9
      clear rc9 rf9
      go_wp2_with fail
      refine bodyPost_ret (v := .tuple #[.agg #[.int .i64 xk, .int .i64 xn, .string xs], .bool false]) (by simp [results, Tryz.results17, go_sem, Fc]) rfl ?_
      exact ⟨xk, xn, xs, false, rfl, FB.out, by rw [hN.out]⟩
    obtain ⟨u0, hu0⟩ : ∃ u, V0 = some u := by
      cases V0 with
      | none => exact absurd hV'.out (by simp)
      | some u => exact ⟨u, rfl⟩
    subst hu0
    have hu0 : Hid (u0 = ⟨xk, xn, xs.data.toList⟩) := Lib.hid hV'.out.2
    have ok0 := Lib.hid (hok0.out u0 rfl)
    clear hV' hok0
    go_wp2_with fail
    refine D3.out.mono ?_
    rintro e w4 ⟨yk, yn, ys, ok, rfl, hb4, hV⟩
    have hB4 := hB3'.out.trans (hb4.mono hB3'.out.size)
    have hr4 := hr3'.out.below hb4 hr3'.out.lt
    have hx4 := hx3'.out.below hb4 hx3'.out.lt
    have g4' := g3'.out.below hb4 g3'.out.lt
    have g5 := Blk.new w4 33 #[.int .i64 yk, .int .i64 yn, .string ys]
    have hB5 := hB4.alloc hB4.size (.cells #[.int .i64 yk, .int .i64 yn, .string ys] 33)
    have hr5 := hr4.alloc (.cells #[.int .i64 yk, .int .i64 yn, .string ys] 33)
    have hx5 := hx4.alloc (.cells #[.int .i64 yk, .int .i64 yn, .string ys] 33)
    have h35 := g4'.alloc (.cells #[.int .i64 yk, .int .i64 yn, .string ys] 33)
    obtain ⟨w5, e5⟩ : ∃ w5, w4.alloc (.cells #[.int .i64 yk, .int .i64 yn, .string ys] 33) = w5 := ⟨_, rfl⟩
    obtain ⟨gy, hgy⟩ : ∃ gy, w4.heap.size = gy := ⟨_, rfl⟩
    rw [e5] at g5 hB5 hr5 hx5 h35
    rw [hgy] at g5
    have gy5 := g5.cell
    have gx5 := h35.cell
    have xc5 := hx5.cell
    have hV' := Lib.hid hV
    have hB5' := Lib.hid hB5
    have hr5' := Lib.hid hr5
    have rc5 := hr5.cell
    have rf5 := hr5.frozen
    clear hB4 hr4 hx4 g4' g5 hB5 hr5 hx5 h35 hb4 hV D3 gc xc3 y0 y1 y2 y3 rc3 rf3
    cases ok
    · have hN : Hid (O = none) := Lib.hid (by
        rw [← hOn.out]
        cases V1 with
        | none => rfl
        | some u => exact absurd hV'.out.1 (by simp))
      have rc9 := (hr5'.out).cell
      have rf9 := (hr5'.out).frozen
      have F9 := (hr5'.out).set3 (.int .i64 yk) (.int .i64 yn) (.string ys)
      have FB := Lib.hid (below_set3 (hB5'.out) hgw (.int .i64 yk) (.int .i64 yn) (.string ys))
      have Fc := F9.cell
      clear F9
      clear rc9 rf9
      go_wp2_with fail
      refine bodyPost_ret (v := .tuple #[.agg #[.int .i64 yk, .int .i64 yn, .string ys], .bool false]) (by simp [results, Tryz.results17, go_sem, Fc]) rfl ?_
      exact ⟨yk, yn, ys, false, rfl, FB.out, by rw [hN.out]⟩
    obtain ⟨u1, hu1⟩ : ∃ u, V1 = some u := by
      cases V1 with
      | none => exact absurd hV'.out (by simp)
      | some u => exact ⟨u, rfl⟩
    subst hu1
    have hu1 : Hid (u1 = ⟨yk, yn, ys.data.toList⟩) := Lib.hid hV'.out.2
    have ok1 := Lib.hid (hok1.out u1 rfl)
    clear hV' hok1
    have ht' : Hid (O = some (flagV (sameV xk xn xs yk yn ys))) := Lib.hid (by
      rw [← hOn.out, sameV_eq, ← hu0.out, ← hu1.out]; rfl)
    obtain ⟨t, htt⟩ : ∃ t, sameV xk xn xs yk yn ys = t := ⟨_, rfl⟩
    rw [htt] at ht'
    obtain ⟨fn, hfn⟩ : ∃ fn, (flagV t).n = fn := ⟨_, rfl⟩
    have hfe := Lib.hid (flagV_of t fn hfn)
    have F0 := FF.out t w5
    rw [hfn] at F0
    have F1 := Lib.hid F0
    clear F0 hfn FF hOn
    go_wp2_with fail
    refine F1.out.mono ?_
    rintro e w6 ⟨rfl, hb6⟩
    have hB6 := hB5'.out.trans (hb6.mono hB5'.out.size)
    have hr6 := hr5'.out.below hb6 hr5'.out.lt
    have rc9 := (hr6).cell
    have rf9 := (hr6).frozen
    have F9 := (hr6).set3 (.int .i64 1) (.int .i64 fn) (.string ⟨#[]⟩)
    have FB := Lib.hid (below_set3 (hB6) hgw (.int .i64 1) (.int .i64 fn) (.string ⟨#[]⟩))
    have Fc := F9.cell
    clear F9
    clear hB6 hr6 hb6 rc5 rf5
    go_wp2_with fail
    refine bodyPost_ret (v := .tuple #[.agg #[.int .i64 1, .int .i64 fn, .string ⟨#[]⟩], .bool true]) (by simp [results, Tryz.results17, go_sem, Fc]) rfl ?_
    exact ⟨1, fn, ⟨#[]⟩, true, rfl, FB.out, by rw [ht'.out]; exact ⟨rfl, hfe.out⟩⟩
  · go_enter Tryz.func17, Tryz.ntmps17
    go_wp2_with fail
    refine D1.out.mono ?_
    rintro e w2 ⟨xk, xn, xs, ok, rfl, hb2, hV⟩
    have hB2 := hB1.out.trans (hb2.mono hB1.out.size)
    have hr2 := hr1.out.below hb2 hr1.out.lt
    have hx2 := hb1.out.below hb2 hb1.out.lt
    have g3 := Blk.new w2 33 #[.int .i64 xk, .int .i64 xn, .string xs]
    have hB3 := hB2.alloc hB2.size (.cells #[.int .i64 xk, .int .i64 xn, .string xs] 33)
    have hr3 := hr2.alloc (.cells #[.int .i64 xk, .int .i64 xn, .string xs] 33)
    have hx3 := hx2.alloc (.cells #[.int .i64 xk, .int .i64 xn, .string xs] 33)
    have hf3 := hb2.alloc hb2.size (.cells #[.int .i64 xk, .int .i64 xn, .string xs] 33)
    obtain ⟨w3, e3⟩ : ∃ w3, w2.alloc (.cells #[.int .i64 xk, .int .i64 xn, .string xs] 33) = w3 := ⟨_, rfl⟩
    obtain ⟨gx, hgx⟩ : ∃ gx, w2.heap.size = gx := ⟨_, rfl⟩
    rw [e3] at g3 hB3 hr3 hx3 hf3
    rw [hgx] at g3
    have gc := g3.cell
    have xc3 := hx3.cell
    obtain ⟨y0, y1, y2, y3⟩ := hcy.out w3 hf3
    have D3 := Lib.hid (D2.out w3 hf3)
    have hV' := Lib.hid hV
    have hB3' := Lib.hid hB3
    have hr3' := Lib.hid hr3
    have hx3' := Lib.hid hx3
    have g3' := Lib.hid g3
    have rc3 := hr3.cell
    have rf3 := hr3.frozen
    clear hB2 hr2 hx2 g3 hB3 hr3 hx3 hf3 hb2 hV D1 D2 hcy x0 x1 x2 x3 rc rf bc
    cases ok
    · have hN : Hid (O = none) := Lib.hid (by
        rw [← hOn.out]
        cases V0 with
        | none => rfl
        | some u => exact absurd hV'.out.1 (by simp))
      have rc9 := (hr3'.out).cell
      have rf9 := (hr3'.out).frozen
      have F9 := (hr3'.out).set3 (.int .i64 xk) (.int .i64 xn) (.string xs)
      have FB := Lib.hid (below_set3 (hB3'.out) hgw (.int .i64 xk) (.int .i64 xn) (.string xs))
      have Fc := F9.cell
      clear F9
      clear rc9 rf9
      go_wp2_with fail
      refine bodyPost_ret (v := .tuple #[.agg #[.int .i64 xk, .int .i64 xn, .string xs], .bool false]) (by simp [results, Tryz.results17, go_sem, Fc]) rfl ?_
      exact ⟨xk, xn, xs, false, rfl, FB.out, by rw [hN.out]⟩
    obtain ⟨u0, hu0⟩ : ∃ u, V0 = some u := by
      cases V0 with
      | none => exact absurd hV'.out (by simp)
      | some u => exact ⟨u, rfl⟩
    subst hu0
    have hu0 : Hid (u0 = ⟨xk, xn, xs.data.toList⟩) := Lib.hid hV'.out.2
    have ok0 := Lib.hid (hok0.out u0 rfl)
    clear hV' hok0
    go_wp2_with fail
    refine D3.out.mono ?_
    rintro e w4 ⟨yk, yn, ys, ok, rfl, hb4, hV⟩
    have hB4 := hB3'.out.trans (hb4.mono hB3'.out.size)
    have hr4 := hr3'.out.below hb4 hr3'.out.lt
    have hx4 := hx3'.out.below hb4 hx3'.out.lt
    have g4' := g3'.out.below hb4 g3'.out.lt
    have g5 := Blk.new w4 33 #[.int .i64 yk, .int .i64 yn, .string ys]
    have hB5 := hB4.alloc hB4.size (.cells #[.int .i64 yk, .int .i64 yn, .string ys] 33)
    have hr5 := hr4.alloc (.cells #[.int .i64 yk, .int .i64 yn, .string ys] 33)
    have hx5 := hx4.alloc (.cells #[.int .i64 yk, .int .i64 yn, .string ys] 33)
    have h35 := g4'.alloc (.cells #[.int .i64 yk, .int .i64 yn, .string ys] 33)
    obtain ⟨w5, e5⟩ : ∃ w5, w4.alloc (.cells #[.int .i64 yk, .int .i64 yn, .string ys] 33) = w5 := ⟨_, rfl⟩
    obtain ⟨gy, hgy⟩ : ∃ gy, w4.heap.size = gy := ⟨_, rfl⟩
    rw [e5] at g5 hB5 hr5 hx5 h35
    rw [hgy] at g5
    have gy5 := g5.cell
    have gx5 := h35.cell
    have xc5 := hx5.cell
    have hV' := Lib.hid hV
    have hB5' := Lib.hid hB5
    have hr5' := Lib.hid hr5
    have rc5 := hr5.cell
    have rf5 := hr5.frozen
    clear hB4 hr4 hx4 g4' g5 hB5 hr5 hx5 h35 hb4 hV D3 gc xc3 y0 y1 y2 y3 rc3 rf3
    cases ok
    · have hN : Hid (O = none) := Lib.hid (by
        rw [← hOn.out]
        cases V1 with
        | none => rfl
        | some u => exact absurd hV'.out.1 (by simp))
      have rc9 := (hr5'.out).cell
      have rf9 := (hr5'.out).frozen
      have F9 := (hr5'.out).set3 (.int .i64 yk) (.int .i64 yn) (.string ys)
      have FB := Lib.hid (below_set3 (hB5'.out) hgw (.int .i64 yk) (.int .i64 yn) (.string ys))
      have Fc := F9.cell
      clear F9
      clear rc9 rf9
      go_wp2_with fail
      refine bodyPost_ret (v := .tuple #[.agg #[.int .i64 yk, .int .i64 yn, .string ys], .bool false]) (by simp [results, Tryz.results17, go_sem, Fc]) rfl ?_
      exact ⟨yk, yn, ys, false, rfl, FB.out, by rw [hN.out]⟩
    obtain ⟨u1, hu1⟩ : ∃ u, V1 = some u := by
      cases V1 with
      | none => exact absurd hV'.out (by simp)
      | some u => exact ⟨u, rfl⟩
    subst hu1
    have hu1 : Hid (u1 = ⟨yk, yn, ys.data.toList⟩) := Lib.hid hV'.out.2
    have ok1 := Lib.hid (hok1.out u1 rfl)
    clear hV' hok1
    have ht' : Hid (O = some (flagV (decide (orderV u0 u1 < 0)))) := Lib.hid (by rw [← hOn.out]; rfl)
    rw [hu0.out, hu1.out] at ht'
    have OC := order_calls xk xn yk yn xs ys w5
    obtain ⟨X, hX⟩ : ∃ X, orderV ⟨xk, xn, xs.data.toList⟩ ⟨yk, yn, ys.data.toList⟩ = X := ⟨_, rfl⟩
    rw [hX] at OC ht'
    have OC' := Lib.hid OC
    obtain ⟨t, htt⟩ : ∃ t, decide (X < 0) = t := ⟨_, rfl⟩
    rw [htt] at ht'
    obtain ⟨fn, hfn⟩ : ∃ fn, (flagV t).n = fn := ⟨_, rfl⟩
    have hfe := Lib.hid (flagV_of t fn hfn)
    have F1 := Lib.hid (fun W => by have F0 := FF.out t W; rw [hfn] at F0; exact F0)
    clear hfn FF hOn OC hX
    go_wp2_with fail
    refine OC'.out.mono ?_
    rintro e w6 ⟨rfl, hb6⟩
    have hB6 := Lib.hid (hB5'.out.trans (hb6.mono hB5'.out.size))
    have hr6 := Lib.hid (hr5'.out.below hb6 hr5'.out.lt)
    clear hb6 OC' rc5 rf5
    go_wp2_with fail
    refine (F1.out w6).mono ?_
    rintro e w7 ⟨rfl, hb7⟩
    have hB7 := hB6.out.trans (hb7.mono hB6.out.size)
    have hr7 := hr6.out.below hb7 hr6.out.lt
    have rc9 := (hr7).cell
    have rf9 := (hr7).frozen
    have F9 := (hr7).set3 (.int .i64 1) (.int .i64 fn) (.string ⟨#[]⟩)
    have FB := Lib.hid (below_set3 (hB7) hgw (.int .i64 1) (.int .i64 fn) (.string ⟨#[]⟩))
    have Fc := F9.cell
    clear F9
    clear hB7 hr7 hb7
    go_wp2_with fail
    refine bodyPost_ret (v := .tuple #[.agg #[.int .i64 1, .int .i64 fn, .string ⟨#[]⟩], .bool true]) (by simp [results, Tryz.results17, go_sem, Fc]) rfl ?_
    exact ⟨1, fn, ⟨#[]⟩, true, rfl, FB.out, by rw [ht'.out]; exact ⟨rfl, hfe.out⟩⟩
  · go_enter Tryz.func17, Tryz.ntmps17
    go_wp2_with fail
    refine D1.out.mono ?_
    rintro e w2 ⟨xk, xn, xs, ok, rfl, hb2, hV⟩
    have hB2 := hB1.out.trans (hb2.mono hB1.out.size)
    have hr2 := hr1.out.below hb2 hr1.out.lt
    have hx2 := hb1.out.below hb2 hb1.out.lt
    have g3 := Blk.new w2 33 #[.int .i64 xk, .int .i64 xn, .string xs]
    have hB3 := hB2.alloc hB2.size (.cells #[.int .i64 xk, .int .i64 xn, .string xs] 33)
    have hr3 := hr2.alloc (.cells #[.int .i64 xk, .int .i64 xn, .string xs] 33)
    have hx3 := hx2.alloc (.cells #[.int .i64 xk, .int .i64 xn, .string xs] 33)
    have hf3 := hb2.alloc hb2.size (.cells #[.int .i64 xk, .int .i64 xn, .string xs] 33)
    obtain ⟨w3, e3⟩ : ∃ w3, w2.alloc (.cells #[.int .i64 xk, .int .i64 xn, .string xs] 33) = w3 := ⟨_, rfl⟩
    obtain ⟨gx, hgx⟩ : ∃ gx, w2.heap.size = gx := ⟨_, rfl⟩
    rw [e3] at g3 hB3 hr3 hx3 hf3
    rw [hgx] at g3
    have gc := g3.cell
    have xc3 := hx3.cell
    obtain ⟨y0, y1, y2, y3⟩ := hcy.out w3 hf3
    have D3 := Lib.hid (D2.out w3 hf3)
    have hV' := Lib.hid hV
    have hB3' := Lib.hid hB3
    have hr3' := Lib.hid hr3
    have hx3' := Lib.hid hx3
    have g3' := Lib.hid g3
    have rc3 := hr3.cell
    have rf3 := hr3.frozen
    clear hB2 hr2 hx2 g3 hB3 hr3 hx3 hf3 hb2 hV D1 D2 hcy x0 x1 x2 x3 rc rf bc
    cases ok
    · have hN : Hid (O = none) := Lib.hid (by
        rw [← hOn.out]
        cases V0 with
        | none => rfl
        | some u => exact absurd hV'.out.1 (by simp))
      have rc9 := (hr3'.out).cell
      have rf9 := (hr3'.out).frozen
      have F9 := (hr3'.out).set3 (.int .i64 xk) (.int .i64 xn) (.string xs)
      have FB := Lib.hid (below_set3 (hB3'.out) hgw (.int .i64 xk) (.int .i64 xn) (.string xs))
      have Fc := F9.cell
      clear F9
      clear rc9 rf9
      go_wp2_with fail
      refine bodyPost_ret (v := .tuple #[.agg #[.int .i64 xk, .int .i64 xn, .string xs], .bool false]) (by simp [results, Tryz.results17, go_sem, Fc]) rfl ?_
      exact ⟨xk, xn, xs, false, rfl, FB.out, by rw [hN.out]⟩
    obtain ⟨u0, hu0⟩ : ∃ u, V0 = some u := by
      cases V0 with
      | none => exact absurd hV'.out (by simp)
      | some u => exact ⟨u, rfl⟩
    subst hu0
    have hu0 : Hid (u0 = ⟨xk, xn, xs.data.toList⟩) := Lib.hid hV'.out.2
    have ok0 := Lib.hid (hok0.out u0 rfl)
    clear hV' hok0
    go_wp2_with fail
    refine D3.out.mono ?_
    rintro e w4 ⟨yk, yn, ys, ok, rfl, hb4, hV⟩
    have hB4 := hB3'.out.trans (hb4.mono hB3'.out.size)
    have hr4 := hr3'.out.below hb4 hr3'.out.lt
    have hx4 := hx3'.out.below hb4 hx3'.out.lt
    have g4' := g3'.out.below hb4 g3'.out.lt
    have g5 := Blk.new w4 33 #[.int .i64 yk, .int .i64 yn, .string ys]
    have hB5 := hB4.alloc hB4.size (.cells #[.int .i64 yk, .int .i64 yn, .string ys] 33)
    have hr5 := hr4.alloc (.cells #[.int .i64 yk, .int .i64 yn, .string ys] 33)
    have hx5 := hx4.alloc (.cells #[.int .i64 yk, .int .i64 yn, .string ys] 33)
    have h35 := g4'.alloc (.cells #[.int .i64 yk, .int .i64 yn, .string ys] 33)
    obtain ⟨w5, e5⟩ : ∃ w5, w4.alloc (.cells #[.int .i64 yk, .int .i64 yn, .string ys] 33) = w5 := ⟨_, rfl⟩
    obtain ⟨gy, hgy⟩ : ∃ gy, w4.heap.size = gy := ⟨_, rfl⟩
    rw [e5] at g5 hB5 hr5 hx5 h35
    rw [hgy] at g5
    have gy5 := g5.cell
    have gx5 := h35.cell
    have xc5 := hx5.cell
    have hV' := Lib.hid hV
    have hB5' := Lib.hid hB5
    have hr5' := Lib.hid hr5
    have rc5 := hr5.cell
    have rf5 := hr5.frozen
    clear hB4 hr4 hx4 g4' g5 hB5 hr5 hx5 h35 hb4 hV D3 gc xc3 y0 y1 y2 y3 rc3 rf3
    cases ok
    · have hN : Hid (O = none) := Lib.hid (by
        rw [← hOn.out]
        cases V1 with
        | none => rfl
        | some u => exact absurd hV'.out.1 (by simp))
      have rc9 := (hr5'.out).cell
      have rf9 := (hr5'.out).frozen
      have F9 := (hr5'.out).set3 (.int .i64 yk) (.int .i64 yn) (.string ys)
      have FB := Lib.hid (below_set3 (hB5'.out) hgw (.int .i64 yk) (.int .i64 yn) (.string ys))
      have Fc := F9.cell
      clear F9
      clear rc9 rf9
      go_wp2_with fail
      refine bodyPost_ret (v := .tuple #[.agg #[.int .i64 yk, .int .i64 yn, .string ys], .bool false]) (by simp [results, Tryz.results17, go_sem, Fc]) rfl ?_
      exact ⟨yk, yn, ys, false, rfl, FB.out, by rw [hN.out]⟩
    obtain ⟨u1, hu1⟩ : ∃ u, V1 = some u := by
      cases V1 with
      | none => exact absurd hV'.out (by simp)
      | some u => exact ⟨u, rfl⟩
    subst hu1
    have hu1 : Hid (u1 = ⟨yk, yn, ys.data.toList⟩) := Lib.hid hV'.out.2
    have ok1 := Lib.hid (hok1.out u1 rfl)
    clear hV' hok1
    have ht' : Hid (O = some (flagV (decide (orderV u0 u1 ≤ 0)))) := Lib.hid (by rw [← hOn.out]; rfl)
    rw [hu0.out, hu1.out] at ht'
    have OC := order_calls xk xn yk yn xs ys w5
    obtain ⟨X, hX⟩ : ∃ X, orderV ⟨xk, xn, xs.data.toList⟩ ⟨yk, yn, ys.data.toList⟩ = X := ⟨_, rfl⟩
    rw [hX] at OC ht'
    have OC' := Lib.hid OC
    obtain ⟨t, htt⟩ : ∃ t, decide (X ≤ 0) = t := ⟨_, rfl⟩
    rw [htt] at ht'
    obtain ⟨fn, hfn⟩ : ∃ fn, (flagV t).n = fn := ⟨_, rfl⟩
    have hfe := Lib.hid (flagV_of t fn hfn)
    have F1 := Lib.hid (fun W => by have F0 := FF.out t W; rw [hfn] at F0; exact F0)
    clear hfn FF hOn OC hX
    go_wp2_with fail
    refine OC'.out.mono ?_
    rintro e w6 ⟨rfl, hb6⟩
    have hB6 := Lib.hid (hB5'.out.trans (hb6.mono hB5'.out.size))
    have hr6 := Lib.hid (hr5'.out.below hb6 hr5'.out.lt)
    clear hb6 OC' rc5 rf5
    go_wp2_with fail
    refine (F1.out w6).mono ?_
    rintro e w7 ⟨rfl, hb7⟩
    have hB7 := hB6.out.trans (hb7.mono hB6.out.size)
    have hr7 := hr6.out.below hb7 hr6.out.lt
    have rc9 := (hr7).cell
    have rf9 := (hr7).frozen
    have F9 := (hr7).set3 (.int .i64 1) (.int .i64 fn) (.string ⟨#[]⟩)
    have FB := Lib.hid (below_set3 (hB7) hgw (.int .i64 1) (.int .i64 fn) (.string ⟨#[]⟩))
    have Fc := F9.cell
    clear F9
    clear hB7 hr7 hb7
    go_wp2_with fail
    refine bodyPost_ret (v := .tuple #[.agg #[.int .i64 1, .int .i64 fn, .string ⟨#[]⟩], .bool true]) (by simp [results, Tryz.results17, go_sem, Fc]) rfl ?_
    exact ⟨1, fn, ⟨#[]⟩, true, rfl, FB.out, by rw [ht'.out]; exact ⟨rfl, hfe.out⟩⟩
  · go_enter Tryz.func17, Tryz.ntmps17
    go_wp2_with fail
    refine D1.out.mono ?_
    rintro e w2 ⟨xk, xn, xs, ok, rfl, hb2, hV⟩
    have hB2 := hB1.out.trans (hb2.mono hB1.out.size)
    have hr2 := hr1.out.below hb2 hr1.out.lt
    have hx2 := hb1.out.below hb2 hb1.out.lt
    have g3 := Blk.new w2 33 #[.int .i64 xk, .int .i64 xn, .string xs]
    have hB3 := hB2.alloc hB2.size (.cells #[.int .i64 xk, .int .i64 xn, .string xs] 33)
    have hr3 := hr2.alloc (.cells #[.int .i64 xk, .int .i64 xn, .string xs] 33)
    have hx3 := hx2.alloc (.cells #[.int .i64 xk, .int .i64 xn, .string xs] 33)
    have hf3 := hb2.alloc hb2.size (.cells #[.int .i64 xk, .int .i64 xn, .string xs] 33)
    obtain ⟨w3, e3⟩ : ∃ w3, w2.alloc (.cells #[.int .i64 xk, .int .i64 xn, .string xs] 33) = w3 := ⟨_, rfl⟩
    obtain ⟨gx, hgx⟩ : ∃ gx, w2.heap.size = gx := ⟨_, rfl⟩
    rw [e3] at g3 hB3 hr3 hx3 hf3
    rw [hgx] at g3
    have gc := g3.cell
    have xc3 := hx3.cell
    obtain ⟨y0, y1, y2, y3⟩ := hcy.out w3 hf3
    have D3 := Lib.hid (D2.out w3 hf3)
    have hV' := Lib.hid hV
    have hB3' := Lib.hid hB3
    have hr3' := Lib.hid hr3
    have hx3' := Lib.hid hx3
    have g3' := Lib.hid g3
    have rc3 := hr3.cell
    have rf3 := hr3.frozen
    clear hB2 hr2 hx2 g3 hB3 hr3 hx3 hf3 hb2 hV D1 D2 hcy x0 x1 x2 x3 rc rf bc
    cases ok
    · have hN : Hid (O = none) := Lib.hid (by
        rw [← hOn.out]
        cases V0 with
        | none => rfl
        | some u => exact absurd hV'.out.1 (by simp))
      have rc9 := (hr3'.out).cell
      have rf9 := (hr3'.out).frozen
      have F9 := (hr3'.out).set3 (.int .i64 xk) (.int .i64 xn) (.string xs)
      have FB := Lib.hid (below_set3 (hB3'.out) hgw (.int .i64 xk) (.int .i64 xn) (.string xs))
      have Fc := F9.cell
      clear F9
      clear rc9 rf9
      go_wp2_with fail
      refine bodyPost_ret (v := .tuple #[.agg #[.int .i64 xk, .int .i64 xn, .string xs], .bool false]) (by simp [results, Tryz.results17, go_sem, Fc]) rfl ?_
      exact ⟨xk, xn, xs, false, rfl, FB.out, by rw [hN.out]⟩
    obtain ⟨u0, hu0⟩ : ∃ u, V0 = some u := by
      cases V0 with
      | none => exact absurd hV'.out (by simp)
      | some u => exact ⟨u, rfl⟩
    subst hu0
    have hu0 : Hid (u0 = ⟨xk, xn, xs.data.toList⟩) := Lib.hid hV'.out.2
    have ok0 := Lib.hid (hok0.out u0 rfl)
    clear hV' hok0
    go_wp2_with fail
    refine D3.out.mono ?_
    rintro e w4 ⟨yk, yn, ys, ok, rfl, hb4, hV⟩
    have hB4 := hB3'.out.trans (hb4.mono hB3'.out.size)
    have hr4 := hr3'.out.below hb4 hr3'.out.lt
    have hx4 := hx3'.out.below hb4 hx3'.out.lt
    have g4' := g3'.out.below hb4 g3'.out.lt
    have g5 := Blk.new w4 33 #[.int .i64 yk, .int .i64 yn, .string ys]
    have hB5 := hB4.alloc hB4.size (.cells #[.int .i64 yk, .int .i64 yn, .string ys] 33)
    have hr5 := hr4.alloc (.cells #[.int .i64 yk, .int .i64 yn, .string ys] 33)
    have hx5 := hx4.alloc (.cells #[.int .i64 yk, .int .i64 yn, .string ys] 33)
    have h35 := g4'.alloc (.cells #[.int .i64 yk, .int .i64 yn, .string ys] 33)
    obtain ⟨w5, e5⟩ : ∃ w5, w4.alloc (.cells #[.int .i64 yk, .int .i64 yn, .string ys] 33) = w5 := ⟨_, rfl⟩
    obtain ⟨gy, hgy⟩ : ∃ gy, w4.heap.size = gy := ⟨_, rfl⟩
    rw [e5] at g5 hB5 hr5 hx5 h35
    rw [hgy] at g5
    have gy5 := g5.cell
    have gx5 := h35.cell
    have xc5 := hx5.cell
    have hV' := Lib.hid hV
    have hB5' := Lib.hid hB5
    have hr5' := Lib.hid hr5
    have rc5 := hr5.cell
    have rf5 := hr5.frozen
    clear hB4 hr4 hx4 g4' g5 hB5 hr5 hx5 h35 hb4 hV D3 gc xc3 y0 y1 y2 y3 rc3 rf3
    cases ok
    · have hN : Hid (O = none) := Lib.hid (by
        rw [← hOn.out]
        cases V1 with
        | none => rfl
        | some u => exact absurd hV'.out.1 (by simp))
      have rc9 := (hr5'.out).cell
      have rf9 := (hr5'.out).frozen
      have F9 := (hr5'.out).set3 (.int .i64 yk) (.int .i64 yn) (.string ys)
      have FB := Lib.hid (below_set3 (hB5'.out) hgw (.int .i64 yk) (.int .i64 yn) (.string ys))
      have Fc := F9.cell
      clear F9
      clear rc9 rf9
      go_wp2_with fail
      refine bodyPost_ret (v := .tuple #[.agg #[.int .i64 yk, .int .i64 yn, .string ys], .bool false]) (by simp [results, Tryz.results17, go_sem, Fc]) rfl ?_
      exact ⟨yk, yn, ys, false, rfl, FB.out, by rw [hN.out]⟩
    obtain ⟨u1, hu1⟩ : ∃ u, V1 = some u := by
      cases V1 with
      | none => exact absurd hV'.out (by simp)
      | some u => exact ⟨u, rfl⟩
    subst hu1
    have hu1 : Hid (u1 = ⟨yk, yn, ys.data.toList⟩) := Lib.hid hV'.out.2
    have ok1 := Lib.hid (hok1.out u1 rfl)
    clear hV' hok1
    have ht' : Hid ((reckonI 12 u0.n u1.n).map (fun n => (⟨2, n, []⟩ : Vl)) = O) := Lib.hid (by rw [← hOn.out]; rfl)
    have i0 : -mostI ≤ xn ∧ xn ≤ mostI := by have := ok0.out; rw [hu0.out] at this; exact ⟨this.low, this.high⟩
    have i1 : -mostI ≤ yn ∧ yn ≤ mostI := by have := ok1.out; rw [hu1.out] at this; exact ⟨this.low, this.high⟩
    rw [hu0.out, hu1.out] at ht'
    have RC := Lib.hid (reckon_plus 12 xn yn (by decide) i0 i1 w5)
    clear FF hOn i0 i1 ok0 ok1
    go_wp2_with fail
    refine RC.out.mono ?_
    rintro e w6 ⟨n, ok, rfl, rfl, hm⟩
    have hm' := Lib.hid hm
    have rc9 := (hr5'.out).cell
    have rf9 := (hr5'.out).frozen
    have F9 := (hr5'.out).set3 (.int .i64 2) (.int .i64 n) (.string ⟨#[]⟩)
    have FB := Lib.hid (below_set3 (hB5'.out) hgw (.int .i64 2) (.int .i64 n) (.string ⟨#[]⟩))
    have Fc := F9.cell
    clear F9
    clear rc9 rf9 hm RC
    go_wp2_with fail
    refine bodyPost_ret (v := .tuple #[.agg #[.int .i64 2, .int .i64 n, .string ⟨#[]⟩], .bool ok]) (by simp [results, Tryz.results17, go_sem, Fc]) rfl ?_
    exact ⟨2, n, ⟨#[]⟩, ok, rfl, FB.out, by
      rw [← ht'.out]
      have h := hm'.out
      cases hc : reckonI 12 xn yn with
      | none => rw [hc] at h; exact h
      | some z => rw [hc] at h; obtain ⟨h1, h2⟩ := h; exact ⟨h1, by first | (rw [h2]; done) | (rw [h2]; rfl)⟩⟩
  · go_enter Tryz.func17, Tryz.ntmps17
    go_wp2_with fail
    refine D1.out.mono ?_
    rintro e w2 ⟨xk, xn, xs, ok, rfl, hb2, hV⟩
    have hB2 := hB1.out.trans (hb2.mono hB1.out.size)
    have hr2 := hr1.out.below hb2 hr1.out.lt
    have hx2 := hb1.out.below hb2 hb1.out.lt
    have g3 := Blk.new w2 33 #[.int .i64 xk, .int .i64 xn, .string xs]
    have hB3 := hB2.alloc hB2.size (.cells #[.int .i64 xk, .int .i64 xn, .string xs] 33)
    have hr3 := hr2.alloc (.cells #[.int .i64 xk, .int .i64 xn, .string xs] 33)
    have hx3 := hx2.alloc (.cells #[.int .i64 xk, .int .i64 xn, .string xs] 33)
    have hf3 := hb2.alloc hb2.size (.cells #[.int .i64 xk, .int .i64 xn, .string xs] 33)
    obtain ⟨w3, e3⟩ : ∃ w3, w2.alloc (.cells #[.int .i64 xk, .int .i64 xn, .string xs] 33) = w3 := ⟨_, rfl⟩
    obtain ⟨gx, hgx⟩ : ∃ gx, w2.heap.size = gx := ⟨_, rfl⟩
    rw [e3] at g3 hB3 hr3 hx3 hf3
    rw [hgx] at g3
    have gc := g3.cell
    have xc3 := hx3.cell
    obtain ⟨y0, y1, y2, y3⟩ := hcy.out w3 hf3
    have D3 := Lib.hid (D2.out w3 hf3)
    have hV' := Lib.hid hV
    have hB3' := Lib.hid hB3
    have hr3' := Lib.hid hr3
    have hx3' := Lib.hid hx3
    have g3' := Lib.hid g3
    have rc3 := hr3.cell
    have rf3 := hr3.frozen
    clear hB2 hr2 hx2 g3 hB3 hr3 hx3 hf3 hb2 hV D1 D2 hcy x0 x1 x2 x3 rc rf bc
    cases ok
    · have hN : Hid (O = none) := Lib.hid (by
        rw [← hOn.out]
        cases V0 with
        | none => rfl
        | some u => exact absurd hV'.out.1 (by simp))
      have rc9 := (hr3'.out).cell
      have rf9 := (hr3'.out).frozen
      have F9 := (hr3'.out).set3 (.int .i64 xk) (.int .i64 xn) (.string xs)
      have FB := Lib.hid (below_set3 (hB3'.out) hgw (.int .i64 xk) (.int .i64 xn) (.string xs))
      have Fc := F9.cell
      clear F9
      clear rc9 rf9
      go_wp2_with fail
      refine bodyPost_ret (v := .tuple #[.agg #[.int .i64 xk, .int .i64 xn, .string xs], .bool false]) (by simp [results, Tryz.results17, go_sem, Fc]) rfl ?_
      exact ⟨xk, xn, xs, false, rfl, FB.out, by rw [hN.out]⟩
    obtain ⟨u0, hu0⟩ : ∃ u, V0 = some u := by
      cases V0 with
      | none => exact absurd hV'.out (by simp)
      | some u => exact ⟨u, rfl⟩
    subst hu0
    have hu0 : Hid (u0 = ⟨xk, xn, xs.data.toList⟩) := Lib.hid hV'.out.2
    have ok0 := Lib.hid (hok0.out u0 rfl)
    clear hV' hok0
    go_wp2_with fail
    refine D3.out.mono ?_
    rintro e w4 ⟨yk, yn, ys, ok, rfl, hb4, hV⟩
    have hB4 := hB3'.out.trans (hb4.mono hB3'.out.size)
    have hr4 := hr3'.out.below hb4 hr3'.out.lt
    have hx4 := hx3'.out.below hb4 hx3'.out.lt
    have g4' := g3'.out.below hb4 g3'.out.lt
    have g5 := Blk.new w4 33 #[.int .i64 yk, .int .i64 yn, .string ys]
    have hB5 := hB4.alloc hB4.size (.cells #[.int .i64 yk, .int .i64 yn, .string ys] 33)
    have hr5 := hr4.alloc (.cells #[.int .i64 yk, .int .i64 yn, .string ys] 33)
    have hx5 := hx4.alloc (.cells #[.int .i64 yk, .int .i64 yn, .string ys] 33)
    have h35 := g4'.alloc (.cells #[.int .i64 yk, .int .i64 yn, .string ys] 33)
    obtain ⟨w5, e5⟩ : ∃ w5, w4.alloc (.cells #[.int .i64 yk, .int .i64 yn, .string ys] 33) = w5 := ⟨_, rfl⟩
    obtain ⟨gy, hgy⟩ : ∃ gy, w4.heap.size = gy := ⟨_, rfl⟩
    rw [e5] at g5 hB5 hr5 hx5 h35
    rw [hgy] at g5
    have gy5 := g5.cell
    have gx5 := h35.cell
    have xc5 := hx5.cell
    have hV' := Lib.hid hV
    have hB5' := Lib.hid hB5
    have hr5' := Lib.hid hr5
    have rc5 := hr5.cell
    have rf5 := hr5.frozen
    clear hB4 hr4 hx4 g4' g5 hB5 hr5 hx5 h35 hb4 hV D3 gc xc3 y0 y1 y2 y3 rc3 rf3
    cases ok
    · have hN : Hid (O = none) := Lib.hid (by
        rw [← hOn.out]
        cases V1 with
        | none => rfl
        | some u => exact absurd hV'.out.1 (by simp))
      have rc9 := (hr5'.out).cell
      have rf9 := (hr5'.out).frozen
      have F9 := (hr5'.out).set3 (.int .i64 yk) (.int .i64 yn) (.string ys)
      have FB := Lib.hid (below_set3 (hB5'.out) hgw (.int .i64 yk) (.int .i64 yn) (.string ys))
      have Fc := F9.cell
      clear F9
      clear rc9 rf9
      go_wp2_with fail
      refine bodyPost_ret (v := .tuple #[.agg #[.int .i64 yk, .int .i64 yn, .string ys], .bool false]) (by simp [results, Tryz.results17, go_sem, Fc]) rfl ?_
      exact ⟨yk, yn, ys, false, rfl, FB.out, by rw [hN.out]⟩
    obtain ⟨u1, hu1⟩ : ∃ u, V1 = some u := by
      cases V1 with
      | none => exact absurd hV'.out (by simp)
      | some u => exact ⟨u, rfl⟩
    subst hu1
    have hu1 : Hid (u1 = ⟨yk, yn, ys.data.toList⟩) := Lib.hid hV'.out.2
    have ok1 := Lib.hid (hok1.out u1 rfl)
    clear hV' hok1
    have ht' : Hid ((reckonI 13 u0.n u1.n).map (fun n => (⟨2, n, []⟩ : Vl)) = O) := Lib.hid (by rw [← hOn.out]; rfl)
    have i0 : -mostI ≤ xn ∧ xn ≤ mostI := by have := ok0.out; rw [hu0.out] at this; exact ⟨this.low, this.high⟩
    have i1 : -mostI ≤ yn ∧ yn ≤ mostI := by have := ok1.out; rw [hu1.out] at this; exact ⟨this.low, this.high⟩
    rw [hu0.out, hu1.out] at ht'
    have RC := Lib.hid (reckon_plus 13 xn yn (by decide) i0 i1 w5)
    clear FF hOn i0 i1 ok0 ok1
    go_wp2_with fail
    refine RC.out.mono ?_
    rintro e w6 ⟨n, ok, rfl, rfl, hm⟩
    have hm' := Lib.hid hm
    have rc9 := (hr5'.out).cell
    have rf9 := (hr5'.out).frozen
    have F9 := (hr5'.out).set3 (.int .i64 2) (.int .i64 n) (.string ⟨#[]⟩)
    have FB := Lib.hid (below_set3 (hB5'.out) hgw (.int .i64 2) (.int .i64 n) (.string ⟨#[]⟩))
    have Fc := F9.cell
    clear F9
    clear rc9 rf9 hm RC
    go_wp2_with fail
    refine bodyPost_ret (v := .tuple #[.agg #[.int .i64 2, .int .i64 n, .string ⟨#[]⟩], .bool ok]) (by simp [results, Tryz.results17, go_sem, Fc]) rfl ?_
    exact ⟨2, n, ⟨#[]⟩, ok, rfl, FB.out, by
      rw [← ht'.out]
      have h := hm'.out
      cases hc : reckonI 13 xn yn with
      | none => rw [hc] at h; exact h
      | some z => rw [hc] at h; obtain ⟨h1, h2⟩ := h; exact ⟨h1, by first | (rw [h2]; done) | (rw [h2]; rfl)⟩⟩
  · go_enter Tryz.func17, Tryz.ntmps17
    go_wp2_with fail
    refine D1.out.mono ?_
    rintro e w2 ⟨xk, xn, xs, ok, rfl, hb2, hV⟩
    have hB2 := hB1.out.trans (hb2.mono hB1.out.size)
    have hr2 := hr1.out.below hb2 hr1.out.lt
    have hx2 := hb1.out.below hb2 hb1.out.lt
    have g3 := Blk.new w2 33 #[.int .i64 xk, .int .i64 xn, .string xs]
    have hB3 := hB2.alloc hB2.size (.cells #[.int .i64 xk, .int .i64 xn, .string xs] 33)
    have hr3 := hr2.alloc (.cells #[.int .i64 xk, .int .i64 xn, .string xs] 33)
    have hx3 := hx2.alloc (.cells #[.int .i64 xk, .int .i64 xn, .string xs] 33)
    have hf3 := hb2.alloc hb2.size (.cells #[.int .i64 xk, .int .i64 xn, .string xs] 33)
    obtain ⟨w3, e3⟩ : ∃ w3, w2.alloc (.cells #[.int .i64 xk, .int .i64 xn, .string xs] 33) = w3 := ⟨_, rfl⟩
    obtain ⟨gx, hgx⟩ : ∃ gx, w2.heap.size = gx := ⟨_, rfl⟩
    rw [e3] at g3 hB3 hr3 hx3 hf3
    rw [hgx] at g3
    have gc := g3.cell
    have xc3 := hx3.cell
    obtain ⟨y0, y1, y2, y3⟩ := hcy.out w3 hf3
    have D3 := Lib.hid (D2.out w3 hf3)
    have hV' := Lib.hid hV
    have hB3' := Lib.hid hB3
    have hr3' := Lib.hid hr3
    have hx3' := Lib.hid hx3
    have g3' := Lib.hid g3
    have rc3 := hr3.cell
    have rf3 := hr3.frozen
    clear hB2 hr2 hx2 g3 hB3 hr3 hx3 hf3 hb2 hV D1 D2 hcy x0 x1 x2 x3 rc rf bc
    cases ok
    · have hN : Hid (O = none) := Lib.hid (by
        rw [← hOn.out]
        cases V0 with
        | none => rfl
        | some u => exact absurd hV'.out.1 (by simp))
      have rc9 := (hr3'.out).cell
      have rf9 := (hr3'.out).frozen
      have F9 := (hr3'.out).set3 (.int .i64 xk) (.int .i64 xn) (.string xs)
      have FB := Lib.hid (below_set3 (hB3'.out) hgw (.int .i64 xk) (.int .i64 xn) (.string xs))
      have Fc := F9.cell
      clear F9
      clear rc9 rf9
      go_wp2_with fail
      refine bodyPost_ret (v := .tuple #[.agg #[.int .i64 xk, .int .i64 xn, .string xs], .bool false]) (by simp [results, Tryz.results17, go_sem, Fc]) rfl ?_
      exact ⟨xk, xn, xs, false, rfl, FB.out, by rw [hN.out]⟩
    obtain ⟨u0, hu0⟩ : ∃ u, V0 = some u := by
      cases V0 with
      | none => exact absurd hV'.out (by simp)
      | some u => exact ⟨u, rfl⟩
    subst hu0
    have hu0 : Hid (u0 = ⟨xk, xn, xs.data.toList⟩) := Lib.hid hV'.out.2
    have ok0 := Lib.hid (hok0.out u0 rfl)
    clear hV' hok0
    go_wp2_with fail
    refine D3.out.mono ?_
    rintro e w4 ⟨yk, yn, ys, ok, rfl, hb4, hV⟩
    have hB4 := hB3'.out.trans (hb4.mono hB3'.out.size)
    have hr4 := hr3'.out.below hb4 hr3'.out.lt
    have hx4 := hx3'.out.below hb4 hx3'.out.lt
    have g4' := g3'.out.below hb4 g3'.out.lt
    have g5 := Blk.new w4 33 #[.int .i64 yk, .int .i64 yn, .string ys]
    have hB5 := hB4.alloc hB4.size (.cells #[.int .i64 yk, .int .i64 yn, .string ys] 33)
    have hr5 := hr4.alloc (.cells #[.int .i64 yk, .int .i64 yn, .string ys] 33)
    have hx5 := hx4.alloc (.cells #[.int .i64 yk, .int .i64 yn, .string ys] 33)
    have h35 := g4'.alloc (.cells #[.int .i64 yk, .int .i64 yn, .string ys] 33)
    obtain ⟨w5, e5⟩ : ∃ w5, w4.alloc (.cells #[.int .i64 yk, .int .i64 yn, .string ys] 33) = w5 := ⟨_, rfl⟩
    obtain ⟨gy, hgy⟩ : ∃ gy, w4.heap.size = gy := ⟨_, rfl⟩
    rw [e5] at g5 hB5 hr5 hx5 h35
    rw [hgy] at g5
    have gy5 := g5.cell
    have gx5 := h35.cell
    have xc5 := hx5.cell
    have hV' := Lib.hid hV
    have hB5' := Lib.hid hB5
    have hr5' := Lib.hid hr5
    have rc5 := hr5.cell
    have rf5 := hr5.frozen
    clear hB4 hr4 hx4 g4' g5 hB5 hr5 hx5 h35 hb4 hV D3 gc xc3 y0 y1 y2 y3 rc3 rf3
    cases ok
    · have hN : Hid (O = none) := Lib.hid (by
        rw [← hOn.out]
        cases V1 with
        | none => rfl
        | some u => exact absurd hV'.out.1 (by simp))
      have rc9 := (hr5'.out).cell
      have rf9 := (hr5'.out).frozen
      have F9 := (hr5'.out).set3 (.int .i64 yk) (.int .i64 yn) (.string ys)
      have FB := Lib.hid (below_set3 (hB5'.out) hgw (.int .i64 yk) (.int .i64 yn) (.string ys))
      have Fc := F9.cell
      clear F9
      clear rc9 rf9
      go_wp2_with fail
      refine bodyPost_ret (v := .tuple #[.agg #[.int .i64 yk, .int .i64 yn, .string ys], .bool false]) (by simp [results, Tryz.results17, go_sem, Fc]) rfl ?_
      exact ⟨yk, yn, ys, false, rfl, FB.out, by rw [hN.out]⟩
    obtain ⟨u1, hu1⟩ : ∃ u, V1 = some u := by
      cases V1 with
      | none => exact absurd hV'.out (by simp)
      | some u => exact ⟨u, rfl⟩
    subst hu1
    have hu1 : Hid (u1 = ⟨yk, yn, ys.data.toList⟩) := Lib.hid hV'.out.2
    have ok1 := Lib.hid (hok1.out u1 rfl)
    clear hV' hok1
    have ht' : Hid ((reckonI 14 u0.n u1.n).map (fun n => (⟨2, n, []⟩ : Vl)) = O) := Lib.hid (by rw [← hOn.out]; rfl)
    have i0 : -mostI ≤ xn ∧ xn ≤ mostI := by have := ok0.out; rw [hu0.out] at this; exact ⟨this.low, this.high⟩
    have i1 : -mostI ≤ yn ∧ yn ≤ mostI := by have := ok1.out; rw [hu1.out] at this; exact ⟨this.low, this.high⟩
    rw [hu0.out, hu1.out] at ht'
    have RC := Lib.hid (reckon_times xn yn i0 i1 w5)
    clear FF hOn i0 i1 ok0 ok1
    go_wp2_with fail
    refine RC.out.mono ?_
    rintro e w6 ⟨n, ok, rfl, rfl, hm⟩
    have hm' := Lib.hid hm
    have rc9 := (hr5'.out).cell
    have rf9 := (hr5'.out).frozen
    have F9 := (hr5'.out).set3 (.int .i64 2) (.int .i64 n) (.string ⟨#[]⟩)
    have FB := Lib.hid (below_set3 (hB5'.out) hgw (.int .i64 2) (.int .i64 n) (.string ⟨#[]⟩))
    have Fc := F9.cell
    clear F9
    clear rc9 rf9 hm RC
    go_wp2_with fail
    refine bodyPost_ret (v := .tuple #[.agg #[.int .i64 2, .int .i64 n, .string ⟨#[]⟩], .bool ok]) (by simp [results, Tryz.results17, go_sem, Fc]) rfl ?_
    exact ⟨2, n, ⟨#[]⟩, ok, rfl, FB.out, by
      rw [← ht'.out]
      have h := hm'.out
      cases hc : reckonI 14 xn yn with
      | none => rw [hc] at h; exact h
      | some z => rw [hc] at h; obtain ⟨h1, h2⟩ := h; exact ⟨h1, by first | (rw [h2]; done) | (rw [h2]; rfl)⟩⟩
theorem value_calls (pa : List Par) (B : List UInt8 → Vl) (hG : Goes (kindOf pa) B) (r : CT) (hs : r.slim) (hw : r.well) (hk : 0 < kindC (kindOf pa) r) : ValSaid B r :=
  value_step pa B hG r (fun q hq => value_calls pa B hG q (hs.part hq) (hw.part hq) (kind_parts hk (by
    have := hw.kinds
    rcases this with h | h | h | h
    · rw [h.2.2] at hq; cases hq
    · omega
    · omega
    · omega) q hq).1) hs hw hk
termination_by SizeOf.sizeOf r
decreasing_by exact partc_lt hq
end Go.Proofs.YtdfgbkilaepolaaGreatDoor
