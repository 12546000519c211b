/- Walks: the value of a condition: is the first among the others? -/
import Derived.Test.YtdfgbkilaepolaaGreatDoorPO20
namespace Go.Proofs.YtdfgbkilaepolaaGreatDoor
open Go.RowKit Go.Maps
attribute [local go_sem ↓] eql_val
set_option maxHeartbeats 8000000 in
set_option maxRecDepth 100000 in
theorem among_calls (B : List UInt8 → Vl) (p0 : CT) (ps : List CT) (hne : 1 ≤ ps.length) (hq : ∀ q ∈ p0 :: ps, ValSaid B q) (v : Value) (ds : List Value) (w : World) (b : Nat) (hrow : RowV w v (p0 :: ps).length ds) (hp : ∀ (i : Nat) (q : CT), (p0 :: ps)[i]? = some q → CV w ((ds.drop (i * 4)).take 4) q) (hM : BkAt w b B) :
    Calls Tryz.prog 35 #[.map (some b), v] w (ValPost (amongV ((p0 :: ps).map (valueC B))) w) := by
  have hrow0 := hrow
  obtain ⟨p, c, rfl⟩ := hrow.form
  have hmax := hrow.1
  unfold maxLen at hmax
  obtain ⟨g4, o, rfl, hc1, hcell⟩ := hrow0.cell (by simp)
  obtain ⟨kq, mq, aq, pq, cq, Rq, -, lg, x0, x1, x2, x3⟩ := CV.part (i := 0) hcell (show (p0 :: ps)[0]? = some p0 from rfl) (hp 0 p0 rfl)
  rw [Nat.zero_mul, Nat.add_zero] at x0 x1 x2 x3
  have hcell2 : ∀ (i : Nat) (u : Value), (ds.drop 4)[i]? = some u → g4 < w.heap.size ∧ w.cell? ⟨g4, o + 4 + i, none⟩ = some u := fun i u hu => by
    rw [List.getElem?_drop] at hu
    have := hcell _ u hu
    rw [← Nat.add_assoc] at this
    exact this
  have hp2 : ∀ (i : Nat) (q : CT), ps[i]? = some q → CV w (((ds.drop 4).drop (i * 4)).take 4) q := fun i q hi => by
    have := hp (i + 1) q (by rw [List.getElem?_cons_succ]; exact hi)
    rw [List.drop_drop, show 4 + i * 4 = (i + 1) * 4 by omega]
    exact this
  obtain ⟨O, hO⟩ : ∃ O, amongV ((p0 :: ps).map (valueC B)) = O := ⟨_, rfl⟩
  rw [hO]
  have hO' := Lib.hid hO
  have hq' := Lib.hid (fun q hm => hq q (List.mem_cons_of_mem _ hm))
  have hcell' := Lib.hid hcell2
  have hp' := Lib.hid hp2
  have hM' := Lib.hid hM
  obtain ⟨N, hN⟩ : ∃ N, ps.length = N := ⟨_, rfl⟩
  rw [List.length_cons, hN] at hmax hc1 ⊢
  rw [hN] at hne
  have hN' := Lib.hid hN
  have r0 := Blk.new w 33 #[.int .i64 0, .int .i64 0, .string ⟨#[]⟩]
  have B0 := (Below.refl w.heap.size w).alloc (Nat.le_refl _) (.cells #[.int .i64 0, .int .i64 0, .string ⟨#[]⟩] 33)
  obtain ⟨w0, e0⟩ : ∃ w0, w.alloc (.cells #[.int .i64 0, .int .i64 0, .string ⟨#[]⟩] 33) = w0 := ⟨_, rfl⟩
  rw [e0] at r0 B0
  have y0 : w0.cell? ⟨g4, o, none⟩ = some (.int .i64 kq) := by rw [B0.cell (p := ⟨g4, o, none⟩) lg]; exact x0
  have y1 : w0.cell? ⟨g4, o + 1, none⟩ = some (.int .i64 mq) := by rw [B0.cell (p := ⟨g4, o + 1, none⟩) lg]; exact x1
  have y2 : w0.cell? ⟨g4, o + 2, none⟩ = some (.string aq) := by rw [B0.cell (p := ⟨g4, o + 2, none⟩) lg]; exact x2
  have y3 : w0.cell? ⟨g4, o + 3, none⟩ = some (.slice pq p0.parts.length cq) := by rw [B0.cell (p := ⟨g4, o + 3, none⟩) lg]; exact x3
  have D := Lib.hid (hq p0 List.mem_cons_self _ w0 b (Rq.later B0) (hM.later B0))
  have r0' := Lib.hid r0
  have B0' := Lib.hid B0
  have ft := Lib.hid (fun W => flag_calls' true W)
  have ff := Lib.hid (fun W => flag_calls' false W)
  have hi1 : (0 : Int) < (N : Int) + 1 := by omega
  have hin : (1 : Int) ≤ (N : Int) + 1 := by omega
  clear hq hrow hrow0 hp hM hN hO r0 B0 x0 x1 x2 x3 hcell hcell2 hp2 Rq
  go_enter Tryz.func35, Tryz.ntmps35
  go_wp2_with fail
  refine D.out.mono ?_
  rintro e w1 ⟨vk, vn, vs, ok, rfl, hb1, hV⟩
  have hB1 := B0'.out.trans (hb1.mono B0'.out.size)
  have hr1 := r0'.out.below hb1 r0'.out.lt
  have g2 := Blk.new w1 33 #[.int .i64 vk, .int .i64 vn, .string vs]
  have hB2 := hB1.alloc hB1.size (.cells #[.int .i64 vk, .int .i64 vn, .string vs] 33)
  have hr2 := hr1.alloc (.cells #[.int .i64 vk, .int .i64 vn, .string vs] 33)
  obtain ⟨w2, e2⟩ : ∃ w2, w1.alloc (.cells #[.int .i64 vk, .int .i64 vn, .string vs] 33) = w2 := ⟨_, rfl⟩
  obtain ⟨gv, hgv⟩ : ∃ gv, w1.heap.size = gv := ⟨_, rfl⟩
  rw [e2] at g2 hB2 hr2
  rw [hgv] at g2
  have gc := g2.cell
  have rc := hr2.cell
  have hV' := Lib.hid hV
  have g2' := Lib.hid g2
  have hB2' := Lib.hid hB2
  have hr2' := Lib.hid hr2
  clear D hb1 hB1 hr1 g2 hB2 hr2 hV B0' r0' y0 y1 y2 y3
  cases ok
  · have hOn : Hid (O = none) := Lib.hid (by
      rw [← hO'.out, List.map_cons]
      cases hv : valueC B p0 with
      | none => rfl
      | some u => exact absurd (by have := hV'.out; rw [hv] at this; exact this.1) (by simp))
    clear hO' hV'
    have hxl : 0 < ps.length := by rw [hN'.out]; omega
    obtain ⟨q, hqq⟩ : ∃ q, ps[0]? = some q := ⟨_, List.getElem?_eq_getElem hxl⟩
    have hcr : ∀ (i : Nat) (u : Value), (ds.drop 4)[i]? = some u → g4 < w2.heap.size ∧ w2.cell? ⟨g4, o + 4 + i, none⟩ = some u := fun i u hu => by
      obtain ⟨h1, h2⟩ := hcell'.out i u hu
      exact ⟨Nat.lt_of_lt_of_le h1 hB2'.out.size, by rw [hB2'.out.cell (p := ⟨g4, o + 4 + i, none⟩) h1]; exact h2⟩
    obtain ⟨kz, mz, az, pz, cz, Rz, -, lz, z0, z1, z2, z3⟩ := CV.part (i := 0) hcr hqq ((hp'.out 0 q hqq).later hB2'.out)
    rw [Nat.zero_mul, Nat.add_zero] at z0 z1 z2 z3
    obtain ⟨w3, e3⟩ : ∃ w3, w2.alloc (.cells #[.int .i64 kz, .int .i64 mz, .string az, .slice pz q.parts.length cz] 28) = w3 := ⟨_, rfl⟩
    have hr3 := hr2'.out.alloc (.cells #[.int .i64 kz, .int .i64 mz, .string az, .slice pz q.parts.length cz] 28)
    have g3 := g2'.out.alloc (.cells #[.int .i64 kz, .int .i64 mz, .string az, .slice pz q.parts.length cz] 28)
    have hB3 := hB2'.out.alloc hB2'.out.size (.cells #[.int .i64 kz, .int .i64 mz, .string az, .slice pz q.parts.length cz] 28)
    rw [e3] at hr3 g3 hB3
    have gc3 := g3.cell
    have rc3 := hr3.cell
    have rf3 := hr3.frozen
    have F := hr3.set3 (.int .i64 vk) (.int .i64 vn) (.string vs)
    have FB := Lib.hid (below_set3 hB3 (Nat.le_refl _) (.int .i64 vk) (.int .i64 vn) (.string vs))
    have Fc := F.cell
    clear hcr Rz hqq hxl hr3 g3 hB3 F
    go_wp2_with fail
    refine wp_loop_rounds 1 ?_
    rw [rounds_succ]
    go_wp2_with fail
    refine bodyPost_ret (v := .tuple #[.agg #[.int .i64 vk, .int .i64 vn, .string vs], .bool false]) (by simp [results, Tryz.results35, go_sem, Fc]) rfl ?_
    exact ⟨vk, vn, vs, false, rfl, FB.out, by rw [hOn.out]⟩
  · obtain ⟨u0, hu0⟩ : ∃ u0, valueC B p0 = some u0 := by
      cases hv : valueC B p0 with
      | none => have := hV'.out; rw [hv] at this; exact absurd this (by simp)
      | some u => exact ⟨u, rfl⟩
    have hu0e : u0 = ⟨vk, vn, vs.data.toList⟩ := by
      have := hV'.out; rw [hu0] at this; exact this.2
    have hO2 : Hid (amongR u0 (ps.map (valueC B)) = O) := Lib.hid (by
      rw [← hO'.out, List.map_cons, hu0]; rfl)
    have hu0' := Lib.hid hu0e
    clear hO' hV' hu0 hu0e
    go_wp2_with fail
    go_loopw [23] (fun i wr => ∃ (j : Nat), i = .int .i64 j ∧ j ≤ N ∧ Below w.heap.size w wr ∧ Blk wr w.heap.size 33 #[.int .i64 0, .int .i64 0, .string ⟨#[]⟩] ∧ Blk wr gv 33 #[.int .i64 vk, .int .i64 vn, .string vs] ∧ amongR u0 ((ps.drop j).map (valueC B)) = O) (fun i _ => N - (intOf i).toNat)
    case atStart => exact ⟨0, rfl, Nat.zero_le _, hB2'.out, hr2'.out, g2'.out, hO2.out⟩
    case round =>
      clear gc rc e2 hgv hr2' g2' hO2 hB2'
      obtain ⟨j, rfl, hj, hB, hr, hg, hno⟩ := hrel
      by_cases hlt : j < N
      · have hjl : j < ps.length := by rw [hN'.out]; exact hlt
        obtain ⟨q, hqq⟩ : ∃ q, ps[j]? = some q := ⟨_, List.getElem?_eq_getElem hjl⟩
        have hdr : ps.drop j = q :: ps.drop (j + 1) := by
          rw [List.drop_eq_getElem_cons hjl, (List.getElem?_eq_some_iff.1 hqq).2]
        rw [hdr, List.map_cons] at hno
        have hcr : ∀ (i : Nat) (u : Value), (ds.drop 4)[i]? = some u → g4 < wr.heap.size ∧ wr.cell? ⟨g4, o + 4 + i, none⟩ = some u := fun i u hu => by
          obtain ⟨h1, h2⟩ := hcell'.out i u hu
          exact ⟨Nat.lt_of_lt_of_le h1 hB.size, by rw [hB.cell (p := ⟨g4, o + 4 + i, none⟩) h1]; exact h2⟩
        obtain ⟨kz, mz, az, pz, cz, Rz, -, lz, z0, z1, z2, z3⟩ := CV.part hcr hqq ((hp'.out j q hqq).later hB)
        have hqm := List.mem_of_getElem? hqq
        obtain ⟨w3, e3⟩ : ∃ w3, wr.alloc (.cells #[.int .i64 kz, .int .i64 mz, .string az, .slice pz q.parts.length cz] 28) = w3 := ⟨_, rfl⟩
        have hb3 := (Below.refl wr.heap.size wr).alloc (Nat.le_refl _) (.cells #[.int .i64 kz, .int .i64 mz, .string az, .slice pz q.parts.length cz] 28)
        have bq3 := Blk.new wr 28 #[.int .i64 kz, .int .i64 mz, .string az, .slice pz q.parts.length cz]
        rw [e3] at hb3 bq3
        have c3 := bq3.cell
        have hB3 := hB.trans (hb3.mono hB.size)
        have hr3 := hr.below hb3 hr.lt
        have hg3 := hg.below hb3 hg.lt
        have gc3 := hg3.cell
        have rc3 := hr3.cell
        have D := Lib.hid (hq'.out q hqm _ w3 b (Rz.later hb3) (hM'.out.later hB3))
        have hB3' := Lib.hid hB3
        have hr3' := Lib.hid hr3
        have hg3' := Lib.hid hg3
        have hno' := Lib.hid hno
        generalize valueC B q = V at *
        clear hB hr hg hb3 bq3 hr3 hg3 hB3 hno hdr hcr Rz hjl hqq hqm
        go_wp2_with fail
        refine D.out.mono ?_
        rintro e w4 ⟨zk, zn, zs, ok, rfl, hb4, hV⟩
        have hB4 := hB3'.out.trans (hb4.mono hB3'.out.size)
        have hr4 := hr3'.out.below hb4 hr3'.out.lt
        have hg4 := hg3'.out.below hb4 hg3'.out.lt
        have g5 := Blk.new w4 33 #[.int .i64 zk, .int .i64 zn, .string zs]
        have hB5 := hB4.alloc hB4.size (.cells #[.int .i64 zk, .int .i64 zn, .string zs] 33)
        have hr5 := hr4.alloc (.cells #[.int .i64 zk, .int .i64 zn, .string zs] 33)
        have hg5 := hg4.alloc (.cells #[.int .i64 zk, .int .i64 zn, .string zs] 33)
        obtain ⟨w5, e5⟩ : ∃ w5, w4.alloc (.cells #[.int .i64 zk, .int .i64 zn, .string zs] 33) = w5 := ⟨_, rfl⟩
        obtain ⟨gz, hgz⟩ : ∃ gz, w4.heap.size = gz := ⟨_, rfl⟩
        rw [e5] at g5 hB5 hr5 hg5
        rw [hgz] at g5
        have gc5 := g5.cell
        have gv5 := hg5.cell
        have FT := Lib.hid (ft.out w5)
        have hV' := Lib.hid hV
        have hB5' := Lib.hid hB5
        have hr5' := Lib.hid hr5
        have hg5' := Lib.hid hg5
        clear D hb4 hB4 hr4 hg4 g5 hB5 hr5 hg5 hV z0 z1 z2 z3 c3 gc3 rc3
        cases ok
        · have hOn : Hid (O = none) := Lib.hid (by
            rw [← hno'.out]
            cases V with
            | none => rfl
            | some u => exact absurd hV'.out.1 (by simp))
          clear hno' hV'
          go_wp2_with fail
          refine FT.out.mono ?_
          rintro e w6 ⟨rfl, hb6⟩
          have hB6 := hB5'.out.trans (hb6.mono hB5'.out.size)
          have hr6 := hr5'.out.below hb6 hr5'.out.lt
          obtain ⟨tn, htn⟩ : ∃ tn, (flagV true).n = tn := ⟨_, rfl⟩
          rw [htn]
          have rc6 := hr6.cell
          have rf6 := hr6.frozen
          have F := hr6.set3 (.int .i64 1) (.int .i64 tn) (.string ⟨#[]⟩)
          have FB := Lib.hid (below_set3 hB6 (Nat.le_refl _) (.int .i64 1) (.int .i64 tn) (.string ⟨#[]⟩))
          have Fc := F.cell
          clear hr6 hB6 F hb6 FT htn
          go_wp2_with fail
          refine bodyPost_ret (v := .tuple #[.agg #[.int .i64 1, .int .i64 tn, .string ⟨#[]⟩], .bool false]) (by simp [results, Tryz.results35, go_sem, Fc]) rfl ?_
          exact ⟨1, tn, ⟨#[]⟩, false, rfl, FB.out, by rw [hOn.out]⟩
        · obtain ⟨u, hu⟩ : ∃ u, V = some u := by
            cases V with
            | none => exact absurd hV'.out (by simp)
            | some u => exact ⟨u, rfl⟩
          subst hu
          have hue : u = ⟨zk, zn, zs.data.toList⟩ := hV'.out.2
          have hsame : sameV zk zn zs vk vn vs = decide (u = u0) := by rw [sameV_eq, hue, hu0'.out]
          have hstep : amongR u0 (some u :: (ps.drop (j + 1)).map (valueC B)) = if u = u0 then some (flagV true) else amongR u0 ((ps.drop (j + 1)).map (valueC B)) := rfl
          rw [hstep] at hno'
          by_cases hsm : u = u0
          · rw [if_pos hsm] at hno'
            have hs1 : sameV zk zn zs vk vn vs = true := by rw [hsame]; exact decide_eq_true hsm
            clear hsame hstep hsm hue hV'
            go_wp2_with fail
            refine FT.out.mono ?_
            rintro e w6 ⟨rfl, hb6⟩
            have hB6 := hB5'.out.trans (hb6.mono hB5'.out.size)
            have hr6 := hr5'.out.below hb6 hr5'.out.lt
            have htV := Lib.hid (flagV_is true)
            obtain ⟨tn, htn⟩ : ∃ tn, (flagV true).n = tn := ⟨_, rfl⟩
            rw [htn] at htV ⊢
            have rc6 := hr6.cell
            have rf6 := hr6.frozen
            have F := hr6.set3 (.int .i64 1) (.int .i64 tn) (.string ⟨#[]⟩)
            have FB := Lib.hid (below_set3 hB6 (Nat.le_refl _) (.int .i64 1) (.int .i64 tn) (.string ⟨#[]⟩))
            have Fc := F.cell
            clear hr6 hB6 F hb6 FT htn
            go_wp2_with fail
            refine bodyPost_ret (v := .tuple #[.agg #[.int .i64 1, .int .i64 tn, .string ⟨#[]⟩], .bool true]) (by simp [results, Tryz.results35, go_sem, Fc]) rfl ?_
            exact ⟨1, tn, ⟨#[]⟩, true, rfl, FB.out, by rw [← hno'.out]; exact ⟨rfl, htV.out⟩⟩
          · rw [if_neg hsm] at hno'
            have hs1 : sameV zk zn zs vk vn vs = false := by rw [hsame]; exact decide_eq_false hsm
            clear hsame hstep hsm hue hV' FT
            go_wp2_with fail
            go_roundw
            case rel => exact ⟨j + 1, by go_num, by omega, hB5'.out, hr5'.out, hg5'.out, hno'.out⟩
            case measure => simp [intOf]; omega
      · obtain rfl : j = N := by omega
        rw [List.drop_eq_nil_of_le (by rw [hN'.out]; exact Nat.le_refl _)] at hno
        have hO3 : Hid (O = some (flagV false)) := Lib.hid hno.symm
        have f5 := ff.out wr
        have hfV := flagV_is false
        obtain ⟨fn, hfn⟩ : ∃ fn, (flagV false).n = fn := ⟨_, rfl⟩
        rw [hfn] at f5 hfV
        have f7 := Lib.hid f5
        have hfV' := Lib.hid hfV
        have hr' := Lib.hid hr
        have hB' := Lib.hid hB
        clear hno hr hg hB f5 hfn ff hfV
        go_wp2_with fail
        refine f7.out.mono ?_
        rintro e w6 ⟨rfl, hb6⟩
        have hr6 := hr'.out.below hb6 hr'.out.lt
        have hB6 := hB'.out.trans (hb6.mono hB'.out.size)
        have rc6 := hr6.cell
        have rf6 := hr6.frozen
        have F := hr6.set3 (.int .i64 1) (.int .i64 fn) (.string ⟨#[]⟩)
        have FB := Lib.hid (below_set3 hB6 (Nat.le_refl _) (.int .i64 1) (.int .i64 fn) (.string ⟨#[]⟩))
        have Fc := F.cell
        clear hr6 hB6 F hb6
        go_wp2_with fail
        refine bodyPost_ret (v := .tuple #[.agg #[.int .i64 1, .int .i64 fn, .string ⟨#[]⟩], .bool true]) (by simp [results, Tryz.results35, go_sem, Fc]) rfl ?_
        exact ⟨1, fn, ⟨#[]⟩, true, rfl, FB.out, by rw [hO3.out]; exact ⟨rfl, hfV'.out⟩⟩
end Go.Proofs.YtdfgbkilaepolaaGreatDoor
