/- Walk: the law WeighOpposes. -/
import Derived.Test.YtdfgbkilaepolaaGreatDoorPO25
namespace Go.Proofs.YtdfgbkilaepolaaGreatDoor
open Go.RowKit Go.Maps
def CellsAt (W : World) (g : Nat) (cs : Array Value) : Prop := ∀ i, W.cell? ⟨g, i, none⟩ = cs[i]?
theorem size_cw32 (r : CT) : 32 * r.size ≤ r.cw := by
  have h1 := size_node r
  have h2 := cw_node r
  have hL : ∀ ps : List CT, (∀ p ∈ ps, 32 * p.size ≤ p.cw) → 32 * sizeLc ps ≤ cwL ps := by
    intro ps
    induction ps with
    | nil => intro _; rw [sizeL_nil]; omega
    | cons p ps ih =>
      intro h
      rw [sizeL_cons, cwL_cons]
      have := h p List.mem_cons_self
      have := ih fun q hq => h q (List.mem_cons_of_mem _ hq)
      omega
  have := hL r.parts fun p hp => size_cw32 p
  omega
termination_by SizeOf.sizeOf r
decreasing_by exact partc_lt hp
theorem cv_one {W : World} {gn : Nat} {cs : List Value} {a : CT} (hA : CV W cs a) (hb : Blk W gn 28 cs.toArray) (k : Int) : CV W [.int .i64 k, .int .i64 0, .string ⟨#[]⟩, .slice (some ⟨gn, 0, none⟩) 1 1] (.node k 0 [] [a]) := by
  have hl : cs.length = 4 := by obtain ⟨_, _, _, _, _, _, e, _⟩ := hA.form; rw [e]; rfl
  refine CV.mk (s := []) (cs := cs) ⟨(show 1 ≤ maxLen by decide), .inr ⟨gn, 0, 1, rfl, Nat.le_refl _, fun i u hu => ⟨hb.lt, ?_⟩⟩⟩ (by rw [hl]; rfl) fun i p hi => ?_
  · rw [Nat.zero_add, hb.cell]; simpa using hu
  · match i, hi with
    | 0, hi =>
      obtain rfl := Option.some.inj hi
      rw [Nat.zero_mul, List.drop_zero, List.take_of_length_le (by omega)]; exact hA
theorem cv_two {W : World} {gn : Nat} {cs ds : List Value} {a b : CT} (hA : CV W cs a) (hB : CV W ds b) (hb : Blk W gn 28 (cs ++ ds).toArray) (k : Int) : CV W [.int .i64 k, .int .i64 0, .string ⟨#[]⟩, .slice (some ⟨gn, 0, none⟩) 2 2] (.node k 0 [] [a, b]) := by
  have hl : cs.length = 4 := by obtain ⟨_, _, _, _, _, _, e, _⟩ := hA.form; rw [e]; rfl
  have hl2 : ds.length = 4 := by obtain ⟨_, _, _, _, _, _, e, _⟩ := hB.form; rw [e]; rfl
  refine CV.mk (s := []) (cs := cs ++ ds) ⟨(show 2 ≤ maxLen by decide), .inr ⟨gn, 0, 2, rfl, Nat.le_refl _, fun i u hu => ⟨hb.lt, ?_⟩⟩⟩ (by rw [List.length_append, hl, hl2]; rfl) fun i p hi => ?_
  · rw [Nat.zero_add, hb.cell]; simpa using hu
  · match i, hi with
    | 0, hi =>
      obtain rfl := Option.some.inj hi
      rw [Nat.zero_mul, List.drop_zero, List.take_append_of_le_length (by omega), List.take_of_length_le (by omega)]; exact hA
    | 1, hi =>
      obtain rfl := Option.some.inj hi
      rw [show 1 * 4 = cs.length by omega, List.drop_left, List.take_of_length_le (by omega)]; exact hB
theorem cw_two (k : Int) (a b : CT) : (CT.node k 0 [] [a, b]).cw = a.cw + b.cw + 48 := by
  rw [cw_node]
  show 32 + 0 + cwL [a, b] = _
  rw [cwL_cons, cwL_cons, cwL_nil]; omega
/-- what the law says of the four values -/
theorem opp_law (a b : Int) (s : ByteArray) (f : Bool) (r : CT) (h7 : r.kind ≠ 7) (h8 : r.kind ≠ 8) (hw : r.cw ≤ 2000) :
    if (evU a b s f r).2 ≠ 0 ∨ (evU a b s f r).1.kind ≠ 1 then (evU a b s f r).2 = (evU a b s f (notC r)).2 ∨ (evU a b s f (notC r)).2 ≠ 0
    else (evU a b s f (notC r)).2 = 0 ∧ (evU a b s f r).1.n ≠ (evU a b s f (notC r)).1.n ∧ (evU a b s f (orC r (notC r))).2 = 0 ∧ (evU a b s f (andC r (notC r))).2 = 0 ∧ (evU a b s f (orC r (notC r))).1.n = 1 ∧ (evU a b s f (andC r (notC r))).1.n = 0 :=
  opposes (K := kindOf parL) (B := bookV (agL a b s f)) (oe := openE parL (agL a b s f)) (goes_open (agL_pre a b s f)) h7 h8 (by have := size_cw32 r; omega) hw
set_option maxHeartbeats 16000000 in
set_option maxRecDepth 100000 in
theorem opposes_calls (r : CT) (hf : r.fits) (cs : List Value) (w : World) (hR : CV w cs r) (hS : Std w) (a b : Int) (s : ByteArray) (f : Bool) :
    Calls Tryz.prog 4 #[.agg cs.toArray, .int .i64 a, .int .i64 b, .string s, .bool f] w fun e w' => e = .returned (.bool true) ∧ Below w.heap.size w w' := by
  obtain ⟨k, m, q, p, c, ds, rfl, hq, -, -, -⟩ := hR.form
  have hkk : r.kind = k := by rw [hq]; rfl
  obtain ⟨N, hN⟩ : ∃ N, r.parts.length = N := ⟨_, rfl⟩
  rw [hN] at hR ⊢
  clear hq hN ds
  have b0 := Blk.new w 28 #[.int .i64 k, .int .i64 m, .string q, .slice p N c]
  have B0 := (Below.refl w.heap.size w).alloc (Nat.le_refl _) (.cells #[.int .i64 k, .int .i64 m, .string q, .slice p N c] 28)
  obtain ⟨w0, e0⟩ : ∃ w0, w.alloc (.cells #[.int .i64 k, .int .i64 m, .string q, .slice p N c] 28) = w0 := ⟨_, rfl⟩
  obtain ⟨c1, ec1⟩ : ∃ c1, w.heap.size = c1 := ⟨_, rfl⟩
  rw [e0] at b0 B0
  rw [ec1] at b0
  have F := Lib.hid (fixed10_calls w0 (hS.next B0))
  have hR0 := Lib.hid (hR.later B0)
  have b0' := Lib.hid b0
  have B0' := Lib.hid B0
  have hS' := Lib.hid hS
  have hf' := Lib.hid hf
  have hkk' := Lib.hid hkk
  clear hR b0 B0 hS hf hkk
  go_enter Tryz.func4, Tryz.ntmps4
  go_wp2_with fail
  refine F.out.mono ?_
  rintro e w1 ⟨rfl, hb1⟩
  have b1 := b0'.out.below hb1 b0'.out.lt
  have B1 := B0'.out.trans (hb1.mono B0'.out.size)
  have hR1 := hR0.out.later hb1
  have FW := Lib.hid (few_calls r _ 10 w1 hR1 hf'.out (by decide) (by decide))
  have b1' := Lib.hid b1
  have B1' := Lib.hid B1
  have hR1' := Lib.hid hR1
  have b1c := b1.cell
  obtain ⟨z, hz⟩ : ∃ z, fewC r 10 = z := ⟨_, rfl⟩
  have FW2 := FW.out
  rw [hz] at FW2
  have FW3 := Lib.hid FW2
  have hz' := Lib.hid hz
  clear b1 B1 hR1 hb1 F hR0 b0' B0' FW FW2 hz e0 ec1
  go_wp2_with fail
  refine FW3.out.mono ?_
  rintro e w2 ⟨rfl, hb2⟩
  have b2 := b1'.out.below hb2 b1'.out.lt
  have B2 := B1'.out.trans (hb2.mono B1'.out.size)
  have hR2 := hR1'.out.later hb2
  have b2c := b2.cell
  have b2' := Lib.hid b2
  have B2' := Lib.hid B2
  have hR2' := Lib.hid hR2
  clear b2 B2 hR2 hb2 b1c b1' B1' hR1' FW3
  by_cases hz0 : z < 0
  · have hd : decide (z < 0) = true := decide_eq_true hz0
    go_wp2_with fail
    go_ret
    exact ⟨rfl, B2'.out⟩
  have hdz : decide (z < 0) = false := decide_eq_false hz0
  by_cases hs3 : (300 : Int) < (s.size : Int)
  · have hd : decide ((300 : Int) < (s.size : Int)) = true := decide_eq_true hs3
    go_wp2_with fail
    go_ret
    exact ⟨rfl, B2'.out⟩
  have hds : decide ((300 : Int) < (s.size : Int)) = false := decide_eq_false hs3
  by_cases hk7 : k = 7
  · subst hk7
    go_wp2_with fail
    go_ret
    exact ⟨rfl, B2'.out⟩
  have hk7b : (k == 7) = false := beq_false_of_ne hk7
  by_cases hk8 : k = 8
  · subst hk8
    go_wp2_with fail
    go_ret
    exact ⟨rfl, B2'.out⟩
  have hk8b : (k == 8) = false := beq_false_of_ne hk8
  have hcw : r.cw ≤ 2000 := by
    have h := few_cw r 10 (by rw [hz'.out]; omega)
    rw [hz'.out] at h
    omega
  have OL := Lib.hid (opp_law a b s f r (by rw [hkk'.out]; exact hk7) (by rw [hkk'.out]; exact hk8) hcw)
  have hcw' := Lib.hid hcw
  have V := Lib.hid (values_calls a b s f)
  clear hcw hz' hf'
  go_wp2_with fail
  refine (V.out w2).mono ?_
  rintro e w3 ⟨g2, rfl, hA3, hb3⟩
  have b3 := b2'.out.below hb3 b2'.out.lt
  have B3 := B2'.out.trans (hb3.mono B2'.out.size)
  have hR3 := hR2'.out.later hb3
  -- the row of the one, the Not
  have n4 := Blk.new w3 28 #[.int .i64 k, .int .i64 m, .string q, .slice p N c]
  have hb4 := (Below.refl w3.heap.size w3).alloc (Nat.le_refl _) (.cells #[.int .i64 k, .int .i64 m, .string q, .slice p N c] 28)
  obtain ⟨w4, e4⟩ : ∃ w4, w3.alloc (.cells #[.int .i64 k, .int .i64 m, .string q, .slice p N c] 28) = w4 := ⟨_, rfl⟩
  obtain ⟨gn, egn⟩ : ∃ gn, w3.heap.size = gn := ⟨_, rfl⟩
  rw [e4] at n4 hb4
  rw [egn] at n4
  have x5 := Blk.new w4 28 #[.int .i64 6, .int .i64 0, .string ⟨#[]⟩, .slice (some ⟨gn, 0, none⟩) 1 1]
  have hb5 := (Below.refl w4.heap.size w4).alloc (Nat.le_refl _) (.cells #[.int .i64 6, .int .i64 0, .string ⟨#[]⟩, .slice (some ⟨gn, 0, none⟩) 1 1] 28)
  obtain ⟨w5, e5⟩ : ∃ w5, w4.alloc (.cells #[.int .i64 6, .int .i64 0, .string ⟨#[]⟩, .slice (some ⟨gn, 0, none⟩) 1 1] 28) = w5 := ⟨_, rfl⟩
  obtain ⟨c2, ec2⟩ : ∃ c2, w4.heap.size = c2 := ⟨_, rfl⟩
  rw [e5] at x5 hb5
  rw [ec2] at x5
  have hb45 := hb4.trans (hb5.mono hb4.size)
  have b5' := Lib.hid (b3.below hb45 b3.lt)
  have B5' := Lib.hid (B3.trans (hb45.mono B3.size))
  have hR5' := Lib.hid (hR3.later hb45)
  have hA5' := Lib.hid (hA3.later hb45)
  have n5 := n4.below hb5 n4.lt
  have hN5' : Hid (CV w5 (#[.int .i64 6, .int .i64 0, .string ⟨#[]⟩, .slice (some ⟨gn, 0, none⟩) 1 1] : Array Value).toList (notC r)) := Lib.hid (cv_one (hR3.later hb45) n5 6)
  have x5' := Lib.hid x5
  have b3c := b3.cell
  have bw5 := Lib.hid (hS'.out.next B5'.out)
  clear hA3 hb3 b3 B3 hR3 n4 hb4 x5 hb5 hb45 n5 b2c b2' B2' hR2' V hS'
  go_wp2_with fail
  clear e4 e5 egn ec2 b3c hdz hds hk7b hk8b
  have EV := Lib.hid (fun (W : World) (g1 : Nat) (h : Below w5.heap.size w5 W) (hP : ParAt W g1 0 parL) => evu_calls a b s f r (by have := hcw'.out; omega) W g1 g2 _ hP (hA5'.out.later h) (hR5'.out.later h) (bw5.out.next h))
  have SS : Hid (∀ W, Below w5.heap.size w5 W → (fun W => CellsAt W c1 #[.int .i64 k, .int .i64 m, .string q, .slice p N c]) W) := Lib.hid fun W h => (b5'.out.below h b5'.out.lt).cell
  go_cut [13, 14] from 49 to 55 (fun sp se wx => RelV w5 (evU a b s f r) sp se wx)
  case first =>
    refine wp_region_y (fun W => CellsAt W c1 #[.int .i64 k, .int .i64 m, .string q, .slice p N c]) [] (.take 1 (.take 2 (.both 0 (.both 3 (.take 4 (.take 5 (.take 6 (.go 7 (.go 8 (.go 9 .done)))))) 7 (.go 3 (.take 4 (.take 5 (.take 6 (.go 8 (.go 9 .done))))))) 7 (.go 0 (.go 3 (.take 4 (.take 5 (.take 6 (.go 8 (.go 9 .done)))))))))) (by kernel_rfl) (by kernel_rfl) (by kernel_rfl) (by kernel_rfl) (fun _ _ _ _ _ h => h) (SS.out _ (Below.refl _ w5).drew) ?_
    obtain ⟨u0, hu0⟩ : ∃ u, w5.drew = u := ⟨_, rfl⟩
    have hB0 := Lib.hid ((Below.refl w5.heap.size w5).drew)
    rw [hu0] at hB0 ⊢
    clear hu0
    refine wpY_take (v := ?_) rfl (.inl ⟨by rfl, fun w' hS => ?_⟩) ?_
    rotate_left
    · (try dsimp only at hS)
      (try unfold CellsAt at hS)
      go_simp; try with_reducible rfl
    simp only [Act.put, List.setIfInBounds_toArray, List.set_cons_zero, List.set_cons_succ]
    refine wpY_take (v := ?_) rfl (.inl ⟨by rfl, fun w' hS => ?_⟩) ?_
    rotate_left
    · (try dsimp only at hS)
      (try unfold CellsAt at hS)
      go_simp; try with_reducible rfl
    simp only [Act.put, List.setIfInBounds_toArray, List.set_cons_zero, List.set_cons_succ]
    refine wpY_both rfl rfl ?_ ?_
    · go_wp2_with fail
      refine (usual_calls u0).mono ?_
      rintro e u1 ⟨g1, rfl, hPx, hb⟩
      have hB1 := Lib.hid (hB0.out.trans (hb.mono hB0.out.size))
      have hP1 := Lib.hid hPx
      clear hPx hb hB0
      go_wp2_with fail
      refine ⟨by first | exact fun _ => SS.out _ hB1.out | exact SS.out _ hB1.out, ?_⟩
      refine wpY_both rfl rfl ?_ ?_
      · go_wp2_with fail
        refine (EV.out u1 g1 hB1.out hP1.out).mono ?_
        rintro e u2 ⟨vk, vn, vs, rfl, hval, hb⟩
        have hB2 := Lib.hid (hB1.out.trans (hb.mono hB1.out.size))
        have hP2 := Lib.hid (hP1.out.later hb)
        have hval' := Lib.hid hval
        clear hval hb hB1 hP1
        go_wp2_with fail
        refine ⟨by first | exact fun _ => SS.out _ hB2.out | exact SS.out _ hB2.out, ?_⟩
        refine wpY_take (v := ?_) rfl (.inl ⟨by rfl, fun w' hS => ?_⟩) ?_
        rotate_left
        · (try dsimp only at hS)
          (try unfold CellsAt at hS)
          go_simp; try with_reducible rfl
        simp only [Act.put, List.setIfInBounds_toArray, List.set_cons_zero, List.set_cons_succ]
        refine wpY_take (v := ?_) rfl (.inl ⟨by rfl, fun w' hS => ?_⟩) ?_
        rotate_left
        · (try dsimp only at hS)
          (try unfold CellsAt at hS)
          go_simp; try with_reducible rfl
        simp only [Act.put, List.setIfInBounds_toArray, List.set_cons_zero, List.set_cons_succ]
        refine wpY_take (v := ?_) rfl (.inl ⟨by rfl, fun w' hS => ?_⟩) ?_
        rotate_left
        · (try dsimp only at hS)
          (try unfold CellsAt at hS)
          go_simp; try with_reducible rfl
        simp only [Act.put, List.setIfInBounds_toArray, List.set_cons_zero, List.set_cons_succ]
        refine wpY_go rfl ?_
        go_wp2_with fail
        have hb := (Below.refl u2.heap.size u2).alloc (Nat.le_refl _) (.cells #[.int .i64 0, .int .i64 0, .string ⟨#[]⟩] 33)
        have hN := Blk.new u2 33 #[.int .i64 0, .int .i64 0, .string ⟨#[]⟩]
        obtain ⟨u3, eu⟩ : ∃ u', u2.alloc (.cells #[.int .i64 0, .int .i64 0, .string ⟨#[]⟩] 33) = u' := ⟨_, rfl⟩
        obtain ⟨gx, hg⟩ : ∃ g, u2.heap.size = g := ⟨_, rfl⟩
        rw [eu] at hb hN ⊢
        have hgwX : w5.heap.size ≤ gx := by rw [← hg]; exact hB2.out.size
        have hB3 := Lib.hid (hB2.out.trans (hb.mono hB2.out.size))
        have hP3 := Lib.hid (hP2.out.later hb)
        rw [hg] at hN ⊢
        have hX3 := Lib.hid hN
        clear hN hb eu hg hB2 hP2
        refine ⟨by first | exact fun _ => SS.out _ hB3.out | exact SS.out _ hB3.out, ?_⟩
        refine wpY_go rfl ?_
        have gc := hX3.out.cell
        have gf := hX3.out.frozen
        go_wp2_with fail
        clear gc gf
        have hN : Blk (((u3.setCell ⟨gx, 0, none⟩ (.int .i64 vk)).setCell ⟨gx, 1, none⟩ (.int .i64 vn)).setCell ⟨gx, 2, none⟩ (.string vs)) gx 33 #[.int .i64 vk, .int .i64 vn, .string vs] := hX3.out.set3 (.int .i64 vk) (.int .i64 vn) (.string vs)
        have hM : Below w5.heap.size w5 (((u3.setCell ⟨gx, 0, none⟩ (.int .i64 vk)).setCell ⟨gx, 1, none⟩ (.int .i64 vn)).setCell ⟨gx, 2, none⟩ (.string vs)) := below_set3 hB3.out hgwX (.int .i64 vk) (.int .i64 vn) (.string vs)
        obtain ⟨u4, eu⟩ : ∃ u', (((u3.setCell ⟨gx, 0, none⟩ (.int .i64 vk)).setCell ⟨gx, 1, none⟩ (.int .i64 vn)).setCell ⟨gx, 2, none⟩ (.string vs)) = u' := ⟨_, rfl⟩
        rw [eu] at hN hM ⊢
        have hX4 := Lib.hid hN
        have hB4 := Lib.hid hM
        clear hN hM eu hX3 hB3 hP3
        refine ⟨by first | exact fun _ => SS.out _ hB4.out | exact SS.out _ hB4.out, ?_⟩
        refine wpY_go rfl ?_
        go_wp2_with fail
        refine ⟨by first | exact fun _ => SS.out _ hB4.out | exact SS.out _ hB4.out, ?_⟩
        refine wpY_done ?_
        go_wp2_with fail
        go_meet
        exact ⟨gx, vk, vn, vs, rfl, rfl, hval'.out, hX4.out, hB4.out⟩
      · go_wp2_with fail
        have hb := (Below.refl u1.heap.size u1).alloc (Nat.le_refl _) (.cells #[.int .i64 0, .int .i64 0, .string ⟨#[]⟩] 33)
        have hN := Blk.new u1 33 #[.int .i64 0, .int .i64 0, .string ⟨#[]⟩]
        obtain ⟨u6, eu⟩ : ∃ u', u1.alloc (.cells #[.int .i64 0, .int .i64 0, .string ⟨#[]⟩] 33) = u' := ⟨_, rfl⟩
        obtain ⟨gx, hg⟩ : ∃ g, u1.heap.size = g := ⟨_, rfl⟩
        rw [eu] at hb hN ⊢
        have hgwX : w5.heap.size ≤ gx := by rw [← hg]; exact hB1.out.size
        have hB6 := Lib.hid (hB1.out.trans (hb.mono hB1.out.size))
        have hP6 := Lib.hid (hP1.out.later hb)
        rw [hg] at hN ⊢
        have hX6 := Lib.hid hN
        clear hN hb eu hg hB1 hP1
        refine ⟨by first | exact fun _ => SS.out _ hB6.out | exact SS.out _ hB6.out, ?_⟩
        refine wpY_go rfl ?_
        go_wp2_with fail
        refine (EV.out u6 g1 hB6.out hP6.out).mono ?_
        rintro e u7 ⟨vk, vn, vs, rfl, hval, hb⟩
        have hB7 := Lib.hid (hB6.out.trans (hb.mono hB6.out.size))
        have hP7 := Lib.hid (hP6.out.later hb)
        have hX7 := Lib.hid (hX6.out.below hb hX6.out.lt)
        have hval' := Lib.hid hval
        clear hval hb hB6 hP6 hX6
        go_wp2_with fail
        refine ⟨by first | exact fun _ => SS.out _ hB7.out | exact SS.out _ hB7.out, ?_⟩
        refine wpY_take (v := ?_) rfl (.inl ⟨by rfl, fun w' hS => ?_⟩) ?_
        rotate_left
        · (try dsimp only at hS)
          (try unfold CellsAt at hS)
          go_simp; try with_reducible rfl
        simp only [Act.put, List.setIfInBounds_toArray, List.set_cons_zero, List.set_cons_succ]
        refine wpY_take (v := ?_) rfl (.inl ⟨by rfl, fun w' hS => ?_⟩) ?_
        rotate_left
        · (try dsimp only at hS)
          (try unfold CellsAt at hS)
          go_simp; try with_reducible rfl
        simp only [Act.put, List.setIfInBounds_toArray, List.set_cons_zero, List.set_cons_succ]
        refine wpY_take (v := ?_) rfl (.inl ⟨by rfl, fun w' hS => ?_⟩) ?_
        rotate_left
        · (try dsimp only at hS)
          (try unfold CellsAt at hS)
          go_simp; try with_reducible rfl
        simp only [Act.put, List.setIfInBounds_toArray, List.set_cons_zero, List.set_cons_succ]
        refine wpY_go rfl ?_
        have gc := hX7.out.cell
        have gf := hX7.out.frozen
        go_wp2_with fail
        clear gc gf
        have hN : Blk (((u7.setCell ⟨gx, 0, none⟩ (.int .i64 vk)).setCell ⟨gx, 1, none⟩ (.int .i64 vn)).setCell ⟨gx, 2, none⟩ (.string vs)) gx 33 #[.int .i64 vk, .int .i64 vn, .string vs] := hX7.out.set3 (.int .i64 vk) (.int .i64 vn) (.string vs)
        have hM : Below w5.heap.size w5 (((u7.setCell ⟨gx, 0, none⟩ (.int .i64 vk)).setCell ⟨gx, 1, none⟩ (.int .i64 vn)).setCell ⟨gx, 2, none⟩ (.string vs)) := below_set3 hB7.out hgwX (.int .i64 vk) (.int .i64 vn) (.string vs)
        obtain ⟨u8, eu⟩ : ∃ u', (((u7.setCell ⟨gx, 0, none⟩ (.int .i64 vk)).setCell ⟨gx, 1, none⟩ (.int .i64 vn)).setCell ⟨gx, 2, none⟩ (.string vs)) = u' := ⟨_, rfl⟩
        rw [eu] at hN hM ⊢
        have hX8 := Lib.hid hN
        have hB8 := Lib.hid hM
        clear hN hM eu hX7 hB7 hP7
        refine ⟨by first | exact fun _ => SS.out _ hB8.out | exact SS.out _ hB8.out, ?_⟩
        refine wpY_go rfl ?_
        go_wp2_with fail
        refine ⟨by first | exact fun _ => SS.out _ hB8.out | exact SS.out _ hB8.out, ?_⟩
        refine wpY_done ?_
        go_wp2_with fail
        go_meet
        exact ⟨gx, vk, vn, vs, rfl, rfl, hval'.out, hX8.out, hB8.out⟩
    · go_wp2_with fail
      have hb := (Below.refl u0.heap.size u0).alloc (Nat.le_refl _) (.cells #[.int .i64 0, .int .i64 0, .string ⟨#[]⟩] 33)
      have hN := Blk.new u0 33 #[.int .i64 0, .int .i64 0, .string ⟨#[]⟩]
      obtain ⟨u10, eu⟩ : ∃ u', u0.alloc (.cells #[.int .i64 0, .int .i64 0, .string ⟨#[]⟩] 33) = u' := ⟨_, rfl⟩
      obtain ⟨gx, hg⟩ : ∃ g, u0.heap.size = g := ⟨_, rfl⟩
      rw [eu] at hb hN ⊢
      have hgwX : w5.heap.size ≤ gx := by rw [← hg]; exact hB0.out.size
      have hB10 := Lib.hid (hB0.out.trans (hb.mono hB0.out.size))
      rw [hg] at hN ⊢
      have hX10 := Lib.hid hN
      clear hN hb eu hg hB0
      refine ⟨by first | exact fun _ => SS.out _ hB10.out | exact SS.out _ hB10.out, ?_⟩
      refine wpY_go rfl ?_
      go_wp2_with fail
      refine (usual_calls u10).mono ?_
      rintro e u11 ⟨g1, rfl, hPx, hb⟩
      have hB11 := Lib.hid (hB10.out.trans (hb.mono hB10.out.size))
      have hX11 := Lib.hid (hX10.out.below hb hX10.out.lt)
      have hP11 := Lib.hid hPx
      clear hPx hb hB10 hX10
      go_wp2_with fail
      refine ⟨by first | exact fun _ => SS.out _ hB11.out | exact SS.out _ hB11.out, ?_⟩
      refine wpY_go rfl ?_
      go_wp2_with fail
      refine (EV.out u11 g1 hB11.out hP11.out).mono ?_
      rintro e u12 ⟨vk, vn, vs, rfl, hval, hb⟩
      have hB12 := Lib.hid (hB11.out.trans (hb.mono hB11.out.size))
      have hP12 := Lib.hid (hP11.out.later hb)
      have hX12 := Lib.hid (hX11.out.below hb hX11.out.lt)
      have hval' := Lib.hid hval
      clear hval hb hB11 hP11 hX11
      go_wp2_with fail
      refine ⟨by first | exact fun _ => SS.out _ hB12.out | exact SS.out _ hB12.out, ?_⟩
      refine wpY_take (v := ?_) rfl (.inl ⟨by rfl, fun w' hS => ?_⟩) ?_
      rotate_left
      · (try dsimp only at hS)
        (try unfold CellsAt at hS)
        go_simp; try with_reducible rfl
      simp only [Act.put, List.setIfInBounds_toArray, List.set_cons_zero, List.set_cons_succ]
      refine wpY_take (v := ?_) rfl (.inl ⟨by rfl, fun w' hS => ?_⟩) ?_
      rotate_left
      · (try dsimp only at hS)
        (try unfold CellsAt at hS)
        go_simp; try with_reducible rfl
      simp only [Act.put, List.setIfInBounds_toArray, List.set_cons_zero, List.set_cons_succ]
      refine wpY_take (v := ?_) rfl (.inl ⟨by rfl, fun w' hS => ?_⟩) ?_
      rotate_left
      · (try dsimp only at hS)
        (try unfold CellsAt at hS)
        go_simp; try with_reducible rfl
      simp only [Act.put, List.setIfInBounds_toArray, List.set_cons_zero, List.set_cons_succ]
      refine wpY_go rfl ?_
      have gc := hX12.out.cell
      have gf := hX12.out.frozen
      go_wp2_with fail
      clear gc gf
      have hN : Blk (((u12.setCell ⟨gx, 0, none⟩ (.int .i64 vk)).setCell ⟨gx, 1, none⟩ (.int .i64 vn)).setCell ⟨gx, 2, none⟩ (.string vs)) gx 33 #[.int .i64 vk, .int .i64 vn, .string vs] := hX12.out.set3 (.int .i64 vk) (.int .i64 vn) (.string vs)
      have hM : Below w5.heap.size w5 (((u12.setCell ⟨gx, 0, none⟩ (.int .i64 vk)).setCell ⟨gx, 1, none⟩ (.int .i64 vn)).setCell ⟨gx, 2, none⟩ (.string vs)) := below_set3 hB12.out hgwX (.int .i64 vk) (.int .i64 vn) (.string vs)
      obtain ⟨u13, eu⟩ : ∃ u', (((u12.setCell ⟨gx, 0, none⟩ (.int .i64 vk)).setCell ⟨gx, 1, none⟩ (.int .i64 vn)).setCell ⟨gx, 2, none⟩ (.string vs)) = u' := ⟨_, rfl⟩
      rw [eu] at hN hM ⊢
      have hX13 := Lib.hid hN
      have hB13 := Lib.hid hM
      clear hN hM eu hX12 hB12 hP12
      refine ⟨by first | exact fun _ => SS.out _ hB13.out | exact SS.out _ hB13.out, ?_⟩
      refine wpY_go rfl ?_
      go_wp2_with fail
      refine ⟨by first | exact fun _ => SS.out _ hB13.out | exact SS.out _ hB13.out, ?_⟩
      refine wpY_done ?_
      go_wp2_with fail
      go_meet
      exact ⟨gx, vk, vn, vs, rfl, rfl, hval'.out, hX13.out, hB13.out⟩
  obtain ⟨gv1, k1, n1, s1, rfl, rfl, hv1, vx, hbx⟩ := hcut
  obtain ⟨w6, hnw⟩ : ∃ x, x = wc := ⟨_, rfl⟩
  subst hnw
  have hv1' := Lib.hid hv1
  have b6' := Lib.hid (b5'.out.below hbx b5'.out.lt)
  have x6' := Lib.hid (x5'.out.below hbx x5'.out.lt)
  have hN6' := Lib.hid (hN5'.out.later hbx)
  have hR6' := Lib.hid (hR5'.out.later hbx)
  have hA6' := Lib.hid (hA5'.out.later hbx)
  have B6' := Lib.hid (B5'.out.trans (hbx.mono B5'.out.size))
  have bw6 := Lib.hid (bw5.out.next hbx)
  have v1_6 := Lib.hid vx
  clear EV SS hbx vx hv1
  go_wp2_with fail
  have EV := Lib.hid (fun (W : World) (g1 : Nat) (h : Below w6.heap.size w6 W) (hP : ParAt W g1 0 parL) => evu_calls a b s f (notC r) (by have := hcw'.out; rw [cw_not]; omega) W g1 g2 _ hP (hA6'.out.later h) (hN6'.out.later h) (bw6.out.next h))
  have SS : Hid (∀ W, Below w6.heap.size w6 W → (fun W => CellsAt W c2 #[.int .i64 6, .int .i64 0, .string ⟨#[]⟩, .slice (some ⟨gn, 0, none⟩) 1 1]) W) := Lib.hid fun W h => (x6'.out.below h x6'.out.lt).cell
  go_cut [15, 16] from 56 to 62 (fun sp se wx => RelV w6 (evU a b s f (notC r)) sp se wx)
  case first =>
    refine wp_region_y (fun W => CellsAt W c2 #[.int .i64 6, .int .i64 0, .string ⟨#[]⟩, .slice (some ⟨gn, 0, none⟩) 1 1]) [] (.take 1 (.take 2 (.both 0 (.both 3 (.take 4 (.take 5 (.take 6 (.go 7 (.go 8 (.go 9 .done)))))) 7 (.go 3 (.take 4 (.take 5 (.take 6 (.go 8 (.go 9 .done))))))) 7 (.go 0 (.go 3 (.take 4 (.take 5 (.take 6 (.go 8 (.go 9 .done)))))))))) (by kernel_rfl) (by kernel_rfl) (by kernel_rfl) (by kernel_rfl) (fun _ _ _ _ _ h => h) (SS.out _ (Below.refl _ w6).drew) ?_
    obtain ⟨u0, hu0⟩ : ∃ u, w6.drew = u := ⟨_, rfl⟩
    have hB0 := Lib.hid ((Below.refl w6.heap.size w6).drew)
    rw [hu0] at hB0 ⊢
    clear hu0
    refine wpY_take (v := ?_) rfl (.inl ⟨by rfl, fun w' hS => ?_⟩) ?_
    rotate_left
    · (try dsimp only at hS)
      (try unfold CellsAt at hS)
      go_simp; try with_reducible rfl
    simp only [Act.put, List.setIfInBounds_toArray, List.set_cons_zero, List.set_cons_succ]
    refine wpY_take (v := ?_) rfl (.inl ⟨by rfl, fun w' hS => ?_⟩) ?_
    rotate_left
    · (try dsimp only at hS)
      (try unfold CellsAt at hS)
      go_simp; try with_reducible rfl
    simp only [Act.put, List.setIfInBounds_toArray, List.set_cons_zero, List.set_cons_succ]
    refine wpY_both rfl rfl ?_ ?_
    · go_wp2_with fail
      refine (usual_calls u0).mono ?_
      rintro e u1 ⟨g1, rfl, hPx, hb⟩
      have hB1 := Lib.hid (hB0.out.trans (hb.mono hB0.out.size))
      have hP1 := Lib.hid hPx
      clear hPx hb hB0
      go_wp2_with fail
      refine ⟨by first | exact fun _ => SS.out _ hB1.out | exact SS.out _ hB1.out, ?_⟩
      refine wpY_both rfl rfl ?_ ?_
      · go_wp2_with fail
        refine (EV.out u1 g1 hB1.out hP1.out).mono ?_
        rintro e u2 ⟨vk, vn, vs, rfl, hval, hb⟩
        have hB2 := Lib.hid (hB1.out.trans (hb.mono hB1.out.size))
        have hP2 := Lib.hid (hP1.out.later hb)
        have hval' := Lib.hid hval
        clear hval hb hB1 hP1
        go_wp2_with fail
        refine ⟨by first | exact fun _ => SS.out _ hB2.out | exact SS.out _ hB2.out, ?_⟩
        refine wpY_take (v := ?_) rfl (.inl ⟨by rfl, fun w' hS => ?_⟩) ?_
        rotate_left
        · (try dsimp only at hS)
          (try unfold CellsAt at hS)
          go_simp; try with_reducible rfl
        simp only [Act.put, List.setIfInBounds_toArray, List.set_cons_zero, List.set_cons_succ]
        refine wpY_take (v := ?_) rfl (.inl ⟨by rfl, fun w' hS => ?_⟩) ?_
        rotate_left
        · (try dsimp only at hS)
          (try unfold CellsAt at hS)
          go_simp; try with_reducible rfl
        simp only [Act.put, List.setIfInBounds_toArray, List.set_cons_zero, List.set_cons_succ]
        refine wpY_take (v := ?_) rfl (.inl ⟨by rfl, fun w' hS => ?_⟩) ?_
        rotate_left
        · (try dsimp only at hS)
          (try unfold CellsAt at hS)
          go_simp; try with_reducible rfl
        simp only [Act.put, List.setIfInBounds_toArray, List.set_cons_zero, List.set_cons_succ]
        refine wpY_go rfl ?_
        go_wp2_with fail
        have hb := (Below.refl u2.heap.size u2).alloc (Nat.le_refl _) (.cells #[.int .i64 0, .int .i64 0, .string ⟨#[]⟩] 33)
        have hN := Blk.new u2 33 #[.int .i64 0, .int .i64 0, .string ⟨#[]⟩]
        obtain ⟨u3, eu⟩ : ∃ u', u2.alloc (.cells #[.int .i64 0, .int .i64 0, .string ⟨#[]⟩] 33) = u' := ⟨_, rfl⟩
        obtain ⟨gx, hg⟩ : ∃ g, u2.heap.size = g := ⟨_, rfl⟩
        rw [eu] at hb hN ⊢
        have hgwX : w6.heap.size ≤ gx := by rw [← hg]; exact hB2.out.size
        have hB3 := Lib.hid (hB2.out.trans (hb.mono hB2.out.size))
        have hP3 := Lib.hid (hP2.out.later hb)
        rw [hg] at hN ⊢
        have hX3 := Lib.hid hN
        clear hN hb eu hg hB2 hP2
        refine ⟨by first | exact fun _ => SS.out _ hB3.out | exact SS.out _ hB3.out, ?_⟩
        refine wpY_go rfl ?_
        have gc := hX3.out.cell
        have gf := hX3.out.frozen
        go_wp2_with fail
        clear gc gf
        have hN : Blk (((u3.setCell ⟨gx, 0, none⟩ (.int .i64 vk)).setCell ⟨gx, 1, none⟩ (.int .i64 vn)).setCell ⟨gx, 2, none⟩ (.string vs)) gx 33 #[.int .i64 vk, .int .i64 vn, .string vs] := hX3.out.set3 (.int .i64 vk) (.int .i64 vn) (.string vs)
        have hM : Below w6.heap.size w6 (((u3.setCell ⟨gx, 0, none⟩ (.int .i64 vk)).setCell ⟨gx, 1, none⟩ (.int .i64 vn)).setCell ⟨gx, 2, none⟩ (.string vs)) := below_set3 hB3.out hgwX (.int .i64 vk) (.int .i64 vn) (.string vs)
        obtain ⟨u4, eu⟩ : ∃ u', (((u3.setCell ⟨gx, 0, none⟩ (.int .i64 vk)).setCell ⟨gx, 1, none⟩ (.int .i64 vn)).setCell ⟨gx, 2, none⟩ (.string vs)) = u' := ⟨_, rfl⟩
        rw [eu] at hN hM ⊢
        have hX4 := Lib.hid hN
        have hB4 := Lib.hid hM
        clear hN hM eu hX3 hB3 hP3
        refine ⟨by first | exact fun _ => SS.out _ hB4.out | exact SS.out _ hB4.out, ?_⟩
        refine wpY_go rfl ?_
        go_wp2_with fail
        refine ⟨by first | exact fun _ => SS.out _ hB4.out | exact SS.out _ hB4.out, ?_⟩
        refine wpY_done ?_
        go_wp2_with fail
        go_meet
        exact ⟨gx, vk, vn, vs, rfl, rfl, hval'.out, hX4.out, hB4.out⟩
      · go_wp2_with fail
        have hb := (Below.refl u1.heap.size u1).alloc (Nat.le_refl _) (.cells #[.int .i64 0, .int .i64 0, .string ⟨#[]⟩] 33)
        have hN := Blk.new u1 33 #[.int .i64 0, .int .i64 0, .string ⟨#[]⟩]
        obtain ⟨u6, eu⟩ : ∃ u', u1.alloc (.cells #[.int .i64 0, .int .i64 0, .string ⟨#[]⟩] 33) = u' := ⟨_, rfl⟩
        obtain ⟨gx, hg⟩ : ∃ g, u1.heap.size = g := ⟨_, rfl⟩
        rw [eu] at hb hN ⊢
        have hgwX : w6.heap.size ≤ gx := by rw [← hg]; exact hB1.out.size
        have hB6 := Lib.hid (hB1.out.trans (hb.mono hB1.out.size))
        have hP6 := Lib.hid (hP1.out.later hb)
        rw [hg] at hN ⊢
        have hX6 := Lib.hid hN
        clear hN hb eu hg hB1 hP1
        refine ⟨by first | exact fun _ => SS.out _ hB6.out | exact SS.out _ hB6.out, ?_⟩
        refine wpY_go rfl ?_
        go_wp2_with fail
        refine (EV.out u6 g1 hB6.out hP6.out).mono ?_
        rintro e u7 ⟨vk, vn, vs, rfl, hval, hb⟩
        have hB7 := Lib.hid (hB6.out.trans (hb.mono hB6.out.size))
        have hP7 := Lib.hid (hP6.out.later hb)
        have hX7 := Lib.hid (hX6.out.below hb hX6.out.lt)
        have hval' := Lib.hid hval
        clear hval hb hB6 hP6 hX6
        go_wp2_with fail
        refine ⟨by first | exact fun _ => SS.out _ hB7.out | exact SS.out _ hB7.out, ?_⟩
        refine wpY_take (v := ?_) rfl (.inl ⟨by rfl, fun w' hS => ?_⟩) ?_
        rotate_left
        · (try dsimp only at hS)
          (try unfold CellsAt at hS)
          go_simp; try with_reducible rfl
        simp only [Act.put, List.setIfInBounds_toArray, List.set_cons_zero, List.set_cons_succ]
        refine wpY_take (v := ?_) rfl (.inl ⟨by rfl, fun w' hS => ?_⟩) ?_
        rotate_left
        · (try dsimp only at hS)
          (try unfold CellsAt at hS)
          go_simp; try with_reducible rfl
        simp only [Act.put, List.setIfInBounds_toArray, List.set_cons_zero, List.set_cons_succ]
        refine wpY_take (v := ?_) rfl (.inl ⟨by rfl, fun w' hS => ?_⟩) ?_
        rotate_left
        · (try dsimp only at hS)
          (try unfold CellsAt at hS)
          go_simp; try with_reducible rfl
        simp only [Act.put, List.setIfInBounds_toArray, List.set_cons_zero, List.set_cons_succ]
        refine wpY_go rfl ?_
        have gc := hX7.out.cell
        have gf := hX7.out.frozen
        go_wp2_with fail
        clear gc gf
        have hN : Blk (((u7.setCell ⟨gx, 0, none⟩ (.int .i64 vk)).setCell ⟨gx, 1, none⟩ (.int .i64 vn)).setCell ⟨gx, 2, none⟩ (.string vs)) gx 33 #[.int .i64 vk, .int .i64 vn, .string vs] := hX7.out.set3 (.int .i64 vk) (.int .i64 vn) (.string vs)
        have hM : Below w6.heap.size w6 (((u7.setCell ⟨gx, 0, none⟩ (.int .i64 vk)).setCell ⟨gx, 1, none⟩ (.int .i64 vn)).setCell ⟨gx, 2, none⟩ (.string vs)) := below_set3 hB7.out hgwX (.int .i64 vk) (.int .i64 vn) (.string vs)
        obtain ⟨u8, eu⟩ : ∃ u', (((u7.setCell ⟨gx, 0, none⟩ (.int .i64 vk)).setCell ⟨gx, 1, none⟩ (.int .i64 vn)).setCell ⟨gx, 2, none⟩ (.string vs)) = u' := ⟨_, rfl⟩
        rw [eu] at hN hM ⊢
        have hX8 := Lib.hid hN
        have hB8 := Lib.hid hM
        clear hN hM eu hX7 hB7 hP7
        refine ⟨by first | exact fun _ => SS.out _ hB8.out | exact SS.out _ hB8.out, ?_⟩
        refine wpY_go rfl ?_
        go_wp2_with fail
        refine ⟨by first | exact fun _ => SS.out _ hB8.out | exact SS.out _ hB8.out, ?_⟩
        refine wpY_done ?_
        go_wp2_with fail
        go_meet
        exact ⟨gx, vk, vn, vs, rfl, rfl, hval'.out, hX8.out, hB8.out⟩
    · go_wp2_with fail
      have hb := (Below.refl u0.heap.size u0).alloc (Nat.le_refl _) (.cells #[.int .i64 0, .int .i64 0, .string ⟨#[]⟩] 33)
      have hN := Blk.new u0 33 #[.int .i64 0, .int .i64 0, .string ⟨#[]⟩]
      obtain ⟨u10, eu⟩ : ∃ u', u0.alloc (.cells #[.int .i64 0, .int .i64 0, .string ⟨#[]⟩] 33) = u' := ⟨_, rfl⟩
      obtain ⟨gx, hg⟩ : ∃ g, u0.heap.size = g := ⟨_, rfl⟩
      rw [eu] at hb hN ⊢
      have hgwX : w6.heap.size ≤ gx := by rw [← hg]; exact hB0.out.size
      have hB10 := Lib.hid (hB0.out.trans (hb.mono hB0.out.size))
      rw [hg] at hN ⊢
      have hX10 := Lib.hid hN
      clear hN hb eu hg hB0
      refine ⟨by first | exact fun _ => SS.out _ hB10.out | exact SS.out _ hB10.out, ?_⟩
      refine wpY_go rfl ?_
      go_wp2_with fail
      refine (usual_calls u10).mono ?_
      rintro e u11 ⟨g1, rfl, hPx, hb⟩
      have hB11 := Lib.hid (hB10.out.trans (hb.mono hB10.out.size))
      have hX11 := Lib.hid (hX10.out.below hb hX10.out.lt)
      have hP11 := Lib.hid hPx
      clear hPx hb hB10 hX10
      go_wp2_with fail
      refine ⟨by first | exact fun _ => SS.out _ hB11.out | exact SS.out _ hB11.out, ?_⟩
      refine wpY_go rfl ?_
      go_wp2_with fail
      refine (EV.out u11 g1 hB11.out hP11.out).mono ?_
      rintro e u12 ⟨vk, vn, vs, rfl, hval, hb⟩
      have hB12 := Lib.hid (hB11.out.trans (hb.mono hB11.out.size))
      have hP12 := Lib.hid (hP11.out.later hb)
      have hX12 := Lib.hid (hX11.out.below hb hX11.out.lt)
      have hval' := Lib.hid hval
      clear hval hb hB11 hP11 hX11
      go_wp2_with fail
      refine ⟨by first | exact fun _ => SS.out _ hB12.out | exact SS.out _ hB12.out, ?_⟩
      refine wpY_take (v := ?_) rfl (.inl ⟨by rfl, fun w' hS => ?_⟩) ?_
      rotate_left
      · (try dsimp only at hS)
        (try unfold CellsAt at hS)
        go_simp; try with_reducible rfl
      simp only [Act.put, List.setIfInBounds_toArray, List.set_cons_zero, List.set_cons_succ]
      refine wpY_take (v := ?_) rfl (.inl ⟨by rfl, fun w' hS => ?_⟩) ?_
      rotate_left
      · (try dsimp only at hS)
        (try unfold CellsAt at hS)
        go_simp; try with_reducible rfl
      simp only [Act.put, List.setIfInBounds_toArray, List.set_cons_zero, List.set_cons_succ]
      refine wpY_take (v := ?_) rfl (.inl ⟨by rfl, fun w' hS => ?_⟩) ?_
      rotate_left
      · (try dsimp only at hS)
        (try unfold CellsAt at hS)
        go_simp; try with_reducible rfl
      simp only [Act.put, List.setIfInBounds_toArray, List.set_cons_zero, List.set_cons_succ]
      refine wpY_go rfl ?_
      have gc := hX12.out.cell
      have gf := hX12.out.frozen
      go_wp2_with fail
      clear gc gf
      have hN : Blk (((u12.setCell ⟨gx, 0, none⟩ (.int .i64 vk)).setCell ⟨gx, 1, none⟩ (.int .i64 vn)).setCell ⟨gx, 2, none⟩ (.string vs)) gx 33 #[.int .i64 vk, .int .i64 vn, .string vs] := hX12.out.set3 (.int .i64 vk) (.int .i64 vn) (.string vs)
      have hM : Below w6.heap.size w6 (((u12.setCell ⟨gx, 0, none⟩ (.int .i64 vk)).setCell ⟨gx, 1, none⟩ (.int .i64 vn)).setCell ⟨gx, 2, none⟩ (.string vs)) := below_set3 hB12.out hgwX (.int .i64 vk) (.int .i64 vn) (.string vs)
      obtain ⟨u13, eu⟩ : ∃ u', (((u12.setCell ⟨gx, 0, none⟩ (.int .i64 vk)).setCell ⟨gx, 1, none⟩ (.int .i64 vn)).setCell ⟨gx, 2, none⟩ (.string vs)) = u' := ⟨_, rfl⟩
      rw [eu] at hN hM ⊢
      have hX13 := Lib.hid hN
      have hB13 := Lib.hid hM
      clear hN hM eu hX12 hB12 hP12
      refine ⟨by first | exact fun _ => SS.out _ hB13.out | exact SS.out _ hB13.out, ?_⟩
      refine wpY_go rfl ?_
      go_wp2_with fail
      refine ⟨by first | exact fun _ => SS.out _ hB13.out | exact SS.out _ hB13.out, ?_⟩
      refine wpY_done ?_
      go_wp2_with fail
      go_meet
      exact ⟨gx, vk, vn, vs, rfl, rfl, hval'.out, hX13.out, hB13.out⟩
  obtain ⟨gv2, k2, n2, s2, rfl, rfl, hv2, vx, hbx⟩ := hcut
  obtain ⟨w7, hnw⟩ : ∃ x, x = wc := ⟨_, rfl⟩
  subst hnw
  have hv2' := Lib.hid hv2
  have b7' := Lib.hid (b6'.out.below hbx b6'.out.lt)
  have x7' := Lib.hid (x6'.out.below hbx x6'.out.lt)
  have hN7' := Lib.hid (hN6'.out.later hbx)
  have hR7' := Lib.hid (hR6'.out.later hbx)
  have hA7' := Lib.hid (hA6'.out.later hbx)
  have B7' := Lib.hid (B6'.out.trans (hbx.mono B6'.out.size))
  have bw7 := Lib.hid (bw6.out.next hbx)
  have v1_7 := Lib.hid (v1_6.out.below hbx v1_6.out.lt)
  have v2_7 := Lib.hid vx
  clear EV SS hbx vx hv2
  obtain ⟨R1, hR1e⟩ : ∃ R, evU a b s f r = R := ⟨_, rfl⟩
  obtain ⟨R2, hR2e⟩ : ∃ R, evU a b s f (notC r) = R := ⟨_, rfl⟩
  have OL2 := OL.out
  rw [hR1e, hR2e] at OL2
  rw [hR1e] at hv1' ⊢
  rw [hR2e] at hv2' ⊢
  obtain ⟨V1, e1⟩ := R1
  obtain ⟨V2, e2⟩ := R2
  simp only at OL2 hv1' hv2' ⊢
  have q1 := v1_7.out.cell
  have q2 := v2_7.out.cell
  by_cases he1 : e1 = 0
  case neg =>
    have he1b : (e1 != 0) = true := by simpa using he1
    rw [if_pos (.inl he1)] at OL2
    have OL3 := Lib.hid OL2
    clear OL OL2
    by_cases hee : e1 = e2
    · subst hee
      go_wp2_with fail
      go_ret
      exact ⟨rfl, B7'.out⟩
    · have h2 : e2 ≠ 0 := by rcases OL3.out with h | h; exact absurd h hee; exact h
      have hee1 : (e1 == e2) = false := beq_false_of_ne hee
      have h2b : (e2 != 0) = true := by simpa using h2
      go_wp2_with fail
      go_ret
      exact ⟨rfl, B7'.out⟩
  subst he1
  have hV1 : V1 = ⟨k1, n1, s1.data.toList⟩ := hv1'.out
  have hV2 : V2 = ⟨k2, n2, s2.data.toList⟩ := hv2'.out
  by_cases hk1 : k1 = 1
  case neg =>
    have hk1b : (k1 != 1) = true := by simpa using hk1
    rw [if_pos (.inr (by rw [hV1]; exact hk1))] at OL2
    have OL3 := Lib.hid OL2
    clear OL OL2 hV1 hV2
    by_cases hee : (0 : Int) = e2
    · subst hee
      go_wp2_with fail
      go_ret
      exact ⟨rfl, B7'.out⟩
    · have h2 : e2 ≠ 0 := fun e => hee e.symm
      have hee1 : ((0 : Int) == e2) = false := beq_false_of_ne hee
      have h2b : (e2 != 0) = true := by simpa using h2
      go_wp2_with fail
      go_ret
      exact ⟨rfl, B7'.out⟩
  subst hk1
  rw [if_neg (by rw [hV1]; intro h; rcases h with h | h; exact h rfl; exact h rfl)] at OL2
  rw [hV1, hV2] at OL2
  obtain ⟨rfl, hne, o1, o2, o3, o4⟩ := OL2
  have hne' := Lib.hid hne
  have o1' := Lib.hid o1
  have o2' := Lib.hid o2
  have o3' := Lib.hid o3
  have o4' := Lib.hid o4
  clear hne o1 o2 o3 o4 OL hV1 hV2
  go_wp2_with fail
  clear q1 q2
  have EV := Lib.hid (fun (W : World) (g1 gy : Nat) (h : Below w7.heap.size w7 W) (hP : ParAt W g1 0 parL) (hY : Blk W gy 28 #[.int .i64 k, .int .i64 m, .string q, .slice p N c, .int .i64 6, .int .i64 0, .string ⟨#[]⟩, .slice (some ⟨gn, 0, none⟩) 1 1]) => evu_calls a b s f (orC r (notC r)) (by have := hcw'.out; show (CT.node 8 0 [] [r, notC r]).cw ≤ _; rw [cw_two, cw_not]; omega) W g1 g2 [.int .i64 8, .int .i64 0, .string ⟨#[]⟩, .slice (some ⟨gy, 0, none⟩) 2 2] hP (hA7'.out.later h) (cv_two (hR7'.out.later h) (hN7'.out.later h) hY 8) (bw7.out.next h))
  have SS : Hid (∀ W, Below w7.heap.size w7 W → (fun W => CellsAt W c1 #[.int .i64 k, .int .i64 m, .string q, .slice p N c] ∧ CellsAt W c2 #[.int .i64 6, .int .i64 0, .string ⟨#[]⟩, .slice (some ⟨gn, 0, none⟩) 1 1]) W) := Lib.hid fun W h => ⟨(b7'.out.below h b7'.out.lt).cell, (x7'.out.below h x7'.out.lt).cell⟩
  go_cut [17, 18] from 77 to 86 (fun sp se wx => RelV w7 (evU a b s f (orC r (notC r))) sp se wx)
  case first =>
    refine wp_region_y (fun W => CellsAt W c1 #[.int .i64 k, .int .i64 m, .string q, .slice p N c] ∧ CellsAt W c2 #[.int .i64 6, .int .i64 0, .string ⟨#[]⟩, .slice (some ⟨gn, 0, none⟩) 1 1]) [] (.take 1 (.take 2 (.take 5 (.three 0 (.both 3 (.take 4 (.both 6 (.take 7 (.take 8 (.take 9 (.go 10 (.go 11 (.go 12 .done)))))) 10 (.go 6 (.take 7 (.take 8 (.take 9 (.go 11 (.go 12 .done)))))))) 10 (.go 3 (.take 4 (.go 6 (.take 7 (.take 8 (.take 9 (.go 11 (.go 12 .done))))))))) 3 (.take 4 (.both 0 (.both 6 (.take 7 (.take 8 (.take 9 (.go 10 (.go 11 (.go 12 .done)))))) 10 (.go 6 (.take 7 (.take 8 (.take 9 (.go 11 (.go 12 .done))))))) 10 (.go 0 (.go 6 (.take 7 (.take 8 (.take 9 (.go 11 (.go 12 .done))))))))) 10 (.both 0 (.go 3 (.take 4 (.go 6 (.take 7 (.take 8 (.take 9 (.go 11 (.go 12 .done)))))))) 3 (.take 4 (.go 0 (.go 6 (.take 7 (.take 8 (.take 9 (.go 11 (.go 12 .done))))))))))))) (by kernel_rfl) (by kernel_rfl) (by kernel_rfl) (by kernel_rfl) (fun _ _ _ _ _ h => h) (SS.out _ (Below.refl _ w7).drew) ?_
    obtain ⟨u0, hu0⟩ : ∃ u, w7.drew = u := ⟨_, rfl⟩
    have hB0 := Lib.hid ((Below.refl w7.heap.size w7).drew)
    rw [hu0] at hB0 ⊢
    clear hu0
    refine wpY_take (v := ?_) rfl (.inl ⟨by rfl, fun w' hS => ?_⟩) ?_
    rotate_left
    · (try dsimp only at hS)
      (try unfold CellsAt at hS)
      obtain ⟨s0, s1⟩ := hS; go_simp; try with_reducible rfl
    simp only [Act.put, List.setIfInBounds_toArray, List.set_cons_zero, List.set_cons_succ]
    refine wpY_take (v := ?_) rfl (.inl ⟨by rfl, fun w' hS => ?_⟩) ?_
    rotate_left
    · (try dsimp only at hS)
      (try unfold CellsAt at hS)
      obtain ⟨s0, s1⟩ := hS; go_simp; try with_reducible rfl
    simp only [Act.put, List.setIfInBounds_toArray, List.set_cons_zero, List.set_cons_succ]
    refine wpY_take (v := ?_) rfl (.inl ⟨by rfl, fun w' hS => ?_⟩) ?_
    rotate_left
    · (try dsimp only at hS)
      (try unfold CellsAt at hS)
      obtain ⟨s0, s1⟩ := hS; go_simp; try with_reducible rfl
    simp only [Act.put, List.setIfInBounds_toArray, List.set_cons_zero, List.set_cons_succ]
    refine wpY_three rfl rfl rfl ?_ ?_ ?_
    · go_wp2_with fail
      refine (usual_calls u0).mono ?_
      rintro e u1 ⟨g1, rfl, hPx, hb⟩
      have hB1 := Lib.hid (hB0.out.trans (hb.mono hB0.out.size))
      have hP1 := Lib.hid hPx
      clear hPx hb hB0
      go_wp2_with fail
      refine ⟨by first | exact fun _ => SS.out _ hB1.out | exact SS.out _ hB1.out, ?_⟩
      refine wpY_both rfl rfl ?_ ?_
      · go_wp2_with fail
        have hb := (Below.refl u1.heap.size u1).alloc (Nat.le_refl _) (.cells #[.int .i64 k, .int .i64 m, .string q, .slice p N c, .int .i64 6, .int .i64 0, .string ⟨#[]⟩, .slice (some ⟨gn, 0, none⟩) 1 1] 28)
        have hN := Blk.new u1 28 #[.int .i64 k, .int .i64 m, .string q, .slice p N c, .int .i64 6, .int .i64 0, .string ⟨#[]⟩, .slice (some ⟨gn, 0, none⟩) 1 1]
        obtain ⟨u2, eu⟩ : ∃ u', u1.alloc (.cells #[.int .i64 k, .int .i64 m, .string q, .slice p N c, .int .i64 6, .int .i64 0, .string ⟨#[]⟩, .slice (some ⟨gn, 0, none⟩) 1 1] 28) = u' := ⟨_, rfl⟩
        obtain ⟨gy, hg⟩ : ∃ g, u1.heap.size = g := ⟨_, rfl⟩
        rw [eu] at hb hN ⊢
        have hgwY : w7.heap.size ≤ gy := by rw [← hg]; exact hB1.out.size
        have hB2 := Lib.hid (hB1.out.trans (hb.mono hB1.out.size))
        have hP2 := Lib.hid (hP1.out.later hb)
        rw [hg] at hN ⊢
        have hY2 := Lib.hid hN
        clear hN hb eu hg hB1 hP1
        refine ⟨by first | exact fun _ => SS.out _ hB2.out | exact SS.out _ hB2.out, ?_⟩
        refine wpY_take (v := ?_) rfl (.inl ⟨by rfl, fun w' hS => ?_⟩) ?_
        rotate_left
        · (try dsimp only at hS)
          (try unfold CellsAt at hS)
          obtain ⟨s0, s1⟩ := hS; go_simp; try with_reducible rfl
        simp only [Act.put, List.setIfInBounds_toArray, List.set_cons_zero, List.set_cons_succ]
        refine wpY_both rfl rfl ?_ ?_
        · go_wp2_with fail
          refine (EV.out u2 g1 gy hB2.out hP2.out hY2.out).mono ?_
          rintro e u3 ⟨vk, vn, vs, rfl, hval, hb⟩
          have hB3 := Lib.hid (hB2.out.trans (hb.mono hB2.out.size))
          have hP3 := Lib.hid (hP2.out.later hb)
          have hY3 := Lib.hid (hY2.out.below hb hY2.out.lt)
          have hval' := Lib.hid hval
          clear hval hb hB2 hP2 hY2
          go_wp2_with fail
          refine ⟨by first | exact fun _ => SS.out _ hB3.out | exact SS.out _ hB3.out, ?_⟩
          refine wpY_take (v := ?_) rfl (.inl ⟨by rfl, fun w' hS => ?_⟩) ?_
          rotate_left
          · (try dsimp only at hS)
            (try unfold CellsAt at hS)
            obtain ⟨s0, s1⟩ := hS; go_simp; try with_reducible rfl
          simp only [Act.put, List.setIfInBounds_toArray, List.set_cons_zero, List.set_cons_succ]
          refine wpY_take (v := ?_) rfl (.inl ⟨by rfl, fun w' hS => ?_⟩) ?_
          rotate_left
          · (try dsimp only at hS)
            (try unfold CellsAt at hS)
            obtain ⟨s0, s1⟩ := hS; go_simp; try with_reducible rfl
          simp only [Act.put, List.setIfInBounds_toArray, List.set_cons_zero, List.set_cons_succ]
          refine wpY_take (v := ?_) rfl (.inl ⟨by rfl, fun w' hS => ?_⟩) ?_
          rotate_left
          · (try dsimp only at hS)
            (try unfold CellsAt at hS)
            obtain ⟨s0, s1⟩ := hS; go_simp; try with_reducible rfl
          simp only [Act.put, List.setIfInBounds_toArray, List.set_cons_zero, List.set_cons_succ]
          refine wpY_go rfl ?_
          go_wp2_with fail
          have hb := (Below.refl u3.heap.size u3).alloc (Nat.le_refl _) (.cells #[.int .i64 0, .int .i64 0, .string ⟨#[]⟩] 33)
          have hN := Blk.new u3 33 #[.int .i64 0, .int .i64 0, .string ⟨#[]⟩]
          obtain ⟨u4, eu⟩ : ∃ u', u3.alloc (.cells #[.int .i64 0, .int .i64 0, .string ⟨#[]⟩] 33) = u' := ⟨_, rfl⟩
          obtain ⟨gx, hg⟩ : ∃ g, u3.heap.size = g := ⟨_, rfl⟩
          rw [eu] at hb hN ⊢
          have hgwX : w7.heap.size ≤ gx := by rw [← hg]; exact hB3.out.size
          have hB4 := Lib.hid (hB3.out.trans (hb.mono hB3.out.size))
          have hP4 := Lib.hid (hP3.out.later hb)
          have hY4 := Lib.hid (hY3.out.below hb hY3.out.lt)
          rw [hg] at hN ⊢
          have hX4 := Lib.hid hN
          clear hN hb eu hg hB3 hP3 hY3
          refine ⟨by first | exact fun _ => SS.out _ hB4.out | exact SS.out _ hB4.out, ?_⟩
          refine wpY_go rfl ?_
          have gc := hX4.out.cell
          have gf := hX4.out.frozen
          go_wp2_with fail
          clear gc gf
          have hN : Blk (((u4.setCell ⟨gx, 0, none⟩ (.int .i64 vk)).setCell ⟨gx, 1, none⟩ (.int .i64 vn)).setCell ⟨gx, 2, none⟩ (.string vs)) gx 33 #[.int .i64 vk, .int .i64 vn, .string vs] := hX4.out.set3 (.int .i64 vk) (.int .i64 vn) (.string vs)
          have hM : Below w7.heap.size w7 (((u4.setCell ⟨gx, 0, none⟩ (.int .i64 vk)).setCell ⟨gx, 1, none⟩ (.int .i64 vn)).setCell ⟨gx, 2, none⟩ (.string vs)) := below_set3 hB4.out hgwX (.int .i64 vk) (.int .i64 vn) (.string vs)
          obtain ⟨u5, eu⟩ : ∃ u', (((u4.setCell ⟨gx, 0, none⟩ (.int .i64 vk)).setCell ⟨gx, 1, none⟩ (.int .i64 vn)).setCell ⟨gx, 2, none⟩ (.string vs)) = u' := ⟨_, rfl⟩
          rw [eu] at hN hM ⊢
          have hX5 := Lib.hid hN
          have hB5 := Lib.hid hM
          clear hN hM eu hX4 hB4 hP4 hY4
          refine ⟨by first | exact fun _ => SS.out _ hB5.out | exact SS.out _ hB5.out, ?_⟩
          refine wpY_go rfl ?_
          go_wp2_with fail
          refine ⟨by first | exact fun _ => SS.out _ hB5.out | exact SS.out _ hB5.out, ?_⟩
          refine wpY_done ?_
          go_wp2_with fail
          go_meet
          exact ⟨gx, vk, vn, vs, rfl, rfl, hval'.out, hX5.out, hB5.out⟩
        · go_wp2_with fail
          have hb := (Below.refl u2.heap.size u2).alloc (Nat.le_refl _) (.cells #[.int .i64 0, .int .i64 0, .string ⟨#[]⟩] 33)
          have hN := Blk.new u2 33 #[.int .i64 0, .int .i64 0, .string ⟨#[]⟩]
          obtain ⟨u7, eu⟩ : ∃ u', u2.alloc (.cells #[.int .i64 0, .int .i64 0, .string ⟨#[]⟩] 33) = u' := ⟨_, rfl⟩
          obtain ⟨gx, hg⟩ : ∃ g, u2.heap.size = g := ⟨_, rfl⟩
          rw [eu] at hb hN ⊢
          have hgwX : w7.heap.size ≤ gx := by rw [← hg]; exact hB2.out.size
          have hB7 := Lib.hid (hB2.out.trans (hb.mono hB2.out.size))
          have hP7 := Lib.hid (hP2.out.later hb)
          have hY7 := Lib.hid (hY2.out.below hb hY2.out.lt)
          rw [hg] at hN ⊢
          have hX7 := Lib.hid hN
          clear hN hb eu hg hB2 hP2 hY2
          refine ⟨by first | exact fun _ => SS.out _ hB7.out | exact SS.out _ hB7.out, ?_⟩
          refine wpY_go rfl ?_
          go_wp2_with fail
          refine (EV.out u7 g1 gy hB7.out hP7.out hY7.out).mono ?_
          rintro e u8 ⟨vk, vn, vs, rfl, hval, hb⟩
          have hB8 := Lib.hid (hB7.out.trans (hb.mono hB7.out.size))
          have hP8 := Lib.hid (hP7.out.later hb)
          have hX8 := Lib.hid (hX7.out.below hb hX7.out.lt)
          have hY8 := Lib.hid (hY7.out.below hb hY7.out.lt)
          have hval' := Lib.hid hval
          clear hval hb hB7 hP7 hX7 hY7
          go_wp2_with fail
          refine ⟨by first | exact fun _ => SS.out _ hB8.out | exact SS.out _ hB8.out, ?_⟩
          refine wpY_take (v := ?_) rfl (.inl ⟨by rfl, fun w' hS => ?_⟩) ?_
          rotate_left
          · (try dsimp only at hS)
            (try unfold CellsAt at hS)
            obtain ⟨s0, s1⟩ := hS; go_simp; try with_reducible rfl
          simp only [Act.put, List.setIfInBounds_toArray, List.set_cons_zero, List.set_cons_succ]
          refine wpY_take (v := ?_) rfl (.inl ⟨by rfl, fun w' hS => ?_⟩) ?_
          rotate_left
          · (try dsimp only at hS)
            (try unfold CellsAt at hS)
            obtain ⟨s0, s1⟩ := hS; go_simp; try with_reducible rfl
          simp only [Act.put, List.setIfInBounds_toArray, List.set_cons_zero, List.set_cons_succ]
          refine wpY_take (v := ?_) rfl (.inl ⟨by rfl, fun w' hS => ?_⟩) ?_
          rotate_left
          · (try dsimp only at hS)
            (try unfold CellsAt at hS)
            obtain ⟨s0, s1⟩ := hS; go_simp; try with_reducible rfl
          simp only [Act.put, List.setIfInBounds_toArray, List.set_cons_zero, List.set_cons_succ]
          refine wpY_go rfl ?_
          have gc := hX8.out.cell
          have gf := hX8.out.frozen
          go_wp2_with fail
          clear gc gf
          have hN : Blk (((u8.setCell ⟨gx, 0, none⟩ (.int .i64 vk)).setCell ⟨gx, 1, none⟩ (.int .i64 vn)).setCell ⟨gx, 2, none⟩ (.string vs)) gx 33 #[.int .i64 vk, .int .i64 vn, .string vs] := hX8.out.set3 (.int .i64 vk) (.int .i64 vn) (.string vs)
          have hM : Below w7.heap.size w7 (((u8.setCell ⟨gx, 0, none⟩ (.int .i64 vk)).setCell ⟨gx, 1, none⟩ (.int .i64 vn)).setCell ⟨gx, 2, none⟩ (.string vs)) := below_set3 hB8.out hgwX (.int .i64 vk) (.int .i64 vn) (.string vs)
          obtain ⟨u9, eu⟩ : ∃ u', (((u8.setCell ⟨gx, 0, none⟩ (.int .i64 vk)).setCell ⟨gx, 1, none⟩ (.int .i64 vn)).setCell ⟨gx, 2, none⟩ (.string vs)) = u' := ⟨_, rfl⟩
          rw [eu] at hN hM ⊢
          have hX9 := Lib.hid hN
          have hB9 := Lib.hid hM
          clear hN hM eu hX8 hB8 hP8 hY8
          refine ⟨by first | exact fun _ => SS.out _ hB9.out | exact SS.out _ hB9.out, ?_⟩
          refine wpY_go rfl ?_
          go_wp2_with fail
          refine ⟨by first | exact fun _ => SS.out _ hB9.out | exact SS.out _ hB9.out, ?_⟩
          refine wpY_done ?_
          go_wp2_with fail
          go_meet
          exact ⟨gx, vk, vn, vs, rfl, rfl, hval'.out, hX9.out, hB9.out⟩
      · go_wp2_with fail
        have hb := (Below.refl u1.heap.size u1).alloc (Nat.le_refl _) (.cells #[.int .i64 0, .int .i64 0, .string ⟨#[]⟩] 33)
        have hN := Blk.new u1 33 #[.int .i64 0, .int .i64 0, .string ⟨#[]⟩]
        obtain ⟨u11, eu⟩ : ∃ u', u1.alloc (.cells #[.int .i64 0, .int .i64 0, .string ⟨#[]⟩] 33) = u' := ⟨_, rfl⟩
        obtain ⟨gx, hg⟩ : ∃ g, u1.heap.size = g := ⟨_, rfl⟩
        rw [eu] at hb hN ⊢
        have hgwX : w7.heap.size ≤ gx := by rw [← hg]; exact hB1.out.size
        have hB11 := Lib.hid (hB1.out.trans (hb.mono hB1.out.size))
        have hP11 := Lib.hid (hP1.out.later hb)
        rw [hg] at hN ⊢
        have hX11 := Lib.hid hN
        clear hN hb eu hg hB1 hP1
        refine ⟨by first | exact fun _ => SS.out _ hB11.out | exact SS.out _ hB11.out, ?_⟩
        refine wpY_go rfl ?_
        go_wp2_with fail
        have hb := (Below.refl u11.heap.size u11).alloc (Nat.le_refl _) (.cells #[.int .i64 k, .int .i64 m, .string q, .slice p N c, .int .i64 6, .int .i64 0, .string ⟨#[]⟩, .slice (some ⟨gn, 0, none⟩) 1 1] 28)
        have hN := Blk.new u11 28 #[.int .i64 k, .int .i64 m, .string q, .slice p N c, .int .i64 6, .int .i64 0, .string ⟨#[]⟩, .slice (some ⟨gn, 0, none⟩) 1 1]
        obtain ⟨u12, eu⟩ : ∃ u', u11.alloc (.cells #[.int .i64 k, .int .i64 m, .string q, .slice p N c, .int .i64 6, .int .i64 0, .string ⟨#[]⟩, .slice (some ⟨gn, 0, none⟩) 1 1] 28) = u' := ⟨_, rfl⟩
        obtain ⟨gy, hg⟩ : ∃ g, u11.heap.size = g := ⟨_, rfl⟩
        rw [eu] at hb hN ⊢
        have hgwY : w7.heap.size ≤ gy := by rw [← hg]; exact hB11.out.size
        have hB12 := Lib.hid (hB11.out.trans (hb.mono hB11.out.size))
        have hP12 := Lib.hid (hP11.out.later hb)
        have hX12 := Lib.hid (hX11.out.below hb hX11.out.lt)
        rw [hg] at hN ⊢
        have hY12 := Lib.hid hN
        clear hN hb eu hg hB11 hP11 hX11
        refine ⟨by first | exact fun _ => SS.out _ hB12.out | exact SS.out _ hB12.out, ?_⟩
        refine wpY_take (v := ?_) rfl (.inl ⟨by rfl, fun w' hS => ?_⟩) ?_
        rotate_left
        · (try dsimp only at hS)
          (try unfold CellsAt at hS)
          obtain ⟨s0, s1⟩ := hS; go_simp; try with_reducible rfl
        simp only [Act.put, List.setIfInBounds_toArray, List.set_cons_zero, List.set_cons_succ]
        refine wpY_go rfl ?_
        go_wp2_with fail
        refine (EV.out u12 g1 gy hB12.out hP12.out hY12.out).mono ?_
        rintro e u13 ⟨vk, vn, vs, rfl, hval, hb⟩
        have hB13 := Lib.hid (hB12.out.trans (hb.mono hB12.out.size))
        have hP13 := Lib.hid (hP12.out.later hb)
        have hX13 := Lib.hid (hX12.out.below hb hX12.out.lt)
        have hY13 := Lib.hid (hY12.out.below hb hY12.out.lt)
        have hval' := Lib.hid hval
        clear hval hb hB12 hP12 hX12 hY12
        go_wp2_with fail
        refine ⟨by first | exact fun _ => SS.out _ hB13.out | exact SS.out _ hB13.out, ?_⟩
        refine wpY_take (v := ?_) rfl (.inl ⟨by rfl, fun w' hS => ?_⟩) ?_
        rotate_left
        · (try dsimp only at hS)
          (try unfold CellsAt at hS)
          obtain ⟨s0, s1⟩ := hS; go_simp; try with_reducible rfl
        simp only [Act.put, List.setIfInBounds_toArray, List.set_cons_zero, List.set_cons_succ]
        refine wpY_take (v := ?_) rfl (.inl ⟨by rfl, fun w' hS => ?_⟩) ?_
        rotate_left
        · (try dsimp only at hS)
          (try unfold CellsAt at hS)
          obtain ⟨s0, s1⟩ := hS; go_simp; try with_reducible rfl
        simp only [Act.put, List.setIfInBounds_toArray, List.set_cons_zero, List.set_cons_succ]
        refine wpY_take (v := ?_) rfl (.inl ⟨by rfl, fun w' hS => ?_⟩) ?_
        rotate_left
        · (try dsimp only at hS)
          (try unfold CellsAt at hS)
          obtain ⟨s0, s1⟩ := hS; go_simp; try with_reducible rfl
        simp only [Act.put, List.setIfInBounds_toArray, List.set_cons_zero, List.set_cons_succ]
        refine wpY_go rfl ?_
        have gc := hX13.out.cell
        have gf := hX13.out.frozen
        go_wp2_with fail
        clear gc gf
        have hN : Blk (((u13.setCell ⟨gx, 0, none⟩ (.int .i64 vk)).setCell ⟨gx, 1, none⟩ (.int .i64 vn)).setCell ⟨gx, 2, none⟩ (.string vs)) gx 33 #[.int .i64 vk, .int .i64 vn, .string vs] := hX13.out.set3 (.int .i64 vk) (.int .i64 vn) (.string vs)
        have hM : Below w7.heap.size w7 (((u13.setCell ⟨gx, 0, none⟩ (.int .i64 vk)).setCell ⟨gx, 1, none⟩ (.int .i64 vn)).setCell ⟨gx, 2, none⟩ (.string vs)) := below_set3 hB13.out hgwX (.int .i64 vk) (.int .i64 vn) (.string vs)
        obtain ⟨u14, eu⟩ : ∃ u', (((u13.setCell ⟨gx, 0, none⟩ (.int .i64 vk)).setCell ⟨gx, 1, none⟩ (.int .i64 vn)).setCell ⟨gx, 2, none⟩ (.string vs)) = u' := ⟨_, rfl⟩
        rw [eu] at hN hM ⊢
        have hX14 := Lib.hid hN
        have hB14 := Lib.hid hM
        clear hN hM eu hX13 hB13 hP13 hY13
        refine ⟨by first | exact fun _ => SS.out _ hB14.out | exact SS.out _ hB14.out, ?_⟩
        refine wpY_go rfl ?_
        go_wp2_with fail
        refine ⟨by first | exact fun _ => SS.out _ hB14.out | exact SS.out _ hB14.out, ?_⟩
        refine wpY_done ?_
        go_wp2_with fail
        go_meet
        exact ⟨gx, vk, vn, vs, rfl, rfl, hval'.out, hX14.out, hB14.out⟩
    · go_wp2_with fail
      have hb := (Below.refl u0.heap.size u0).alloc (Nat.le_refl _) (.cells #[.int .i64 k, .int .i64 m, .string q, .slice p N c, .int .i64 6, .int .i64 0, .string ⟨#[]⟩, .slice (some ⟨gn, 0, none⟩) 1 1] 28)
      have hN := Blk.new u0 28 #[.int .i64 k, .int .i64 m, .string q, .slice p N c, .int .i64 6, .int .i64 0, .string ⟨#[]⟩, .slice (some ⟨gn, 0, none⟩) 1 1]
      obtain ⟨u16, eu⟩ : ∃ u', u0.alloc (.cells #[.int .i64 k, .int .i64 m, .string q, .slice p N c, .int .i64 6, .int .i64 0, .string ⟨#[]⟩, .slice (some ⟨gn, 0, none⟩) 1 1] 28) = u' := ⟨_, rfl⟩
      obtain ⟨gy, hg⟩ : ∃ g, u0.heap.size = g := ⟨_, rfl⟩
      rw [eu] at hb hN ⊢
      have hgwY : w7.heap.size ≤ gy := by rw [← hg]; exact hB0.out.size
      have hB16 := Lib.hid (hB0.out.trans (hb.mono hB0.out.size))
      rw [hg] at hN ⊢
      have hY16 := Lib.hid hN
      clear hN hb eu hg hB0
      refine ⟨by first | exact fun _ => SS.out _ hB16.out | exact SS.out _ hB16.out, ?_⟩
      refine wpY_take (v := ?_) rfl (.inl ⟨by rfl, fun w' hS => ?_⟩) ?_
      rotate_left
      · (try dsimp only at hS)
        (try unfold CellsAt at hS)
        obtain ⟨s0, s1⟩ := hS; go_simp; try with_reducible rfl
      simp only [Act.put, List.setIfInBounds_toArray, List.set_cons_zero, List.set_cons_succ]
      refine wpY_both rfl rfl ?_ ?_
      · go_wp2_with fail
        refine (usual_calls u16).mono ?_
        rintro e u17 ⟨g1, rfl, hPx, hb⟩
        have hB17 := Lib.hid (hB16.out.trans (hb.mono hB16.out.size))
        have hY17 := Lib.hid (hY16.out.below hb hY16.out.lt)
        have hP17 := Lib.hid hPx
        clear hPx hb hB16 hY16
        go_wp2_with fail
        refine ⟨by first | exact fun _ => SS.out _ hB17.out | exact SS.out _ hB17.out, ?_⟩
        refine wpY_both rfl rfl ?_ ?_
        · go_wp2_with fail
          refine (EV.out u17 g1 gy hB17.out hP17.out hY17.out).mono ?_
          rintro e u18 ⟨vk, vn, vs, rfl, hval, hb⟩
          have hB18 := Lib.hid (hB17.out.trans (hb.mono hB17.out.size))
          have hP18 := Lib.hid (hP17.out.later hb)
          have hY18 := Lib.hid (hY17.out.below hb hY17.out.lt)
          have hval' := Lib.hid hval
          clear hval hb hB17 hP17 hY17
          go_wp2_with fail
          refine ⟨by first | exact fun _ => SS.out _ hB18.out | exact SS.out _ hB18.out, ?_⟩
          refine wpY_take (v := ?_) rfl (.inl ⟨by rfl, fun w' hS => ?_⟩) ?_
          rotate_left
          · (try dsimp only at hS)
            (try unfold CellsAt at hS)
            obtain ⟨s0, s1⟩ := hS; go_simp; try with_reducible rfl
          simp only [Act.put, List.setIfInBounds_toArray, List.set_cons_zero, List.set_cons_succ]
          refine wpY_take (v := ?_) rfl (.inl ⟨by rfl, fun w' hS => ?_⟩) ?_
          rotate_left
          · (try dsimp only at hS)
            (try unfold CellsAt at hS)
            obtain ⟨s0, s1⟩ := hS; go_simp; try with_reducible rfl
          simp only [Act.put, List.setIfInBounds_toArray, List.set_cons_zero, List.set_cons_succ]
          refine wpY_take (v := ?_) rfl (.inl ⟨by rfl, fun w' hS => ?_⟩) ?_
          rotate_left
          · (try dsimp only at hS)
            (try unfold CellsAt at hS)
            obtain ⟨s0, s1⟩ := hS; go_simp; try with_reducible rfl
          simp only [Act.put, List.setIfInBounds_toArray, List.set_cons_zero, List.set_cons_succ]
          refine wpY_go rfl ?_
          go_wp2_with fail
          have hb := (Below.refl u18.heap.size u18).alloc (Nat.le_refl _) (.cells #[.int .i64 0, .int .i64 0, .string ⟨#[]⟩] 33)
          have hN := Blk.new u18 33 #[.int .i64 0, .int .i64 0, .string ⟨#[]⟩]
          obtain ⟨u19, eu⟩ : ∃ u', u18.alloc (.cells #[.int .i64 0, .int .i64 0, .string ⟨#[]⟩] 33) = u' := ⟨_, rfl⟩
          obtain ⟨gx, hg⟩ : ∃ g, u18.heap.size = g := ⟨_, rfl⟩
          rw [eu] at hb hN ⊢
          have hgwX : w7.heap.size ≤ gx := by rw [← hg]; exact hB18.out.size
          have hB19 := Lib.hid (hB18.out.trans (hb.mono hB18.out.size))
          have hP19 := Lib.hid (hP18.out.later hb)
          have hY19 := Lib.hid (hY18.out.below hb hY18.out.lt)
          rw [hg] at hN ⊢
          have hX19 := Lib.hid hN
          clear hN hb eu hg hB18 hP18 hY18
          refine ⟨by first | exact fun _ => SS.out _ hB19.out | exact SS.out _ hB19.out, ?_⟩
          refine wpY_go rfl ?_
          have gc := hX19.out.cell
          have gf := hX19.out.frozen
          go_wp2_with fail
          clear gc gf
          have hN : Blk (((u19.setCell ⟨gx, 0, none⟩ (.int .i64 vk)).setCell ⟨gx, 1, none⟩ (.int .i64 vn)).setCell ⟨gx, 2, none⟩ (.string vs)) gx 33 #[.int .i64 vk, .int .i64 vn, .string vs] := hX19.out.set3 (.int .i64 vk) (.int .i64 vn) (.string vs)
          have hM : Below w7.heap.size w7 (((u19.setCell ⟨gx, 0, none⟩ (.int .i64 vk)).setCell ⟨gx, 1, none⟩ (.int .i64 vn)).setCell ⟨gx, 2, none⟩ (.string vs)) := below_set3 hB19.out hgwX (.int .i64 vk) (.int .i64 vn) (.string vs)
          obtain ⟨u20, eu⟩ : ∃ u', (((u19.setCell ⟨gx, 0, none⟩ (.int .i64 vk)).setCell ⟨gx, 1, none⟩ (.int .i64 vn)).setCell ⟨gx, 2, none⟩ (.string vs)) = u' := ⟨_, rfl⟩
          rw [eu] at hN hM ⊢
          have hX20 := Lib.hid hN
          have hB20 := Lib.hid hM
          clear hN hM eu hX19 hB19 hP19 hY19
          refine ⟨by first | exact fun _ => SS.out _ hB20.out | exact SS.out _ hB20.out, ?_⟩
          refine wpY_go rfl ?_
          go_wp2_with fail
          refine ⟨by first | exact fun _ => SS.out _ hB20.out | exact SS.out _ hB20.out, ?_⟩
          refine wpY_done ?_
          go_wp2_with fail
          go_meet
          exact ⟨gx, vk, vn, vs, rfl, rfl, hval'.out, hX20.out, hB20.out⟩
        · go_wp2_with fail
          have hb := (Below.refl u17.heap.size u17).alloc (Nat.le_refl _) (.cells #[.int .i64 0, .int .i64 0, .string ⟨#[]⟩] 33)
          have hN := Blk.new u17 33 #[.int .i64 0, .int .i64 0, .string ⟨#[]⟩]
          obtain ⟨u22, eu⟩ : ∃ u', u17.alloc (.cells #[.int .i64 0, .int .i64 0, .string ⟨#[]⟩] 33) = u' := ⟨_, rfl⟩
          obtain ⟨gx, hg⟩ : ∃ g, u17.heap.size = g := ⟨_, rfl⟩
          rw [eu] at hb hN ⊢
          have hgwX : w7.heap.size ≤ gx := by rw [← hg]; exact hB17.out.size
          have hB22 := Lib.hid (hB17.out.trans (hb.mono hB17.out.size))
          have hP22 := Lib.hid (hP17.out.later hb)
          have hY22 := Lib.hid (hY17.out.below hb hY17.out.lt)
          rw [hg] at hN ⊢
          have hX22 := Lib.hid hN
          clear hN hb eu hg hB17 hP17 hY17
          refine ⟨by first | exact fun _ => SS.out _ hB22.out | exact SS.out _ hB22.out, ?_⟩
          refine wpY_go rfl ?_
          go_wp2_with fail
          refine (EV.out u22 g1 gy hB22.out hP22.out hY22.out).mono ?_
          rintro e u23 ⟨vk, vn, vs, rfl, hval, hb⟩
          have hB23 := Lib.hid (hB22.out.trans (hb.mono hB22.out.size))
          have hP23 := Lib.hid (hP22.out.later hb)
          have hX23 := Lib.hid (hX22.out.below hb hX22.out.lt)
          have hY23 := Lib.hid (hY22.out.below hb hY22.out.lt)
          have hval' := Lib.hid hval
          clear hval hb hB22 hP22 hX22 hY22
          go_wp2_with fail
          refine ⟨by first | exact fun _ => SS.out _ hB23.out | exact SS.out _ hB23.out, ?_⟩
          refine wpY_take (v := ?_) rfl (.inl ⟨by rfl, fun w' hS => ?_⟩) ?_
          rotate_left
          · (try dsimp only at hS)
            (try unfold CellsAt at hS)
            obtain ⟨s0, s1⟩ := hS; go_simp; try with_reducible rfl
          simp only [Act.put, List.setIfInBounds_toArray, List.set_cons_zero, List.set_cons_succ]
          refine wpY_take (v := ?_) rfl (.inl ⟨by rfl, fun w' hS => ?_⟩) ?_
          rotate_left
          · (try dsimp only at hS)
            (try unfold CellsAt at hS)
            obtain ⟨s0, s1⟩ := hS; go_simp; try with_reducible rfl
          simp only [Act.put, List.setIfInBounds_toArray, List.set_cons_zero, List.set_cons_succ]
          refine wpY_take (v := ?_) rfl (.inl ⟨by rfl, fun w' hS => ?_⟩) ?_
          rotate_left
          · (try dsimp only at hS)
            (try unfold CellsAt at hS)
            obtain ⟨s0, s1⟩ := hS; go_simp; try with_reducible rfl
          simp only [Act.put, List.setIfInBounds_toArray, List.set_cons_zero, List.set_cons_succ]
          refine wpY_go rfl ?_
          have gc := hX23.out.cell
          have gf := hX23.out.frozen
          go_wp2_with fail
          clear gc gf
          have hN : Blk (((u23.setCell ⟨gx, 0, none⟩ (.int .i64 vk)).setCell ⟨gx, 1, none⟩ (.int .i64 vn)).setCell ⟨gx, 2, none⟩ (.string vs)) gx 33 #[.int .i64 vk, .int .i64 vn, .string vs] := hX23.out.set3 (.int .i64 vk) (.int .i64 vn) (.string vs)
          have hM : Below w7.heap.size w7 (((u23.setCell ⟨gx, 0, none⟩ (.int .i64 vk)).setCell ⟨gx, 1, none⟩ (.int .i64 vn)).setCell ⟨gx, 2, none⟩ (.string vs)) := below_set3 hB23.out hgwX (.int .i64 vk) (.int .i64 vn) (.string vs)
          obtain ⟨u24, eu⟩ : ∃ u', (((u23.setCell ⟨gx, 0, none⟩ (.int .i64 vk)).setCell ⟨gx, 1, none⟩ (.int .i64 vn)).setCell ⟨gx, 2, none⟩ (.string vs)) = u' := ⟨_, rfl⟩
          rw [eu] at hN hM ⊢
          have hX24 := Lib.hid hN
          have hB24 := Lib.hid hM
          clear hN hM eu hX23 hB23 hP23 hY23
          refine ⟨by first | exact fun _ => SS.out _ hB24.out | exact SS.out _ hB24.out, ?_⟩
          refine wpY_go rfl ?_
          go_wp2_with fail
          refine ⟨by first | exact fun _ => SS.out _ hB24.out | exact SS.out _ hB24.out, ?_⟩
          refine wpY_done ?_
          go_wp2_with fail
          go_meet
          exact ⟨gx, vk, vn, vs, rfl, rfl, hval'.out, hX24.out, hB24.out⟩
      · go_wp2_with fail
        have hb := (Below.refl u16.heap.size u16).alloc (Nat.le_refl _) (.cells #[.int .i64 0, .int .i64 0, .string ⟨#[]⟩] 33)
        have hN := Blk.new u16 33 #[.int .i64 0, .int .i64 0, .string ⟨#[]⟩]
        obtain ⟨u26, eu⟩ : ∃ u', u16.alloc (.cells #[.int .i64 0, .int .i64 0, .string ⟨#[]⟩] 33) = u' := ⟨_, rfl⟩
        obtain ⟨gx, hg⟩ : ∃ g, u16.heap.size = g := ⟨_, rfl⟩
        rw [eu] at hb hN ⊢
        have hgwX : w7.heap.size ≤ gx := by rw [← hg]; exact hB16.out.size
        have hB26 := Lib.hid (hB16.out.trans (hb.mono hB16.out.size))
        have hY26 := Lib.hid (hY16.out.below hb hY16.out.lt)
        rw [hg] at hN ⊢
        have hX26 := Lib.hid hN
        clear hN hb eu hg hB16 hY16
        refine ⟨by first | exact fun _ => SS.out _ hB26.out | exact SS.out _ hB26.out, ?_⟩
        refine wpY_go rfl ?_
        go_wp2_with fail
        refine (usual_calls u26).mono ?_
        rintro e u27 ⟨g1, rfl, hPx, hb⟩
        have hB27 := Lib.hid (hB26.out.trans (hb.mono hB26.out.size))
        have hX27 := Lib.hid (hX26.out.below hb hX26.out.lt)
        have hY27 := Lib.hid (hY26.out.below hb hY26.out.lt)
        have hP27 := Lib.hid hPx
        clear hPx hb hB26 hX26 hY26
        go_wp2_with fail
        refine ⟨by first | exact fun _ => SS.out _ hB27.out | exact SS.out _ hB27.out, ?_⟩
        refine wpY_go rfl ?_
        go_wp2_with fail
        refine (EV.out u27 g1 gy hB27.out hP27.out hY27.out).mono ?_
        rintro e u28 ⟨vk, vn, vs, rfl, hval, hb⟩
        have hB28 := Lib.hid (hB27.out.trans (hb.mono hB27.out.size))
        have hP28 := Lib.hid (hP27.out.later hb)
        have hX28 := Lib.hid (hX27.out.below hb hX27.out.lt)
        have hY28 := Lib.hid (hY27.out.below hb hY27.out.lt)
        have hval' := Lib.hid hval
        clear hval hb hB27 hP27 hX27 hY27
        go_wp2_with fail
        refine ⟨by first | exact fun _ => SS.out _ hB28.out | exact SS.out _ hB28.out, ?_⟩
        refine wpY_take (v := ?_) rfl (.inl ⟨by rfl, fun w' hS => ?_⟩) ?_
        rotate_left
        · (try dsimp only at hS)
          (try unfold CellsAt at hS)
          obtain ⟨s0, s1⟩ := hS; go_simp; try with_reducible rfl
        simp only [Act.put, List.setIfInBounds_toArray, List.set_cons_zero, List.set_cons_succ]
        refine wpY_take (v := ?_) rfl (.inl ⟨by rfl, fun w' hS => ?_⟩) ?_
        rotate_left
        · (try dsimp only at hS)
          (try unfold CellsAt at hS)
          obtain ⟨s0, s1⟩ := hS; go_simp; try with_reducible rfl
        simp only [Act.put, List.setIfInBounds_toArray, List.set_cons_zero, List.set_cons_succ]
        refine wpY_take (v := ?_) rfl (.inl ⟨by rfl, fun w' hS => ?_⟩) ?_
        rotate_left
        · (try dsimp only at hS)
          (try unfold CellsAt at hS)
          obtain ⟨s0, s1⟩ := hS; go_simp; try with_reducible rfl
        simp only [Act.put, List.setIfInBounds_toArray, List.set_cons_zero, List.set_cons_succ]
        refine wpY_go rfl ?_
        have gc := hX28.out.cell
        have gf := hX28.out.frozen
        go_wp2_with fail
        clear gc gf
        have hN : Blk (((u28.setCell ⟨gx, 0, none⟩ (.int .i64 vk)).setCell ⟨gx, 1, none⟩ (.int .i64 vn)).setCell ⟨gx, 2, none⟩ (.string vs)) gx 33 #[.int .i64 vk, .int .i64 vn, .string vs] := hX28.out.set3 (.int .i64 vk) (.int .i64 vn) (.string vs)
        have hM : Below w7.heap.size w7 (((u28.setCell ⟨gx, 0, none⟩ (.int .i64 vk)).setCell ⟨gx, 1, none⟩ (.int .i64 vn)).setCell ⟨gx, 2, none⟩ (.string vs)) := below_set3 hB28.out hgwX (.int .i64 vk) (.int .i64 vn) (.string vs)
        obtain ⟨u29, eu⟩ : ∃ u', (((u28.setCell ⟨gx, 0, none⟩ (.int .i64 vk)).setCell ⟨gx, 1, none⟩ (.int .i64 vn)).setCell ⟨gx, 2, none⟩ (.string vs)) = u' := ⟨_, rfl⟩
        rw [eu] at hN hM ⊢
        have hX29 := Lib.hid hN
        have hB29 := Lib.hid hM
        clear hN hM eu hX28 hB28 hP28 hY28
        refine ⟨by first | exact fun _ => SS.out _ hB29.out | exact SS.out _ hB29.out, ?_⟩
        refine wpY_go rfl ?_
        go_wp2_with fail
        refine ⟨by first | exact fun _ => SS.out _ hB29.out | exact SS.out _ hB29.out, ?_⟩
        refine wpY_done ?_
        go_wp2_with fail
        go_meet
        exact ⟨gx, vk, vn, vs, rfl, rfl, hval'.out, hX29.out, hB29.out⟩
    · go_wp2_with fail
      have hb := (Below.refl u0.heap.size u0).alloc (Nat.le_refl _) (.cells #[.int .i64 0, .int .i64 0, .string ⟨#[]⟩] 33)
      have hN := Blk.new u0 33 #[.int .i64 0, .int .i64 0, .string ⟨#[]⟩]
      obtain ⟨u31, eu⟩ : ∃ u', u0.alloc (.cells #[.int .i64 0, .int .i64 0, .string ⟨#[]⟩] 33) = u' := ⟨_, rfl⟩
      obtain ⟨gx, hg⟩ : ∃ g, u0.heap.size = g := ⟨_, rfl⟩
      rw [eu] at hb hN ⊢
      have hgwX : w7.heap.size ≤ gx := by rw [← hg]; exact hB0.out.size
      have hB31 := Lib.hid (hB0.out.trans (hb.mono hB0.out.size))
      rw [hg] at hN ⊢
      have hX31 := Lib.hid hN
      clear hN hb eu hg hB0
      refine ⟨by first | exact fun _ => SS.out _ hB31.out | exact SS.out _ hB31.out, ?_⟩
      refine wpY_both rfl rfl ?_ ?_
      · go_wp2_with fail
        refine (usual_calls u31).mono ?_
        rintro e u32 ⟨g1, rfl, hPx, hb⟩
        have hB32 := Lib.hid (hB31.out.trans (hb.mono hB31.out.size))
        have hX32 := Lib.hid (hX31.out.below hb hX31.out.lt)
        have hP32 := Lib.hid hPx
        clear hPx hb hB31 hX31
        go_wp2_with fail
        refine ⟨by first | exact fun _ => SS.out _ hB32.out | exact SS.out _ hB32.out, ?_⟩
        refine wpY_go rfl ?_
        go_wp2_with fail
        have hb := (Below.refl u32.heap.size u32).alloc (Nat.le_refl _) (.cells #[.int .i64 k, .int .i64 m, .string q, .slice p N c, .int .i64 6, .int .i64 0, .string ⟨#[]⟩, .slice (some ⟨gn, 0, none⟩) 1 1] 28)
        have hN := Blk.new u32 28 #[.int .i64 k, .int .i64 m, .string q, .slice p N c, .int .i64 6, .int .i64 0, .string ⟨#[]⟩, .slice (some ⟨gn, 0, none⟩) 1 1]
        obtain ⟨u33, eu⟩ : ∃ u', u32.alloc (.cells #[.int .i64 k, .int .i64 m, .string q, .slice p N c, .int .i64 6, .int .i64 0, .string ⟨#[]⟩, .slice (some ⟨gn, 0, none⟩) 1 1] 28) = u' := ⟨_, rfl⟩
        obtain ⟨gy, hg⟩ : ∃ g, u32.heap.size = g := ⟨_, rfl⟩
        rw [eu] at hb hN ⊢
        have hgwY : w7.heap.size ≤ gy := by rw [← hg]; exact hB32.out.size
        have hB33 := Lib.hid (hB32.out.trans (hb.mono hB32.out.size))
        have hP33 := Lib.hid (hP32.out.later hb)
        have hX33 := Lib.hid (hX32.out.below hb hX32.out.lt)
        rw [hg] at hN ⊢
        have hY33 := Lib.hid hN
        clear hN hb eu hg hB32 hP32 hX32
        refine ⟨by first | exact fun _ => SS.out _ hB33.out | exact SS.out _ hB33.out, ?_⟩
        refine wpY_take (v := ?_) rfl (.inl ⟨by rfl, fun w' hS => ?_⟩) ?_
        rotate_left
        · (try dsimp only at hS)
          (try unfold CellsAt at hS)
          obtain ⟨s0, s1⟩ := hS; go_simp; try with_reducible rfl
        simp only [Act.put, List.setIfInBounds_toArray, List.set_cons_zero, List.set_cons_succ]
        refine wpY_go rfl ?_
        go_wp2_with fail
        refine (EV.out u33 g1 gy hB33.out hP33.out hY33.out).mono ?_
        rintro e u34 ⟨vk, vn, vs, rfl, hval, hb⟩
        have hB34 := Lib.hid (hB33.out.trans (hb.mono hB33.out.size))
        have hP34 := Lib.hid (hP33.out.later hb)
        have hX34 := Lib.hid (hX33.out.below hb hX33.out.lt)
        have hY34 := Lib.hid (hY33.out.below hb hY33.out.lt)
        have hval' := Lib.hid hval
        clear hval hb hB33 hP33 hX33 hY33
        go_wp2_with fail
        refine ⟨by first | exact fun _ => SS.out _ hB34.out | exact SS.out _ hB34.out, ?_⟩
        refine wpY_take (v := ?_) rfl (.inl ⟨by rfl, fun w' hS => ?_⟩) ?_
        rotate_left
        · (try dsimp only at hS)
          (try unfold CellsAt at hS)
          obtain ⟨s0, s1⟩ := hS; go_simp; try with_reducible rfl
        simp only [Act.put, List.setIfInBounds_toArray, List.set_cons_zero, List.set_cons_succ]
        refine wpY_take (v := ?_) rfl (.inl ⟨by rfl, fun w' hS => ?_⟩) ?_
        rotate_left
        · (try dsimp only at hS)
          (try unfold CellsAt at hS)
          obtain ⟨s0, s1⟩ := hS; go_simp; try with_reducible rfl
        simp only [Act.put, List.setIfInBounds_toArray, List.set_cons_zero, List.set_cons_succ]
        refine wpY_take (v := ?_) rfl (.inl ⟨by rfl, fun w' hS => ?_⟩) ?_
        rotate_left
        · (try dsimp only at hS)
          (try unfold CellsAt at hS)
          obtain ⟨s0, s1⟩ := hS; go_simp; try with_reducible rfl
        simp only [Act.put, List.setIfInBounds_toArray, List.set_cons_zero, List.set_cons_succ]
        refine wpY_go rfl ?_
        have gc := hX34.out.cell
        have gf := hX34.out.frozen
        go_wp2_with fail
        clear gc gf
        have hN : Blk (((u34.setCell ⟨gx, 0, none⟩ (.int .i64 vk)).setCell ⟨gx, 1, none⟩ (.int .i64 vn)).setCell ⟨gx, 2, none⟩ (.string vs)) gx 33 #[.int .i64 vk, .int .i64 vn, .string vs] := hX34.out.set3 (.int .i64 vk) (.int .i64 vn) (.string vs)
        have hM : Below w7.heap.size w7 (((u34.setCell ⟨gx, 0, none⟩ (.int .i64 vk)).setCell ⟨gx, 1, none⟩ (.int .i64 vn)).setCell ⟨gx, 2, none⟩ (.string vs)) := below_set3 hB34.out hgwX (.int .i64 vk) (.int .i64 vn) (.string vs)
        obtain ⟨u35, eu⟩ : ∃ u', (((u34.setCell ⟨gx, 0, none⟩ (.int .i64 vk)).setCell ⟨gx, 1, none⟩ (.int .i64 vn)).setCell ⟨gx, 2, none⟩ (.string vs)) = u' := ⟨_, rfl⟩
        rw [eu] at hN hM ⊢
        have hX35 := Lib.hid hN
        have hB35 := Lib.hid hM
        clear hN hM eu hX34 hB34 hP34 hY34
        refine ⟨by first | exact fun _ => SS.out _ hB35.out | exact SS.out _ hB35.out, ?_⟩
        refine wpY_go rfl ?_
        go_wp2_with fail
        refine ⟨by first | exact fun _ => SS.out _ hB35.out | exact SS.out _ hB35.out, ?_⟩
        refine wpY_done ?_
        go_wp2_with fail
        go_meet
        exact ⟨gx, vk, vn, vs, rfl, rfl, hval'.out, hX35.out, hB35.out⟩
      · go_wp2_with fail
        have hb := (Below.refl u31.heap.size u31).alloc (Nat.le_refl _) (.cells #[.int .i64 k, .int .i64 m, .string q, .slice p N c, .int .i64 6, .int .i64 0, .string ⟨#[]⟩, .slice (some ⟨gn, 0, none⟩) 1 1] 28)
        have hN := Blk.new u31 28 #[.int .i64 k, .int .i64 m, .string q, .slice p N c, .int .i64 6, .int .i64 0, .string ⟨#[]⟩, .slice (some ⟨gn, 0, none⟩) 1 1]
        obtain ⟨u37, eu⟩ : ∃ u', u31.alloc (.cells #[.int .i64 k, .int .i64 m, .string q, .slice p N c, .int .i64 6, .int .i64 0, .string ⟨#[]⟩, .slice (some ⟨gn, 0, none⟩) 1 1] 28) = u' := ⟨_, rfl⟩
        obtain ⟨gy, hg⟩ : ∃ g, u31.heap.size = g := ⟨_, rfl⟩
        rw [eu] at hb hN ⊢
        have hgwY : w7.heap.size ≤ gy := by rw [← hg]; exact hB31.out.size
        have hB37 := Lib.hid (hB31.out.trans (hb.mono hB31.out.size))
        have hX37 := Lib.hid (hX31.out.below hb hX31.out.lt)
        rw [hg] at hN ⊢
        have hY37 := Lib.hid hN
        clear hN hb eu hg hB31 hX31
        refine ⟨by first | exact fun _ => SS.out _ hB37.out | exact SS.out _ hB37.out, ?_⟩
        refine wpY_take (v := ?_) rfl (.inl ⟨by rfl, fun w' hS => ?_⟩) ?_
        rotate_left
        · (try dsimp only at hS)
          (try unfold CellsAt at hS)
          obtain ⟨s0, s1⟩ := hS; go_simp; try with_reducible rfl
        simp only [Act.put, List.setIfInBounds_toArray, List.set_cons_zero, List.set_cons_succ]
        refine wpY_go rfl ?_
        go_wp2_with fail
        refine (usual_calls u37).mono ?_
        rintro e u38 ⟨g1, rfl, hPx, hb⟩
        have hB38 := Lib.hid (hB37.out.trans (hb.mono hB37.out.size))
        have hX38 := Lib.hid (hX37.out.below hb hX37.out.lt)
        have hY38 := Lib.hid (hY37.out.below hb hY37.out.lt)
        have hP38 := Lib.hid hPx
        clear hPx hb hB37 hX37 hY37
        go_wp2_with fail
        refine ⟨by first | exact fun _ => SS.out _ hB38.out | exact SS.out _ hB38.out, ?_⟩
        refine wpY_go rfl ?_
        go_wp2_with fail
        refine (EV.out u38 g1 gy hB38.out hP38.out hY38.out).mono ?_
        rintro e u39 ⟨vk, vn, vs, rfl, hval, hb⟩
        have hB39 := Lib.hid (hB38.out.trans (hb.mono hB38.out.size))
        have hP39 := Lib.hid (hP38.out.later hb)
        have hX39 := Lib.hid (hX38.out.below hb hX38.out.lt)
        have hY39 := Lib.hid (hY38.out.below hb hY38.out.lt)
        have hval' := Lib.hid hval
        clear hval hb hB38 hP38 hX38 hY38
        go_wp2_with fail
        refine ⟨by first | exact fun _ => SS.out _ hB39.out | exact SS.out _ hB39.out, ?_⟩
        refine wpY_take (v := ?_) rfl (.inl ⟨by rfl, fun w' hS => ?_⟩) ?_
        rotate_left
        · (try dsimp only at hS)
          (try unfold CellsAt at hS)
          obtain ⟨s0, s1⟩ := hS; go_simp; try with_reducible rfl
        simp only [Act.put, List.setIfInBounds_toArray, List.set_cons_zero, List.set_cons_succ]
        refine wpY_take (v := ?_) rfl (.inl ⟨by rfl, fun w' hS => ?_⟩) ?_
        rotate_left
        · (try dsimp only at hS)
          (try unfold CellsAt at hS)
          obtain ⟨s0, s1⟩ := hS; go_simp; try with_reducible rfl
        simp only [Act.put, List.setIfInBounds_toArray, List.set_cons_zero, List.set_cons_succ]
        refine wpY_take (v := ?_) rfl (.inl ⟨by rfl, fun w' hS => ?_⟩) ?_
        rotate_left
        · (try dsimp only at hS)
          (try unfold CellsAt at hS)
          obtain ⟨s0, s1⟩ := hS; go_simp; try with_reducible rfl
        simp only [Act.put, List.setIfInBounds_toArray, List.set_cons_zero, List.set_cons_succ]
        refine wpY_go rfl ?_
        have gc := hX39.out.cell
        have gf := hX39.out.frozen
        go_wp2_with fail
        clear gc gf
        have hN : Blk (((u39.setCell ⟨gx, 0, none⟩ (.int .i64 vk)).setCell ⟨gx, 1, none⟩ (.int .i64 vn)).setCell ⟨gx, 2, none⟩ (.string vs)) gx 33 #[.int .i64 vk, .int .i64 vn, .string vs] := hX39.out.set3 (.int .i64 vk) (.int .i64 vn) (.string vs)
        have hM : Below w7.heap.size w7 (((u39.setCell ⟨gx, 0, none⟩ (.int .i64 vk)).setCell ⟨gx, 1, none⟩ (.int .i64 vn)).setCell ⟨gx, 2, none⟩ (.string vs)) := below_set3 hB39.out hgwX (.int .i64 vk) (.int .i64 vn) (.string vs)
        obtain ⟨u40, eu⟩ : ∃ u', (((u39.setCell ⟨gx, 0, none⟩ (.int .i64 vk)).setCell ⟨gx, 1, none⟩ (.int .i64 vn)).setCell ⟨gx, 2, none⟩ (.string vs)) = u' := ⟨_, rfl⟩
        rw [eu] at hN hM ⊢
        have hX40 := Lib.hid hN
        have hB40 := Lib.hid hM
        clear hN hM eu hX39 hB39 hP39 hY39
        refine ⟨by first | exact fun _ => SS.out _ hB40.out | exact SS.out _ hB40.out, ?_⟩
        refine wpY_go rfl ?_
        go_wp2_with fail
        refine ⟨by first | exact fun _ => SS.out _ hB40.out | exact SS.out _ hB40.out, ?_⟩
        refine wpY_done ?_
        go_wp2_with fail
        go_meet
        exact ⟨gx, vk, vn, vs, rfl, rfl, hval'.out, hX40.out, hB40.out⟩
  obtain ⟨gv3, k3, n3, s3, rfl, rfl, hv3, vx, hbx⟩ := hcut
  obtain ⟨w8, hnw⟩ : ∃ x, x = wc := ⟨_, rfl⟩
  subst hnw
  have hv3' := Lib.hid hv3
  have b8' := Lib.hid (b7'.out.below hbx b7'.out.lt)
  have x8' := Lib.hid (x7'.out.below hbx x7'.out.lt)
  have hN8' := Lib.hid (hN7'.out.later hbx)
  have hR8' := Lib.hid (hR7'.out.later hbx)
  have hA8' := Lib.hid (hA7'.out.later hbx)
  have B8' := Lib.hid (B7'.out.trans (hbx.mono B7'.out.size))
  have bw8 := Lib.hid (bw7.out.next hbx)
  have v1_8 := Lib.hid (v1_7.out.below hbx v1_7.out.lt)
  have v2_8 := Lib.hid (v2_7.out.below hbx v2_7.out.lt)
  have v3_8 := Lib.hid vx
  clear EV SS hbx vx hv3
  go_wp2_with fail
  have EV := Lib.hid (fun (W : World) (g1 gy : Nat) (h : Below w8.heap.size w8 W) (hP : ParAt W g1 0 parL) (hY : Blk W gy 28 #[.int .i64 k, .int .i64 m, .string q, .slice p N c, .int .i64 6, .int .i64 0, .string ⟨#[]⟩, .slice (some ⟨gn, 0, none⟩) 1 1]) => evu_calls a b s f (andC r (notC r)) (by have := hcw'.out; show (CT.node 7 0 [] [r, notC r]).cw ≤ _; rw [cw_two, cw_not]; omega) W g1 g2 [.int .i64 7, .int .i64 0, .string ⟨#[]⟩, .slice (some ⟨gy, 0, none⟩) 2 2] hP (hA8'.out.later h) (cv_two (hR8'.out.later h) (hN8'.out.later h) hY 7) (bw8.out.next h))
  have SS : Hid (∀ W, Below w8.heap.size w8 W → (fun W => CellsAt W c1 #[.int .i64 k, .int .i64 m, .string q, .slice p N c] ∧ CellsAt W c2 #[.int .i64 6, .int .i64 0, .string ⟨#[]⟩, .slice (some ⟨gn, 0, none⟩) 1 1]) W) := Lib.hid fun W h => ⟨(b8'.out.below h b8'.out.lt).cell, (x8'.out.below h x8'.out.lt).cell⟩
  go_cut [19, 20] from 87 to 96 (fun sp se wx => RelV w8 (evU a b s f (andC r (notC r))) sp se wx)
  case first =>
    refine wp_region_y (fun W => CellsAt W c1 #[.int .i64 k, .int .i64 m, .string q, .slice p N c] ∧ CellsAt W c2 #[.int .i64 6, .int .i64 0, .string ⟨#[]⟩, .slice (some ⟨gn, 0, none⟩) 1 1]) [] (.take 1 (.take 2 (.take 5 (.three 0 (.both 3 (.take 4 (.both 6 (.take 7 (.take 8 (.take 9 (.go 10 (.go 11 (.go 12 .done)))))) 10 (.go 6 (.take 7 (.take 8 (.take 9 (.go 11 (.go 12 .done)))))))) 10 (.go 3 (.take 4 (.go 6 (.take 7 (.take 8 (.take 9 (.go 11 (.go 12 .done))))))))) 3 (.take 4 (.both 0 (.both 6 (.take 7 (.take 8 (.take 9 (.go 10 (.go 11 (.go 12 .done)))))) 10 (.go 6 (.take 7 (.take 8 (.take 9 (.go 11 (.go 12 .done))))))) 10 (.go 0 (.go 6 (.take 7 (.take 8 (.take 9 (.go 11 (.go 12 .done))))))))) 10 (.both 0 (.go 3 (.take 4 (.go 6 (.take 7 (.take 8 (.take 9 (.go 11 (.go 12 .done)))))))) 3 (.take 4 (.go 0 (.go 6 (.take 7 (.take 8 (.take 9 (.go 11 (.go 12 .done))))))))))))) (by kernel_rfl) (by kernel_rfl) (by kernel_rfl) (by kernel_rfl) (fun _ _ _ _ _ h => h) (SS.out _ (Below.refl _ w8).drew) ?_
    obtain ⟨u0, hu0⟩ : ∃ u, w8.drew = u := ⟨_, rfl⟩
    have hB0 := Lib.hid ((Below.refl w8.heap.size w8).drew)
    rw [hu0] at hB0 ⊢
    clear hu0
    refine wpY_take (v := ?_) rfl (.inl ⟨by rfl, fun w' hS => ?_⟩) ?_
    rotate_left
    · (try dsimp only at hS)
      (try unfold CellsAt at hS)
      obtain ⟨s0, s1⟩ := hS; go_simp; try with_reducible rfl
    simp only [Act.put, List.setIfInBounds_toArray, List.set_cons_zero, List.set_cons_succ]
    refine wpY_take (v := ?_) rfl (.inl ⟨by rfl, fun w' hS => ?_⟩) ?_
    rotate_left
    · (try dsimp only at hS)
      (try unfold CellsAt at hS)
      obtain ⟨s0, s1⟩ := hS; go_simp; try with_reducible rfl
    simp only [Act.put, List.setIfInBounds_toArray, List.set_cons_zero, List.set_cons_succ]
    refine wpY_take (v := ?_) rfl (.inl ⟨by rfl, fun w' hS => ?_⟩) ?_
    rotate_left
    · (try dsimp only at hS)
      (try unfold CellsAt at hS)
      obtain ⟨s0, s1⟩ := hS; go_simp; try with_reducible rfl
    simp only [Act.put, List.setIfInBounds_toArray, List.set_cons_zero, List.set_cons_succ]
    refine wpY_three rfl rfl rfl ?_ ?_ ?_
    · go_wp2_with fail
      refine (usual_calls u0).mono ?_
      rintro e u1 ⟨g1, rfl, hPx, hb⟩
      have hB1 := Lib.hid (hB0.out.trans (hb.mono hB0.out.size))
      have hP1 := Lib.hid hPx
      clear hPx hb hB0
      go_wp2_with fail
      refine ⟨by first | exact fun _ => SS.out _ hB1.out | exact SS.out _ hB1.out, ?_⟩
      refine wpY_both rfl rfl ?_ ?_
      · go_wp2_with fail
        have hb := (Below.refl u1.heap.size u1).alloc (Nat.le_refl _) (.cells #[.int .i64 k, .int .i64 m, .string q, .slice p N c, .int .i64 6, .int .i64 0, .string ⟨#[]⟩, .slice (some ⟨gn, 0, none⟩) 1 1] 28)
        have hN := Blk.new u1 28 #[.int .i64 k, .int .i64 m, .string q, .slice p N c, .int .i64 6, .int .i64 0, .string ⟨#[]⟩, .slice (some ⟨gn, 0, none⟩) 1 1]
        obtain ⟨u2, eu⟩ : ∃ u', u1.alloc (.cells #[.int .i64 k, .int .i64 m, .string q, .slice p N c, .int .i64 6, .int .i64 0, .string ⟨#[]⟩, .slice (some ⟨gn, 0, none⟩) 1 1] 28) = u' := ⟨_, rfl⟩
        obtain ⟨gy, hg⟩ : ∃ g, u1.heap.size = g := ⟨_, rfl⟩
        rw [eu] at hb hN ⊢
        have hgwY : w8.heap.size ≤ gy := by rw [← hg]; exact hB1.out.size
        have hB2 := Lib.hid (hB1.out.trans (hb.mono hB1.out.size))
        have hP2 := Lib.hid (hP1.out.later hb)
        rw [hg] at hN ⊢
        have hY2 := Lib.hid hN
        clear hN hb eu hg hB1 hP1
        refine ⟨by first | exact fun _ => SS.out _ hB2.out | exact SS.out _ hB2.out, ?_⟩
        refine wpY_take (v := ?_) rfl (.inl ⟨by rfl, fun w' hS => ?_⟩) ?_
        rotate_left
        · (try dsimp only at hS)
          (try unfold CellsAt at hS)
          obtain ⟨s0, s1⟩ := hS; go_simp; try with_reducible rfl
        simp only [Act.put, List.setIfInBounds_toArray, List.set_cons_zero, List.set_cons_succ]
        refine wpY_both rfl rfl ?_ ?_
        · go_wp2_with fail
          refine (EV.out u2 g1 gy hB2.out hP2.out hY2.out).mono ?_
          rintro e u3 ⟨vk, vn, vs, rfl, hval, hb⟩
          have hB3 := Lib.hid (hB2.out.trans (hb.mono hB2.out.size))
          have hP3 := Lib.hid (hP2.out.later hb)
          have hY3 := Lib.hid (hY2.out.below hb hY2.out.lt)
          have hval' := Lib.hid hval
          clear hval hb hB2 hP2 hY2
          go_wp2_with fail
          refine ⟨by first | exact fun _ => SS.out _ hB3.out | exact SS.out _ hB3.out, ?_⟩
          refine wpY_take (v := ?_) rfl (.inl ⟨by rfl, fun w' hS => ?_⟩) ?_
          rotate_left
          · (try dsimp only at hS)
            (try unfold CellsAt at hS)
            obtain ⟨s0, s1⟩ := hS; go_simp; try with_reducible rfl
          simp only [Act.put, List.setIfInBounds_toArray, List.set_cons_zero, List.set_cons_succ]
          refine wpY_take (v := ?_) rfl (.inl ⟨by rfl, fun w' hS => ?_⟩) ?_
          rotate_left
          · (try dsimp only at hS)
            (try unfold CellsAt at hS)
            obtain ⟨s0, s1⟩ := hS; go_simp; try with_reducible rfl
          simp only [Act.put, List.setIfInBounds_toArray, List.set_cons_zero, List.set_cons_succ]
          refine wpY_take (v := ?_) rfl (.inl ⟨by rfl, fun w' hS => ?_⟩) ?_
          rotate_left
          · (try dsimp only at hS)
            (try unfold CellsAt at hS)
            obtain ⟨s0, s1⟩ := hS; go_simp; try with_reducible rfl
          simp only [Act.put, List.setIfInBounds_toArray, List.set_cons_zero, List.set_cons_succ]
          refine wpY_go rfl ?_
          go_wp2_with fail
          have hb := (Below.refl u3.heap.size u3).alloc (Nat.le_refl _) (.cells #[.int .i64 0, .int .i64 0, .string ⟨#[]⟩] 33)
          have hN := Blk.new u3 33 #[.int .i64 0, .int .i64 0, .string ⟨#[]⟩]
          obtain ⟨u4, eu⟩ : ∃ u', u3.alloc (.cells #[.int .i64 0, .int .i64 0, .string ⟨#[]⟩] 33) = u' := ⟨_, rfl⟩
          obtain ⟨gx, hg⟩ : ∃ g, u3.heap.size = g := ⟨_, rfl⟩
          rw [eu] at hb hN ⊢
          have hgwX : w8.heap.size ≤ gx := by rw [← hg]; exact hB3.out.size
          have hB4 := Lib.hid (hB3.out.trans (hb.mono hB3.out.size))
          have hP4 := Lib.hid (hP3.out.later hb)
          have hY4 := Lib.hid (hY3.out.below hb hY3.out.lt)
          rw [hg] at hN ⊢
          have hX4 := Lib.hid hN
          clear hN hb eu hg hB3 hP3 hY3
          refine ⟨by first | exact fun _ => SS.out _ hB4.out | exact SS.out _ hB4.out, ?_⟩
          refine wpY_go rfl ?_
          have gc := hX4.out.cell
          have gf := hX4.out.frozen
          go_wp2_with fail
          clear gc gf
          have hN : Blk (((u4.setCell ⟨gx, 0, none⟩ (.int .i64 vk)).setCell ⟨gx, 1, none⟩ (.int .i64 vn)).setCell ⟨gx, 2, none⟩ (.string vs)) gx 33 #[.int .i64 vk, .int .i64 vn, .string vs] := hX4.out.set3 (.int .i64 vk) (.int .i64 vn) (.string vs)
          have hM : Below w8.heap.size w8 (((u4.setCell ⟨gx, 0, none⟩ (.int .i64 vk)).setCell ⟨gx, 1, none⟩ (.int .i64 vn)).setCell ⟨gx, 2, none⟩ (.string vs)) := below_set3 hB4.out hgwX (.int .i64 vk) (.int .i64 vn) (.string vs)
          obtain ⟨u5, eu⟩ : ∃ u', (((u4.setCell ⟨gx, 0, none⟩ (.int .i64 vk)).setCell ⟨gx, 1, none⟩ (.int .i64 vn)).setCell ⟨gx, 2, none⟩ (.string vs)) = u' := ⟨_, rfl⟩
          rw [eu] at hN hM ⊢
          have hX5 := Lib.hid hN
          have hB5 := Lib.hid hM
          clear hN hM eu hX4 hB4 hP4 hY4
          refine ⟨by first | exact fun _ => SS.out _ hB5.out | exact SS.out _ hB5.out, ?_⟩
          refine wpY_go rfl ?_
          go_wp2_with fail
          refine ⟨by first | exact fun _ => SS.out _ hB5.out | exact SS.out _ hB5.out, ?_⟩
          refine wpY_done ?_
          go_wp2_with fail
          go_meet
          exact ⟨gx, vk, vn, vs, rfl, rfl, hval'.out, hX5.out, hB5.out⟩
        · go_wp2_with fail
          have hb := (Below.refl u2.heap.size u2).alloc (Nat.le_refl _) (.cells #[.int .i64 0, .int .i64 0, .string ⟨#[]⟩] 33)
          have hN := Blk.new u2 33 #[.int .i64 0, .int .i64 0, .string ⟨#[]⟩]
          obtain ⟨u7, eu⟩ : ∃ u', u2.alloc (.cells #[.int .i64 0, .int .i64 0, .string ⟨#[]⟩] 33) = u' := ⟨_, rfl⟩
          obtain ⟨gx, hg⟩ : ∃ g, u2.heap.size = g := ⟨_, rfl⟩
          rw [eu] at hb hN ⊢
          have hgwX : w8.heap.size ≤ gx := by rw [← hg]; exact hB2.out.size
          have hB7 := Lib.hid (hB2.out.trans (hb.mono hB2.out.size))
          have hP7 := Lib.hid (hP2.out.later hb)
          have hY7 := Lib.hid (hY2.out.below hb hY2.out.lt)
          rw [hg] at hN ⊢
          have hX7 := Lib.hid hN
          clear hN hb eu hg hB2 hP2 hY2
          refine ⟨by first | exact fun _ => SS.out _ hB7.out | exact SS.out _ hB7.out, ?_⟩
          refine wpY_go rfl ?_
          go_wp2_with fail
          refine (EV.out u7 g1 gy hB7.out hP7.out hY7.out).mono ?_
          rintro e u8 ⟨vk, vn, vs, rfl, hval, hb⟩
          have hB8 := Lib.hid (hB7.out.trans (hb.mono hB7.out.size))
          have hP8 := Lib.hid (hP7.out.later hb)
          have hX8 := Lib.hid (hX7.out.below hb hX7.out.lt)
          have hY8 := Lib.hid (hY7.out.below hb hY7.out.lt)
          have hval' := Lib.hid hval
          clear hval hb hB7 hP7 hX7 hY7
          go_wp2_with fail
          refine ⟨by first | exact fun _ => SS.out _ hB8.out | exact SS.out _ hB8.out, ?_⟩
          refine wpY_take (v := ?_) rfl (.inl ⟨by rfl, fun w' hS => ?_⟩) ?_
          rotate_left
          · (try dsimp only at hS)
            (try unfold CellsAt at hS)
            obtain ⟨s0, s1⟩ := hS; go_simp; try with_reducible rfl
          simp only [Act.put, List.setIfInBounds_toArray, List.set_cons_zero, List.set_cons_succ]
          refine wpY_take (v := ?_) rfl (.inl ⟨by rfl, fun w' hS => ?_⟩) ?_
          rotate_left
          · (try dsimp only at hS)
            (try unfold CellsAt at hS)
            obtain ⟨s0, s1⟩ := hS; go_simp; try with_reducible rfl
          simp only [Act.put, List.setIfInBounds_toArray, List.set_cons_zero, List.set_cons_succ]
          refine wpY_take (v := ?_) rfl (.inl ⟨by rfl, fun w' hS => ?_⟩) ?_
          rotate_left
          · (try dsimp only at hS)
            (try unfold CellsAt at hS)
            obtain ⟨s0, s1⟩ := hS; go_simp; try with_reducible rfl
          simp only [Act.put, List.setIfInBounds_toArray, List.set_cons_zero, List.set_cons_succ]
          refine wpY_go rfl ?_
          have gc := hX8.out.cell
          have gf := hX8.out.frozen
          go_wp2_with fail
          clear gc gf
          have hN : Blk (((u8.setCell ⟨gx, 0, none⟩ (.int .i64 vk)).setCell ⟨gx, 1, none⟩ (.int .i64 vn)).setCell ⟨gx, 2, none⟩ (.string vs)) gx 33 #[.int .i64 vk, .int .i64 vn, .string vs] := hX8.out.set3 (.int .i64 vk) (.int .i64 vn) (.string vs)
          have hM : Below w8.heap.size w8 (((u8.setCell ⟨gx, 0, none⟩ (.int .i64 vk)).setCell ⟨gx, 1, none⟩ (.int .i64 vn)).setCell ⟨gx, 2, none⟩ (.string vs)) := below_set3 hB8.out hgwX (.int .i64 vk) (.int .i64 vn) (.string vs)
          obtain ⟨u9, eu⟩ : ∃ u', (((u8.setCell ⟨gx, 0, none⟩ (.int .i64 vk)).setCell ⟨gx, 1, none⟩ (.int .i64 vn)).setCell ⟨gx, 2, none⟩ (.string vs)) = u' := ⟨_, rfl⟩
          rw [eu] at hN hM ⊢
          have hX9 := Lib.hid hN
          have hB9 := Lib.hid hM
          clear hN hM eu hX8 hB8 hP8 hY8
          refine ⟨by first | exact fun _ => SS.out _ hB9.out | exact SS.out _ hB9.out, ?_⟩
          refine wpY_go rfl ?_
          go_wp2_with fail
          refine ⟨by first | exact fun _ => SS.out _ hB9.out | exact SS.out _ hB9.out, ?_⟩
          refine wpY_done ?_
          go_wp2_with fail
          go_meet
          exact ⟨gx, vk, vn, vs, rfl, rfl, hval'.out, hX9.out, hB9.out⟩
      · go_wp2_with fail
        have hb := (Below.refl u1.heap.size u1).alloc (Nat.le_refl _) (.cells #[.int .i64 0, .int .i64 0, .string ⟨#[]⟩] 33)
        have hN := Blk.new u1 33 #[.int .i64 0, .int .i64 0, .string ⟨#[]⟩]
        obtain ⟨u11, eu⟩ : ∃ u', u1.alloc (.cells #[.int .i64 0, .int .i64 0, .string ⟨#[]⟩] 33) = u' := ⟨_, rfl⟩
        obtain ⟨gx, hg⟩ : ∃ g, u1.heap.size = g := ⟨_, rfl⟩
        rw [eu] at hb hN ⊢
        have hgwX : w8.heap.size ≤ gx := by rw [← hg]; exact hB1.out.size
        have hB11 := Lib.hid (hB1.out.trans (hb.mono hB1.out.size))
        have hP11 := Lib.hid (hP1.out.later hb)
        rw [hg] at hN ⊢
        have hX11 := Lib.hid hN
        clear hN hb eu hg hB1 hP1
        refine ⟨by first | exact fun _ => SS.out _ hB11.out | exact SS.out _ hB11.out, ?_⟩
        refine wpY_go rfl ?_
        go_wp2_with fail
        have hb := (Below.refl u11.heap.size u11).alloc (Nat.le_refl _) (.cells #[.int .i64 k, .int .i64 m, .string q, .slice p N c, .int .i64 6, .int .i64 0, .string ⟨#[]⟩, .slice (some ⟨gn, 0, none⟩) 1 1] 28)
        have hN := Blk.new u11 28 #[.int .i64 k, .int .i64 m, .string q, .slice p N c, .int .i64 6, .int .i64 0, .string ⟨#[]⟩, .slice (some ⟨gn, 0, none⟩) 1 1]
        obtain ⟨u12, eu⟩ : ∃ u', u11.alloc (.cells #[.int .i64 k, .int .i64 m, .string q, .slice p N c, .int .i64 6, .int .i64 0, .string ⟨#[]⟩, .slice (some ⟨gn, 0, none⟩) 1 1] 28) = u' := ⟨_, rfl⟩
        obtain ⟨gy, hg⟩ : ∃ g, u11.heap.size = g := ⟨_, rfl⟩
        rw [eu] at hb hN ⊢
        have hgwY : w8.heap.size ≤ gy := by rw [← hg]; exact hB11.out.size
        have hB12 := Lib.hid (hB11.out.trans (hb.mono hB11.out.size))
        have hP12 := Lib.hid (hP11.out.later hb)
        have hX12 := Lib.hid (hX11.out.below hb hX11.out.lt)
        rw [hg] at hN ⊢
        have hY12 := Lib.hid hN
        clear hN hb eu hg hB11 hP11 hX11
        refine ⟨by first | exact fun _ => SS.out _ hB12.out | exact SS.out _ hB12.out, ?_⟩
        refine wpY_take (v := ?_) rfl (.inl ⟨by rfl, fun w' hS => ?_⟩) ?_
        rotate_left
        · (try dsimp only at hS)
          (try unfold CellsAt at hS)
          obtain ⟨s0, s1⟩ := hS; go_simp; try with_reducible rfl
        simp only [Act.put, List.setIfInBounds_toArray, List.set_cons_zero, List.set_cons_succ]
        refine wpY_go rfl ?_
        go_wp2_with fail
        refine (EV.out u12 g1 gy hB12.out hP12.out hY12.out).mono ?_
        rintro e u13 ⟨vk, vn, vs, rfl, hval, hb⟩
        have hB13 := Lib.hid (hB12.out.trans (hb.mono hB12.out.size))
        have hP13 := Lib.hid (hP12.out.later hb)
        have hX13 := Lib.hid (hX12.out.below hb hX12.out.lt)
        have hY13 := Lib.hid (hY12.out.below hb hY12.out.lt)
        have hval' := Lib.hid hval
        clear hval hb hB12 hP12 hX12 hY12
        go_wp2_with fail
        refine ⟨by first | exact fun _ => SS.out _ hB13.out | exact SS.out _ hB13.out, ?_⟩
        refine wpY_take (v := ?_) rfl (.inl ⟨by rfl, fun w' hS => ?_⟩) ?_
        rotate_left
        · (try dsimp only at hS)
          (try unfold CellsAt at hS)
          obtain ⟨s0, s1⟩ := hS; go_simp; try with_reducible rfl
        simp only [Act.put, List.setIfInBounds_toArray, List.set_cons_zero, List.set_cons_succ]
        refine wpY_take (v := ?_) rfl (.inl ⟨by rfl, fun w' hS => ?_⟩) ?_
        rotate_left
        · (try dsimp only at hS)
          (try unfold CellsAt at hS)
          obtain ⟨s0, s1⟩ := hS; go_simp; try with_reducible rfl
        simp only [Act.put, List.setIfInBounds_toArray, List.set_cons_zero, List.set_cons_succ]
        refine wpY_take (v := ?_) rfl (.inl ⟨by rfl, fun w' hS => ?_⟩) ?_
        rotate_left
        · (try dsimp only at hS)
          (try unfold CellsAt at hS)
          obtain ⟨s0, s1⟩ := hS; go_simp; try with_reducible rfl
        simp only [Act.put, List.setIfInBounds_toArray, List.set_cons_zero, List.set_cons_succ]
        refine wpY_go rfl ?_
        have gc := hX13.out.cell
        have gf := hX13.out.frozen
        go_wp2_with fail
        clear gc gf
        have hN : Blk (((u13.setCell ⟨gx, 0, none⟩ (.int .i64 vk)).setCell ⟨gx, 1, none⟩ (.int .i64 vn)).setCell ⟨gx, 2, none⟩ (.string vs)) gx 33 #[.int .i64 vk, .int .i64 vn, .string vs] := hX13.out.set3 (.int .i64 vk) (.int .i64 vn) (.string vs)
        have hM : Below w8.heap.size w8 (((u13.setCell ⟨gx, 0, none⟩ (.int .i64 vk)).setCell ⟨gx, 1, none⟩ (.int .i64 vn)).setCell ⟨gx, 2, none⟩ (.string vs)) := below_set3 hB13.out hgwX (.int .i64 vk) (.int .i64 vn) (.string vs)
        obtain ⟨u14, eu⟩ : ∃ u', (((u13.setCell ⟨gx, 0, none⟩ (.int .i64 vk)).setCell ⟨gx, 1, none⟩ (.int .i64 vn)).setCell ⟨gx, 2, none⟩ (.string vs)) = u' := ⟨_, rfl⟩
        rw [eu] at hN hM ⊢
        have hX14 := Lib.hid hN
        have hB14 := Lib.hid hM
        clear hN hM eu hX13 hB13 hP13 hY13
        refine ⟨by first | exact fun _ => SS.out _ hB14.out | exact SS.out _ hB14.out, ?_⟩
        refine wpY_go rfl ?_
        go_wp2_with fail
        refine ⟨by first | exact fun _ => SS.out _ hB14.out | exact SS.out _ hB14.out, ?_⟩
        refine wpY_done ?_
        go_wp2_with fail
        go_meet
        exact ⟨gx, vk, vn, vs, rfl, rfl, hval'.out, hX14.out, hB14.out⟩
    · go_wp2_with fail
      have hb := (Below.refl u0.heap.size u0).alloc (Nat.le_refl _) (.cells #[.int .i64 k, .int .i64 m, .string q, .slice p N c, .int .i64 6, .int .i64 0, .string ⟨#[]⟩, .slice (some ⟨gn, 0, none⟩) 1 1] 28)
      have hN := Blk.new u0 28 #[.int .i64 k, .int .i64 m, .string q, .slice p N c, .int .i64 6, .int .i64 0, .string ⟨#[]⟩, .slice (some ⟨gn, 0, none⟩) 1 1]
      obtain ⟨u16, eu⟩ : ∃ u', u0.alloc (.cells #[.int .i64 k, .int .i64 m, .string q, .slice p N c, .int .i64 6, .int .i64 0, .string ⟨#[]⟩, .slice (some ⟨gn, 0, none⟩) 1 1] 28) = u' := ⟨_, rfl⟩
      obtain ⟨gy, hg⟩ : ∃ g, u0.heap.size = g := ⟨_, rfl⟩
      rw [eu] at hb hN ⊢
      have hgwY : w8.heap.size ≤ gy := by rw [← hg]; exact hB0.out.size
      have hB16 := Lib.hid (hB0.out.trans (hb.mono hB0.out.size))
      rw [hg] at hN ⊢
      have hY16 := Lib.hid hN
      clear hN hb eu hg hB0
      refine ⟨by first | exact fun _ => SS.out _ hB16.out | exact SS.out _ hB16.out, ?_⟩
      refine wpY_take (v := ?_) rfl (.inl ⟨by rfl, fun w' hS => ?_⟩) ?_
      rotate_left
      · (try dsimp only at hS)
        (try unfold CellsAt at hS)
        obtain ⟨s0, s1⟩ := hS; go_simp; try with_reducible rfl
      simp only [Act.put, List.setIfInBounds_toArray, List.set_cons_zero, List.set_cons_succ]
      refine wpY_both rfl rfl ?_ ?_
      · go_wp2_with fail
        refine (usual_calls u16).mono ?_
        rintro e u17 ⟨g1, rfl, hPx, hb⟩
        have hB17 := Lib.hid (hB16.out.trans (hb.mono hB16.out.size))
        have hY17 := Lib.hid (hY16.out.below hb hY16.out.lt)
        have hP17 := Lib.hid hPx
        clear hPx hb hB16 hY16
        go_wp2_with fail
        refine ⟨by first | exact fun _ => SS.out _ hB17.out | exact SS.out _ hB17.out, ?_⟩
        refine wpY_both rfl rfl ?_ ?_
        · go_wp2_with fail
          refine (EV.out u17 g1 gy hB17.out hP17.out hY17.out).mono ?_
          rintro e u18 ⟨vk, vn, vs, rfl, hval, hb⟩
          have hB18 := Lib.hid (hB17.out.trans (hb.mono hB17.out.size))
          have hP18 := Lib.hid (hP17.out.later hb)
          have hY18 := Lib.hid (hY17.out.below hb hY17.out.lt)
          have hval' := Lib.hid hval
          clear hval hb hB17 hP17 hY17
          go_wp2_with fail
          refine ⟨by first | exact fun _ => SS.out _ hB18.out | exact SS.out _ hB18.out, ?_⟩
          refine wpY_take (v := ?_) rfl (.inl ⟨by rfl, fun w' hS => ?_⟩) ?_
          rotate_left
          · (try dsimp only at hS)
            (try unfold CellsAt at hS)
            obtain ⟨s0, s1⟩ := hS; go_simp; try with_reducible rfl
          simp only [Act.put, List.setIfInBounds_toArray, List.set_cons_zero, List.set_cons_succ]
          refine wpY_take (v := ?_) rfl (.inl ⟨by rfl, fun w' hS => ?_⟩) ?_
          rotate_left
          · (try dsimp only at hS)
            (try unfold CellsAt at hS)
            obtain ⟨s0, s1⟩ := hS; go_simp; try with_reducible rfl
          simp only [Act.put, List.setIfInBounds_toArray, List.set_cons_zero, List.set_cons_succ]
          refine wpY_take (v := ?_) rfl (.inl ⟨by rfl, fun w' hS => ?_⟩) ?_
          rotate_left
          · (try dsimp only at hS)
            (try unfold CellsAt at hS)
            obtain ⟨s0, s1⟩ := hS; go_simp; try with_reducible rfl
          simp only [Act.put, List.setIfInBounds_toArray, List.set_cons_zero, List.set_cons_succ]
          refine wpY_go rfl ?_
          go_wp2_with fail
          have hb := (Below.refl u18.heap.size u18).alloc (Nat.le_refl _) (.cells #[.int .i64 0, .int .i64 0, .string ⟨#[]⟩] 33)
          have hN := Blk.new u18 33 #[.int .i64 0, .int .i64 0, .string ⟨#[]⟩]
          obtain ⟨u19, eu⟩ : ∃ u', u18.alloc (.cells #[.int .i64 0, .int .i64 0, .string ⟨#[]⟩] 33) = u' := ⟨_, rfl⟩
          obtain ⟨gx, hg⟩ : ∃ g, u18.heap.size = g := ⟨_, rfl⟩
          rw [eu] at hb hN ⊢
          have hgwX : w8.heap.size ≤ gx := by rw [← hg]; exact hB18.out.size
          have hB19 := Lib.hid (hB18.out.trans (hb.mono hB18.out.size))
          have hP19 := Lib.hid (hP18.out.later hb)
          have hY19 := Lib.hid (hY18.out.below hb hY18.out.lt)
          rw [hg] at hN ⊢
          have hX19 := Lib.hid hN
          clear hN hb eu hg hB18 hP18 hY18
          refine ⟨by first | exact fun _ => SS.out _ hB19.out | exact SS.out _ hB19.out, ?_⟩
          refine wpY_go rfl ?_
          have gc := hX19.out.cell
          have gf := hX19.out.frozen
          go_wp2_with fail
          clear gc gf
          have hN : Blk (((u19.setCell ⟨gx, 0, none⟩ (.int .i64 vk)).setCell ⟨gx, 1, none⟩ (.int .i64 vn)).setCell ⟨gx, 2, none⟩ (.string vs)) gx 33 #[.int .i64 vk, .int .i64 vn, .string vs] := hX19.out.set3 (.int .i64 vk) (.int .i64 vn) (.string vs)
          have hM : Below w8.heap.size w8 (((u19.setCell ⟨gx, 0, none⟩ (.int .i64 vk)).setCell ⟨gx, 1, none⟩ (.int .i64 vn)).setCell ⟨gx, 2, none⟩ (.string vs)) := below_set3 hB19.out hgwX (.int .i64 vk) (.int .i64 vn) (.string vs)
          obtain ⟨u20, eu⟩ : ∃ u', (((u19.setCell ⟨gx, 0, none⟩ (.int .i64 vk)).setCell ⟨gx, 1, none⟩ (.int .i64 vn)).setCell ⟨gx, 2, none⟩ (.string vs)) = u' := ⟨_, rfl⟩
          rw [eu] at hN hM ⊢
          have hX20 := Lib.hid hN
          have hB20 := Lib.hid hM
          clear hN hM eu hX19 hB19 hP19 hY19
          refine ⟨by first | exact fun _ => SS.out _ hB20.out | exact SS.out _ hB20.out, ?_⟩
          refine wpY_go rfl ?_
          go_wp2_with fail
          refine ⟨by first | exact fun _ => SS.out _ hB20.out | exact SS.out _ hB20.out, ?_⟩
          refine wpY_done ?_
          go_wp2_with fail
          go_meet
          exact ⟨gx, vk, vn, vs, rfl, rfl, hval'.out, hX20.out, hB20.out⟩
        · go_wp2_with fail
          have hb := (Below.refl u17.heap.size u17).alloc (Nat.le_refl _) (.cells #[.int .i64 0, .int .i64 0, .string ⟨#[]⟩] 33)
          have hN := Blk.new u17 33 #[.int .i64 0, .int .i64 0, .string ⟨#[]⟩]
          obtain ⟨u22, eu⟩ : ∃ u', u17.alloc (.cells #[.int .i64 0, .int .i64 0, .string ⟨#[]⟩] 33) = u' := ⟨_, rfl⟩
          obtain ⟨gx, hg⟩ : ∃ g, u17.heap.size = g := ⟨_, rfl⟩
          rw [eu] at hb hN ⊢
          have hgwX : w8.heap.size ≤ gx := by rw [← hg]; exact hB17.out.size
          have hB22 := Lib.hid (hB17.out.trans (hb.mono hB17.out.size))
          have hP22 := Lib.hid (hP17.out.later hb)
          have hY22 := Lib.hid (hY17.out.below hb hY17.out.lt)
          rw [hg] at hN ⊢
          have hX22 := Lib.hid hN
          clear hN hb eu hg hB17 hP17 hY17
          refine ⟨by first | exact fun _ => SS.out _ hB22.out | exact SS.out _ hB22.out, ?_⟩
          refine wpY_go rfl ?_
          go_wp2_with fail
          refine (EV.out u22 g1 gy hB22.out hP22.out hY22.out).mono ?_
          rintro e u23 ⟨vk, vn, vs, rfl, hval, hb⟩
          have hB23 := Lib.hid (hB22.out.trans (hb.mono hB22.out.size))
          have hP23 := Lib.hid (hP22.out.later hb)
          have hX23 := Lib.hid (hX22.out.below hb hX22.out.lt)
          have hY23 := Lib.hid (hY22.out.below hb hY22.out.lt)
          have hval' := Lib.hid hval
          clear hval hb hB22 hP22 hX22 hY22
          go_wp2_with fail
          refine ⟨by first | exact fun _ => SS.out _ hB23.out | exact SS.out _ hB23.out, ?_⟩
          refine wpY_take (v := ?_) rfl (.inl ⟨by rfl, fun w' hS => ?_⟩) ?_
          rotate_left
          · (try dsimp only at hS)
            (try unfold CellsAt at hS)
            obtain ⟨s0, s1⟩ := hS; go_simp; try with_reducible rfl
          simp only [Act.put, List.setIfInBounds_toArray, List.set_cons_zero, List.set_cons_succ]
          refine wpY_take (v := ?_) rfl (.inl ⟨by rfl, fun w' hS => ?_⟩) ?_
          rotate_left
          · (try dsimp only at hS)
            (try unfold CellsAt at hS)
            obtain ⟨s0, s1⟩ := hS; go_simp; try with_reducible rfl
          simp only [Act.put, List.setIfInBounds_toArray, List.set_cons_zero, List.set_cons_succ]
          refine wpY_take (v := ?_) rfl (.inl ⟨by rfl, fun w' hS => ?_⟩) ?_
          rotate_left
          · (try dsimp only at hS)
            (try unfold CellsAt at hS)
            obtain ⟨s0, s1⟩ := hS; go_simp; try with_reducible rfl
          simp only [Act.put, List.setIfInBounds_toArray, List.set_cons_zero, List.set_cons_succ]
          refine wpY_go rfl ?_
          have gc := hX23.out.cell
          have gf := hX23.out.frozen
          go_wp2_with fail
          clear gc gf
          have hN : Blk (((u23.setCell ⟨gx, 0, none⟩ (.int .i64 vk)).setCell ⟨gx, 1, none⟩ (.int .i64 vn)).setCell ⟨gx, 2, none⟩ (.string vs)) gx 33 #[.int .i64 vk, .int .i64 vn, .string vs] := hX23.out.set3 (.int .i64 vk) (.int .i64 vn) (.string vs)
          have hM : Below w8.heap.size w8 (((u23.setCell ⟨gx, 0, none⟩ (.int .i64 vk)).setCell ⟨gx, 1, none⟩ (.int .i64 vn)).setCell ⟨gx, 2, none⟩ (.string vs)) := below_set3 hB23.out hgwX (.int .i64 vk) (.int .i64 vn) (.string vs)
          obtain ⟨u24, eu⟩ : ∃ u', (((u23.setCell ⟨gx, 0, none⟩ (.int .i64 vk)).setCell ⟨gx, 1, none⟩ (.int .i64 vn)).setCell ⟨gx, 2, none⟩ (.string vs)) = u' := ⟨_, rfl⟩
          rw [eu] at hN hM ⊢
          have hX24 := Lib.hid hN
          have hB24 := Lib.hid hM
          clear hN hM eu hX23 hB23 hP23 hY23
          refine ⟨by first | exact fun _ => SS.out _ hB24.out | exact SS.out _ hB24.out, ?_⟩
          refine wpY_go rfl ?_
          go_wp2_with fail
          refine ⟨by first | exact fun _ => SS.out _ hB24.out | exact SS.out _ hB24.out, ?_⟩
          refine wpY_done ?_
          go_wp2_with fail
          go_meet
          exact ⟨gx, vk, vn, vs, rfl, rfl, hval'.out, hX24.out, hB24.out⟩
      · go_wp2_with fail
        have hb := (Below.refl u16.heap.size u16).alloc (Nat.le_refl _) (.cells #[.int .i64 0, .int .i64 0, .string ⟨#[]⟩] 33)
        have hN := Blk.new u16 33 #[.int .i64 0, .int .i64 0, .string ⟨#[]⟩]
        obtain ⟨u26, eu⟩ : ∃ u', u16.alloc (.cells #[.int .i64 0, .int .i64 0, .string ⟨#[]⟩] 33) = u' := ⟨_, rfl⟩
        obtain ⟨gx, hg⟩ : ∃ g, u16.heap.size = g := ⟨_, rfl⟩
        rw [eu] at hb hN ⊢
        have hgwX : w8.heap.size ≤ gx := by rw [← hg]; exact hB16.out.size
        have hB26 := Lib.hid (hB16.out.trans (hb.mono hB16.out.size))
        have hY26 := Lib.hid (hY16.out.below hb hY16.out.lt)
        rw [hg] at hN ⊢
        have hX26 := Lib.hid hN
        clear hN hb eu hg hB16 hY16
        refine ⟨by first | exact fun _ => SS.out _ hB26.out | exact SS.out _ hB26.out, ?_⟩
        refine wpY_go rfl ?_
        go_wp2_with fail
        refine (usual_calls u26).mono ?_
        rintro e u27 ⟨g1, rfl, hPx, hb⟩
        have hB27 := Lib.hid (hB26.out.trans (hb.mono hB26.out.size))
        have hX27 := Lib.hid (hX26.out.below hb hX26.out.lt)
        have hY27 := Lib.hid (hY26.out.below hb hY26.out.lt)
        have hP27 := Lib.hid hPx
        clear hPx hb hB26 hX26 hY26
        go_wp2_with fail
        refine ⟨by first | exact fun _ => SS.out _ hB27.out | exact SS.out _ hB27.out, ?_⟩
        refine wpY_go rfl ?_
        go_wp2_with fail
        refine (EV.out u27 g1 gy hB27.out hP27.out hY27.out).mono ?_
        rintro e u28 ⟨vk, vn, vs, rfl, hval, hb⟩
        have hB28 := Lib.hid (hB27.out.trans (hb.mono hB27.out.size))
        have hP28 := Lib.hid (hP27.out.later hb)
        have hX28 := Lib.hid (hX27.out.below hb hX27.out.lt)
        have hY28 := Lib.hid (hY27.out.below hb hY27.out.lt)
        have hval' := Lib.hid hval
        clear hval hb hB27 hP27 hX27 hY27
        go_wp2_with fail
        refine ⟨by first | exact fun _ => SS.out _ hB28.out | exact SS.out _ hB28.out, ?_⟩
        refine wpY_take (v := ?_) rfl (.inl ⟨by rfl, fun w' hS => ?_⟩) ?_
        rotate_left
        · (try dsimp only at hS)
          (try unfold CellsAt at hS)
          obtain ⟨s0, s1⟩ := hS; go_simp; try with_reducible rfl
        simp only [Act.put, List.setIfInBounds_toArray, List.set_cons_zero, List.set_cons_succ]
        refine wpY_take (v := ?_) rfl (.inl ⟨by rfl, fun w' hS => ?_⟩) ?_
        rotate_left
        · (try dsimp only at hS)
          (try unfold CellsAt at hS)
          obtain ⟨s0, s1⟩ := hS; go_simp; try with_reducible rfl
        simp only [Act.put, List.setIfInBounds_toArray, List.set_cons_zero, List.set_cons_succ]
        refine wpY_take (v := ?_) rfl (.inl ⟨by rfl, fun w' hS => ?_⟩) ?_
        rotate_left
        · (try dsimp only at hS)
          (try unfold CellsAt at hS)
          obtain ⟨s0, s1⟩ := hS; go_simp; try with_reducible rfl
        simp only [Act.put, List.setIfInBounds_toArray, List.set_cons_zero, List.set_cons_succ]
        refine wpY_go rfl ?_
        have gc := hX28.out.cell
        have gf := hX28.out.frozen
        go_wp2_with fail
        clear gc gf
        have hN : Blk (((u28.setCell ⟨gx, 0, none⟩ (.int .i64 vk)).setCell ⟨gx, 1, none⟩ (.int .i64 vn)).setCell ⟨gx, 2, none⟩ (.string vs)) gx 33 #[.int .i64 vk, .int .i64 vn, .string vs] := hX28.out.set3 (.int .i64 vk) (.int .i64 vn) (.string vs)
        have hM : Below w8.heap.size w8 (((u28.setCell ⟨gx, 0, none⟩ (.int .i64 vk)).setCell ⟨gx, 1, none⟩ (.int .i64 vn)).setCell ⟨gx, 2, none⟩ (.string vs)) := below_set3 hB28.out hgwX (.int .i64 vk) (.int .i64 vn) (.string vs)
        obtain ⟨u29, eu⟩ : ∃ u', (((u28.setCell ⟨gx, 0, none⟩ (.int .i64 vk)).setCell ⟨gx, 1, none⟩ (.int .i64 vn)).setCell ⟨gx, 2, none⟩ (.string vs)) = u' := ⟨_, rfl⟩
        rw [eu] at hN hM ⊢
        have hX29 := Lib.hid hN
        have hB29 := Lib.hid hM
        clear hN hM eu hX28 hB28 hP28 hY28
        refine ⟨by first | exact fun _ => SS.out _ hB29.out | exact SS.out _ hB29.out, ?_⟩
        refine wpY_go rfl ?_
        go_wp2_with fail
        refine ⟨by first | exact fun _ => SS.out _ hB29.out | exact SS.out _ hB29.out, ?_⟩
        refine wpY_done ?_
        go_wp2_with fail
        go_meet
        exact ⟨gx, vk, vn, vs, rfl, rfl, hval'.out, hX29.out, hB29.out⟩
    · go_wp2_with fail
      have hb := (Below.refl u0.heap.size u0).alloc (Nat.le_refl _) (.cells #[.int .i64 0, .int .i64 0, .string ⟨#[]⟩] 33)
      have hN := Blk.new u0 33 #[.int .i64 0, .int .i64 0, .string ⟨#[]⟩]
      obtain ⟨u31, eu⟩ : ∃ u', u0.alloc (.cells #[.int .i64 0, .int .i64 0, .string ⟨#[]⟩] 33) = u' := ⟨_, rfl⟩
      obtain ⟨gx, hg⟩ : ∃ g, u0.heap.size = g := ⟨_, rfl⟩
      rw [eu] at hb hN ⊢
      have hgwX : w8.heap.size ≤ gx := by rw [← hg]; exact hB0.out.size
      have hB31 := Lib.hid (hB0.out.trans (hb.mono hB0.out.size))
      rw [hg] at hN ⊢
      have hX31 := Lib.hid hN
      clear hN hb eu hg hB0
      refine ⟨by first | exact fun _ => SS.out _ hB31.out | exact SS.out _ hB31.out, ?_⟩
      refine wpY_both rfl rfl ?_ ?_
      · go_wp2_with fail
        refine (usual_calls u31).mono ?_
        rintro e u32 ⟨g1, rfl, hPx, hb⟩
        have hB32 := Lib.hid (hB31.out.trans (hb.mono hB31.out.size))
        have hX32 := Lib.hid (hX31.out.below hb hX31.out.lt)
        have hP32 := Lib.hid hPx
        clear hPx hb hB31 hX31
        go_wp2_with fail
        refine ⟨by first | exact fun _ => SS.out _ hB32.out | exact SS.out _ hB32.out, ?_⟩
        refine wpY_go rfl ?_
        go_wp2_with fail
        have hb := (Below.refl u32.heap.size u32).alloc (Nat.le_refl _) (.cells #[.int .i64 k, .int .i64 m, .string q, .slice p N c, .int .i64 6, .int .i64 0, .string ⟨#[]⟩, .slice (some ⟨gn, 0, none⟩) 1 1] 28)
        have hN := Blk.new u32 28 #[.int .i64 k, .int .i64 m, .string q, .slice p N c, .int .i64 6, .int .i64 0, .string ⟨#[]⟩, .slice (some ⟨gn, 0, none⟩) 1 1]
        obtain ⟨u33, eu⟩ : ∃ u', u32.alloc (.cells #[.int .i64 k, .int .i64 m, .string q, .slice p N c, .int .i64 6, .int .i64 0, .string ⟨#[]⟩, .slice (some ⟨gn, 0, none⟩) 1 1] 28) = u' := ⟨_, rfl⟩
        obtain ⟨gy, hg⟩ : ∃ g, u32.heap.size = g := ⟨_, rfl⟩
        rw [eu] at hb hN ⊢
        have hgwY : w8.heap.size ≤ gy := by rw [← hg]; exact hB32.out.size
        have hB33 := Lib.hid (hB32.out.trans (hb.mono hB32.out.size))
        have hP33 := Lib.hid (hP32.out.later hb)
        have hX33 := Lib.hid (hX32.out.below hb hX32.out.lt)
        rw [hg] at hN ⊢
        have hY33 := Lib.hid hN
        clear hN hb eu hg hB32 hP32 hX32
        refine ⟨by first | exact fun _ => SS.out _ hB33.out | exact SS.out _ hB33.out, ?_⟩
        refine wpY_take (v := ?_) rfl (.inl ⟨by rfl, fun w' hS => ?_⟩) ?_
        rotate_left
        · (try dsimp only at hS)
          (try unfold CellsAt at hS)
          obtain ⟨s0, s1⟩ := hS; go_simp; try with_reducible rfl
        simp only [Act.put, List.setIfInBounds_toArray, List.set_cons_zero, List.set_cons_succ]
        refine wpY_go rfl ?_
        go_wp2_with fail
        refine (EV.out u33 g1 gy hB33.out hP33.out hY33.out).mono ?_
        rintro e u34 ⟨vk, vn, vs, rfl, hval, hb⟩
        have hB34 := Lib.hid (hB33.out.trans (hb.mono hB33.out.size))
        have hP34 := Lib.hid (hP33.out.later hb)
        have hX34 := Lib.hid (hX33.out.below hb hX33.out.lt)
        have hY34 := Lib.hid (hY33.out.below hb hY33.out.lt)
        have hval' := Lib.hid hval
        clear hval hb hB33 hP33 hX33 hY33
        go_wp2_with fail
        refine ⟨by first | exact fun _ => SS.out _ hB34.out | exact SS.out _ hB34.out, ?_⟩
        refine wpY_take (v := ?_) rfl (.inl ⟨by rfl, fun w' hS => ?_⟩) ?_
        rotate_left
        · (try dsimp only at hS)
          (try unfold CellsAt at hS)
          obtain ⟨s0, s1⟩ := hS; go_simp; try with_reducible rfl
        simp only [Act.put, List.setIfInBounds_toArray, List.set_cons_zero, List.set_cons_succ]
        refine wpY_take (v := ?_) rfl (.inl ⟨by rfl, fun w' hS => ?_⟩) ?_
        rotate_left
        · (try dsimp only at hS)
          (try unfold CellsAt at hS)
          obtain ⟨s0, s1⟩ := hS; go_simp; try with_reducible rfl
        simp only [Act.put, List.setIfInBounds_toArray, List.set_cons_zero, List.set_cons_succ]
        refine wpY_take (v := ?_) rfl (.inl ⟨by rfl, fun w' hS => ?_⟩) ?_
        rotate_left
        · (try dsimp only at hS)
          (try unfold CellsAt at hS)
          obtain ⟨s0, s1⟩ := hS; go_simp; try with_reducible rfl
        simp only [Act.put, List.setIfInBounds_toArray, List.set_cons_zero, List.set_cons_succ]
        refine wpY_go rfl ?_
        have gc := hX34.out.cell
        have gf := hX34.out.frozen
        go_wp2_with fail
        clear gc gf
        have hN : Blk (((u34.setCell ⟨gx, 0, none⟩ (.int .i64 vk)).setCell ⟨gx, 1, none⟩ (.int .i64 vn)).setCell ⟨gx, 2, none⟩ (.string vs)) gx 33 #[.int .i64 vk, .int .i64 vn, .string vs] := hX34.out.set3 (.int .i64 vk) (.int .i64 vn) (.string vs)
        have hM : Below w8.heap.size w8 (((u34.setCell ⟨gx, 0, none⟩ (.int .i64 vk)).setCell ⟨gx, 1, none⟩ (.int .i64 vn)).setCell ⟨gx, 2, none⟩ (.string vs)) := below_set3 hB34.out hgwX (.int .i64 vk) (.int .i64 vn) (.string vs)
        obtain ⟨u35, eu⟩ : ∃ u', (((u34.setCell ⟨gx, 0, none⟩ (.int .i64 vk)).setCell ⟨gx, 1, none⟩ (.int .i64 vn)).setCell ⟨gx, 2, none⟩ (.string vs)) = u' := ⟨_, rfl⟩
        rw [eu] at hN hM ⊢
        have hX35 := Lib.hid hN
        have hB35 := Lib.hid hM
        clear hN hM eu hX34 hB34 hP34 hY34
        refine ⟨by first | exact fun _ => SS.out _ hB35.out | exact SS.out _ hB35.out, ?_⟩
        refine wpY_go rfl ?_
        go_wp2_with fail
        refine ⟨by first | exact fun _ => SS.out _ hB35.out | exact SS.out _ hB35.out, ?_⟩
        refine wpY_done ?_
        go_wp2_with fail
        go_meet
        exact ⟨gx, vk, vn, vs, rfl, rfl, hval'.out, hX35.out, hB35.out⟩
      · go_wp2_with fail
        have hb := (Below.refl u31.heap.size u31).alloc (Nat.le_refl _) (.cells #[.int .i64 k, .int .i64 m, .string q, .slice p N c, .int .i64 6, .int .i64 0, .string ⟨#[]⟩, .slice (some ⟨gn, 0, none⟩) 1 1] 28)
        have hN := Blk.new u31 28 #[.int .i64 k, .int .i64 m, .string q, .slice p N c, .int .i64 6, .int .i64 0, .string ⟨#[]⟩, .slice (some ⟨gn, 0, none⟩) 1 1]
        obtain ⟨u37, eu⟩ : ∃ u', u31.alloc (.cells #[.int .i64 k, .int .i64 m, .string q, .slice p N c, .int .i64 6, .int .i64 0, .string ⟨#[]⟩, .slice (some ⟨gn, 0, none⟩) 1 1] 28) = u' := ⟨_, rfl⟩
        obtain ⟨gy, hg⟩ : ∃ g, u31.heap.size = g := ⟨_, rfl⟩
        rw [eu] at hb hN ⊢
        have hgwY : w8.heap.size ≤ gy := by rw [← hg]; exact hB31.out.size
        have hB37 := Lib.hid (hB31.out.trans (hb.mono hB31.out.size))
        have hX37 := Lib.hid (hX31.out.below hb hX31.out.lt)
        rw [hg] at hN ⊢
        have hY37 := Lib.hid hN
        clear hN hb eu hg hB31 hX31
        refine ⟨by first | exact fun _ => SS.out _ hB37.out | exact SS.out _ hB37.out, ?_⟩
        refine wpY_take (v := ?_) rfl (.inl ⟨by rfl, fun w' hS => ?_⟩) ?_
        rotate_left
        · (try dsimp only at hS)
          (try unfold CellsAt at hS)
          obtain ⟨s0, s1⟩ := hS; go_simp; try with_reducible rfl
        simp only [Act.put, List.setIfInBounds_toArray, List.set_cons_zero, List.set_cons_succ]
        refine wpY_go rfl ?_
        go_wp2_with fail
        refine (usual_calls u37).mono ?_
        rintro e u38 ⟨g1, rfl, hPx, hb⟩
        have hB38 := Lib.hid (hB37.out.trans (hb.mono hB37.out.size))
        have hX38 := Lib.hid (hX37.out.below hb hX37.out.lt)
        have hY38 := Lib.hid (hY37.out.below hb hY37.out.lt)
        have hP38 := Lib.hid hPx
        clear hPx hb hB37 hX37 hY37
        go_wp2_with fail
        refine ⟨by first | exact fun _ => SS.out _ hB38.out | exact SS.out _ hB38.out, ?_⟩
        refine wpY_go rfl ?_
        go_wp2_with fail
        refine (EV.out u38 g1 gy hB38.out hP38.out hY38.out).mono ?_
        rintro e u39 ⟨vk, vn, vs, rfl, hval, hb⟩
        have hB39 := Lib.hid (hB38.out.trans (hb.mono hB38.out.size))
        have hP39 := Lib.hid (hP38.out.later hb)
        have hX39 := Lib.hid (hX38.out.below hb hX38.out.lt)
        have hY39 := Lib.hid (hY38.out.below hb hY38.out.lt)
        have hval' := Lib.hid hval
        clear hval hb hB38 hP38 hX38 hY38
        go_wp2_with fail
        refine ⟨by first | exact fun _ => SS.out _ hB39.out | exact SS.out _ hB39.out, ?_⟩
        refine wpY_take (v := ?_) rfl (.inl ⟨by rfl, fun w' hS => ?_⟩) ?_
        rotate_left
        · (try dsimp only at hS)
          (try unfold CellsAt at hS)
          obtain ⟨s0, s1⟩ := hS; go_simp; try with_reducible rfl
        simp only [Act.put, List.setIfInBounds_toArray, List.set_cons_zero, List.set_cons_succ]
        refine wpY_take (v := ?_) rfl (.inl ⟨by rfl, fun w' hS => ?_⟩) ?_
        rotate_left
        · (try dsimp only at hS)
          (try unfold CellsAt at hS)
          obtain ⟨s0, s1⟩ := hS; go_simp; try with_reducible rfl
        simp only [Act.put, List.setIfInBounds_toArray, List.set_cons_zero, List.set_cons_succ]
        refine wpY_take (v := ?_) rfl (.inl ⟨by rfl, fun w' hS => ?_⟩) ?_
        rotate_left
        · (try dsimp only at hS)
          (try unfold CellsAt at hS)
          obtain ⟨s0, s1⟩ := hS; go_simp; try with_reducible rfl
        simp only [Act.put, List.setIfInBounds_toArray, List.set_cons_zero, List.set_cons_succ]
        refine wpY_go rfl ?_
        have gc := hX39.out.cell
        have gf := hX39.out.frozen
        go_wp2_with fail
        clear gc gf
        have hN : Blk (((u39.setCell ⟨gx, 0, none⟩ (.int .i64 vk)).setCell ⟨gx, 1, none⟩ (.int .i64 vn)).setCell ⟨gx, 2, none⟩ (.string vs)) gx 33 #[.int .i64 vk, .int .i64 vn, .string vs] := hX39.out.set3 (.int .i64 vk) (.int .i64 vn) (.string vs)
        have hM : Below w8.heap.size w8 (((u39.setCell ⟨gx, 0, none⟩ (.int .i64 vk)).setCell ⟨gx, 1, none⟩ (.int .i64 vn)).setCell ⟨gx, 2, none⟩ (.string vs)) := below_set3 hB39.out hgwX (.int .i64 vk) (.int .i64 vn) (.string vs)
        obtain ⟨u40, eu⟩ : ∃ u', (((u39.setCell ⟨gx, 0, none⟩ (.int .i64 vk)).setCell ⟨gx, 1, none⟩ (.int .i64 vn)).setCell ⟨gx, 2, none⟩ (.string vs)) = u' := ⟨_, rfl⟩
        rw [eu] at hN hM ⊢
        have hX40 := Lib.hid hN
        have hB40 := Lib.hid hM
        clear hN hM eu hX39 hB39 hP39 hY39
        refine ⟨by first | exact fun _ => SS.out _ hB40.out | exact SS.out _ hB40.out, ?_⟩
        refine wpY_go rfl ?_
        go_wp2_with fail
        refine ⟨by first | exact fun _ => SS.out _ hB40.out | exact SS.out _ hB40.out, ?_⟩
        refine wpY_done ?_
        go_wp2_with fail
        go_meet
        exact ⟨gx, vk, vn, vs, rfl, rfl, hval'.out, hX40.out, hB40.out⟩
  obtain ⟨gv4, k4, n4, s4, rfl, rfl, hv4, vx, hbx⟩ := hcut
  obtain ⟨w9, hnw⟩ : ∃ x, x = wc := ⟨_, rfl⟩
  subst hnw
  have hv4' := Lib.hid hv4
  have b9' := Lib.hid (b8'.out.below hbx b8'.out.lt)
  have x9' := Lib.hid (x8'.out.below hbx x8'.out.lt)
  have hN9' := Lib.hid (hN8'.out.later hbx)
  have hR9' := Lib.hid (hR8'.out.later hbx)
  have hA9' := Lib.hid (hA8'.out.later hbx)
  have B9' := Lib.hid (B8'.out.trans (hbx.mono B8'.out.size))
  have bw9 := Lib.hid (bw8.out.next hbx)
  have v1_9 := Lib.hid (v1_8.out.below hbx v1_8.out.lt)
  have v2_9 := Lib.hid (v2_8.out.below hbx v2_8.out.lt)
  have v3_9 := Lib.hid (v3_8.out.below hbx v3_8.out.lt)
  have v4_9 := Lib.hid vx
  clear EV SS hbx vx hv4
  have q1 := v1_9.out.cell
  have q2 := v2_9.out.cell
  have q3 := v3_9.out.cell
  have q4 := v4_9.out.cell
  have er3 := o1'.out
  have er4 := o2'.out
  have h3 := o3'.out
  have h4 := o4'.out
  rw [hv3'.out] at h3
  rw [hv4'.out] at h4
  have h3 : n3 = 1 := h3
  have h4 : n4 = 0 := h4
  subst h3 h4
  have hnn : (n1 != n2) = true := by simpa using hne'.out
  go_wp2_with fail
  go_ret
  exact ⟨rfl, B9'.out⟩
end Go.Proofs.YtdfgbkilaepolaaGreatDoor
