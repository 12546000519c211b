/- Walk: the statement's fixed calls. -/
import Derived.Test.YtdfgbkilaepolaaGreatDoorPO23
import Derived.Test.YtdfgbkilaepolaaGreatDoorPO24
import Derived.Deep.DeepCutAuto
namespace Go.Proofs.YtdfgbkilaepolaaGreatDoor
open Go.RowKit Go.Maps
attribute [local go_sem ↓] eql_val
/-- what a value's variable and an Errno's hold -/
def RelV (wA : World) (R : Vl × Int) (sp se : Value) (wx : World) : Prop := ∃ (gv : Nat) (k n : Int) (s : ByteArray), sp = .pointer (some ⟨gv, 0, none⟩) ∧ se = .int .i64 R.2 ∧ R.1 = ⟨k, n, s.data.toList⟩ ∧ Blk wx gv 33 #[.int .i64 k, .int .i64 n, .string s] ∧ Below wA.heap.size wA wx
theorem vl_is {k n : Int} {s : ByteArray} {k' n' : Int} (h : (⟨k', n', []⟩ : Vl) = ⟨k, n, s.data.toList⟩) : k = k' ∧ n = n' ∧ s = ⟨#[]⟩ := by
  injection h with h1 h2 h3
  exact ⟨h1.symm, h2.symm, data_eq (a := s) (b := ⟨#[]⟩) h3.symm⟩
set_option maxHeartbeats 8000000 in
set_option maxRecDepth 100000 in
theorem fixed10_calls (w : World) (hS : Std w) : Calls Tryz.prog 5 #[] w fun e w' => e = .returned (.bool true) ∧ Below w.heap.size w w' := by
  have P := Lib.hid (wfixT_calls w)
  have hS' := Lib.hid hS
  have hcw := Lib.hid wfix_cw
  clear hS
  go_enter Tryz.func5, Tryz.ntmps5
  go_wp2_with fail
  refine P.out.mono ?_
  rintro e w1 ⟨cs, rfl, hC, hB⟩
  have hCV := CV.of hC (by decide)
  obtain ⟨Q, p, n, c, rfl⟩ := hC.open_
  have b2 := Blk.new w1 28 #[.int .i64 wfix.kind, .int .i64 wfix.num, .string Q, .slice p n c]
  have hA2 := (Below.refl w1.heap.size w1).alloc (Nat.le_refl _) (.cells #[.int .i64 wfix.kind, .int .i64 wfix.num, .string Q, .slice p n c] 28)
  obtain ⟨w2, e2⟩ : ∃ w2, w1.alloc (.cells #[.int .i64 wfix.kind, .int .i64 wfix.num, .string Q, .slice p n c] 28) = w2 := ⟨_, rfl⟩
  obtain ⟨c1, ec1⟩ : ∃ c1, w1.heap.size = c1 := ⟨_, rfl⟩
  rw [e2] at b2 hA2
  rw [ec1] at b2
  have hB2 := Lib.hid (hB.trans (hA2.mono hB.size))
  have hCV2 := Lib.hid (hCV.later hA2)
  have b2' := Lib.hid b2
  clear hC hCV hB hA2 b2 P
  obtain ⟨fk, hfk⟩ : ∃ fk, wfix.kind = fk := ⟨_, rfl⟩
  obtain ⟨fm, hfm⟩ : ∃ fm, wfix.num = fm := ⟨_, rfl⟩
  rw [hfk, hfm] at e2 hCV2 b2' ⊢
  clear hfk hfm
  go_wp2_with fail
  clear e2 ec1
  have EV := Lib.hid (fun (W : World) (g1 g2 : Nat) (h : Below w2.heap.size w2 W) (hP : ParAt W g1 0 parL) (hA : AgAt W g2 0 (agL 1 5 ⟨#[]⟩ false)) => evu_calls 1 5 ⟨#[]⟩ false wfix hcw.out W g1 g2 _ hP hA (hCV2.out.later h) (hS'.out.next (hB2.out.trans (h.mono hB2.out.size))))
  have SS : Hid (∀ W, Below w2.heap.size w2 W → ∀ i, W.cell? ⟨c1, i, none⟩ = (#[.int .i64 fk, .int .i64 fm, .string Q, .slice p n c] : Array Value)[i]?) := Lib.hid fun W h => (b2'.out.below h b2'.out.lt).cell
  go_cut [4, 5] from 15 to 21 (fun sp se wx => RelV w2 (evU 1 5 ⟨#[]⟩ false wfix) sp se wx)
  case first =>
    refine wp_region_y (fun W => ∀ i, W.cell? ⟨c1, i, none⟩ = (#[.int .i64 fk, .int .i64 fm, .string Q, .slice p n c] : Array Value)[i]?) [] (.take 1 (.both 0 (.both 2 (.both 3 (.take 4 (.take 5 (.take 6 (.go 7 (.go 8 (.go 9 .done)))))) 7 (.go 3 (.take 4 (.take 5 (.take 6 (.go 8 (.go 9 .done))))))) 7 (.go 2 (.go 3 (.take 4 (.take 5 (.take 6 (.go 8 (.go 9 .done)))))))) 7 (.go 0 (.go 2 (.go 3 (.take 4 (.take 5 (.take 6 (.go 8 (.go 9 .done)))))))))) (by kernel_rfl) (by kernel_rfl) (by kernel_rfl) (by kernel_rfl) (fun _ _ _ _ _ h => h) (SS.out _ (Below.refl _ w2).drew) ?_
    obtain ⟨u0, hu0⟩ : ∃ u, w2.drew = u := ⟨_, rfl⟩
    have hB0 := Lib.hid ((Below.refl w2.heap.size w2).drew)
    rw [hu0] at hB0 ⊢
    clear hu0
    refine wpY_take (v := ?_) rfl (.inl ⟨by rfl, fun w' hS => ?_⟩) ?_
    rotate_left
    · (try dsimp only at hS)
      go_simp; try with_reducible rfl
    simp only [Act.put, List.setIfInBounds_toArray, List.set_cons_zero, List.set_cons_succ]
    refine wpY_both rfl rfl ?_ ?_
    · go_wp2_with fail
      refine (usual_calls u0).mono ?_
      rintro e u1 ⟨g1, rfl, hPx, hb⟩
      have hB1 := Lib.hid (hB0.out.trans (hb.mono hB0.out.size))
      have hP1 := Lib.hid hPx
      clear hPx hb hB0
      go_wp2_with fail
      refine ⟨fun _ => SS.out _ hB1.out, ?_⟩
      refine wpY_both rfl rfl ?_ ?_
      · go_wp2_with fail
        refine (values_calls 1 5 ⟨#[]⟩ false u1).mono ?_
        rintro e u2 ⟨g2, rfl, hAx, hb⟩
        have hB2 := Lib.hid (hB1.out.trans (hb.mono hB1.out.size))
        have hP2 := Lib.hid (hP1.out.later hb)
        have hA2 := Lib.hid hAx
        clear hAx hb hB1 hP1
        go_wp2_with fail
        refine ⟨fun _ => SS.out _ hB2.out, ?_⟩
        refine wpY_both rfl rfl ?_ ?_
        · go_wp2_with fail
          refine (EV.out u2 g1 g2 hB2.out hP2.out hA2.out).mono ?_
          rintro e u3 ⟨vk, vn, vs, rfl, hval, hb⟩
          have hB3 := Lib.hid (hB2.out.trans (hb.mono hB2.out.size))
          have hP3 := Lib.hid (hP2.out.later hb)
          have hA3 := Lib.hid (hA2.out.later hb)
          have hval' := Lib.hid hval
          clear hval hb hB2 hP2 hA2
          go_wp2_with fail
          refine ⟨fun _ => SS.out _ hB3.out, ?_⟩
          refine wpY_take (v := ?_) rfl (.inl ⟨by rfl, fun w' hS => ?_⟩) ?_
          rotate_left
          · (try dsimp only at hS)
            go_simp; try with_reducible rfl
          simp only [Act.put, List.setIfInBounds_toArray, List.set_cons_zero, List.set_cons_succ]
          refine wpY_take (v := ?_) rfl (.inl ⟨by rfl, fun w' hS => ?_⟩) ?_
          rotate_left
          · (try dsimp only at hS)
            go_simp; try with_reducible rfl
          simp only [Act.put, List.setIfInBounds_toArray, List.set_cons_zero, List.set_cons_succ]
          refine wpY_take (v := ?_) rfl (.inl ⟨by rfl, fun w' hS => ?_⟩) ?_
          rotate_left
          · (try dsimp only at hS)
            go_simp; try with_reducible rfl
          simp only [Act.put, List.setIfInBounds_toArray, List.set_cons_zero, List.set_cons_succ]
          refine wpY_go rfl ?_
          go_wp2_with fail
          have hb := (Below.refl u3.heap.size u3).alloc (Nat.le_refl _) (.cells #[.int .i64 0, .int .i64 0, .string ⟨#[]⟩] 33)
          have hN := Blk.new u3 33 #[.int .i64 0, .int .i64 0, .string ⟨#[]⟩]
          obtain ⟨u4, eu⟩ : ∃ u', u3.alloc (.cells #[.int .i64 0, .int .i64 0, .string ⟨#[]⟩] 33) = u' := ⟨_, rfl⟩
          obtain ⟨gx, hg⟩ : ∃ g, u3.heap.size = g := ⟨_, rfl⟩
          rw [eu] at hb hN ⊢
          have hgwX : w2.heap.size ≤ gx := by rw [← hg]; exact hB3.out.size
          have hB4 := Lib.hid (hB3.out.trans (hb.mono hB3.out.size))
          have hP4 := Lib.hid (hP3.out.later hb)
          have hA4 := Lib.hid (hA3.out.later hb)
          rw [hg] at hN ⊢
          have hX4 := Lib.hid hN
          clear hN hb eu hg hB3 hP3 hA3
          refine ⟨fun _ => SS.out _ hB4.out, ?_⟩
          refine wpY_go rfl ?_
          have gc := hX4.out.cell
          have gf := hX4.out.frozen
          go_wp2_with fail
          clear gc gf
          have hN : Blk (((u4.setCell ⟨gx, 0, none⟩ (.int .i64 vk)).setCell ⟨gx, 1, none⟩ (.int .i64 vn)).setCell ⟨gx, 2, none⟩ (.string vs)) gx 33 #[.int .i64 vk, .int .i64 vn, .string vs] := hX4.out.set3 (.int .i64 vk) (.int .i64 vn) (.string vs)
          have hM : Below w2.heap.size w2 (((u4.setCell ⟨gx, 0, none⟩ (.int .i64 vk)).setCell ⟨gx, 1, none⟩ (.int .i64 vn)).setCell ⟨gx, 2, none⟩ (.string vs)) := below_set3 hB4.out hgwX (.int .i64 vk) (.int .i64 vn) (.string vs)
          obtain ⟨u5, eu⟩ : ∃ u', (((u4.setCell ⟨gx, 0, none⟩ (.int .i64 vk)).setCell ⟨gx, 1, none⟩ (.int .i64 vn)).setCell ⟨gx, 2, none⟩ (.string vs)) = u' := ⟨_, rfl⟩
          rw [eu] at hN hM ⊢
          have hX5 := Lib.hid hN
          have hB5 := Lib.hid hM
          clear hN hM eu hX4 hB4 hP4 hA4
          refine ⟨fun _ => SS.out _ hB5.out, ?_⟩
          refine wpY_go rfl ?_
          go_wp2_with fail
          refine ⟨fun _ => SS.out _ hB5.out, ?_⟩
          refine wpY_done ?_
          go_wp2_with fail
          go_meet
          exact ⟨gx, vk, vn, vs, rfl, rfl, hval'.out, hX5.out, hB5.out⟩
        · go_wp2_with fail
          have hb := (Below.refl u2.heap.size u2).alloc (Nat.le_refl _) (.cells #[.int .i64 0, .int .i64 0, .string ⟨#[]⟩] 33)
          have hN := Blk.new u2 33 #[.int .i64 0, .int .i64 0, .string ⟨#[]⟩]
          obtain ⟨u7, eu⟩ : ∃ u', u2.alloc (.cells #[.int .i64 0, .int .i64 0, .string ⟨#[]⟩] 33) = u' := ⟨_, rfl⟩
          obtain ⟨gx, hg⟩ : ∃ g, u2.heap.size = g := ⟨_, rfl⟩
          rw [eu] at hb hN ⊢
          have hgwX : w2.heap.size ≤ gx := by rw [← hg]; exact hB2.out.size
          have hB7 := Lib.hid (hB2.out.trans (hb.mono hB2.out.size))
          have hP7 := Lib.hid (hP2.out.later hb)
          have hA7 := Lib.hid (hA2.out.later hb)
          rw [hg] at hN ⊢
          have hX7 := Lib.hid hN
          clear hN hb eu hg hB2 hP2 hA2
          refine ⟨fun _ => SS.out _ hB7.out, ?_⟩
          refine wpY_go rfl ?_
          go_wp2_with fail
          refine (EV.out u7 g1 g2 hB7.out hP7.out hA7.out).mono ?_
          rintro e u8 ⟨vk, vn, vs, rfl, hval, hb⟩
          have hB8 := Lib.hid (hB7.out.trans (hb.mono hB7.out.size))
          have hP8 := Lib.hid (hP7.out.later hb)
          have hA8 := Lib.hid (hA7.out.later hb)
          have hX8 := Lib.hid (hX7.out.below hb hX7.out.lt)
          have hval' := Lib.hid hval
          clear hval hb hB7 hP7 hA7 hX7
          go_wp2_with fail
          refine ⟨fun _ => SS.out _ hB8.out, ?_⟩
          refine wpY_take (v := ?_) rfl (.inl ⟨by rfl, fun w' hS => ?_⟩) ?_
          rotate_left
          · (try dsimp only at hS)
            go_simp; try with_reducible rfl
          simp only [Act.put, List.setIfInBounds_toArray, List.set_cons_zero, List.set_cons_succ]
          refine wpY_take (v := ?_) rfl (.inl ⟨by rfl, fun w' hS => ?_⟩) ?_
          rotate_left
          · (try dsimp only at hS)
            go_simp; try with_reducible rfl
          simp only [Act.put, List.setIfInBounds_toArray, List.set_cons_zero, List.set_cons_succ]
          refine wpY_take (v := ?_) rfl (.inl ⟨by rfl, fun w' hS => ?_⟩) ?_
          rotate_left
          · (try dsimp only at hS)
            go_simp; try with_reducible rfl
          simp only [Act.put, List.setIfInBounds_toArray, List.set_cons_zero, List.set_cons_succ]
          refine wpY_go rfl ?_
          have gc := hX8.out.cell
          have gf := hX8.out.frozen
          go_wp2_with fail
          clear gc gf
          have hN : Blk (((u8.setCell ⟨gx, 0, none⟩ (.int .i64 vk)).setCell ⟨gx, 1, none⟩ (.int .i64 vn)).setCell ⟨gx, 2, none⟩ (.string vs)) gx 33 #[.int .i64 vk, .int .i64 vn, .string vs] := hX8.out.set3 (.int .i64 vk) (.int .i64 vn) (.string vs)
          have hM : Below w2.heap.size w2 (((u8.setCell ⟨gx, 0, none⟩ (.int .i64 vk)).setCell ⟨gx, 1, none⟩ (.int .i64 vn)).setCell ⟨gx, 2, none⟩ (.string vs)) := below_set3 hB8.out hgwX (.int .i64 vk) (.int .i64 vn) (.string vs)
          obtain ⟨u9, eu⟩ : ∃ u', (((u8.setCell ⟨gx, 0, none⟩ (.int .i64 vk)).setCell ⟨gx, 1, none⟩ (.int .i64 vn)).setCell ⟨gx, 2, none⟩ (.string vs)) = u' := ⟨_, rfl⟩
          rw [eu] at hN hM ⊢
          have hX9 := Lib.hid hN
          have hB9 := Lib.hid hM
          clear hN hM eu hX8 hB8 hP8 hA8
          refine ⟨fun _ => SS.out _ hB9.out, ?_⟩
          refine wpY_go rfl ?_
          go_wp2_with fail
          refine ⟨fun _ => SS.out _ hB9.out, ?_⟩
          refine wpY_done ?_
          go_wp2_with fail
          go_meet
          exact ⟨gx, vk, vn, vs, rfl, rfl, hval'.out, hX9.out, hB9.out⟩
      · go_wp2_with fail
        have hb := (Below.refl u1.heap.size u1).alloc (Nat.le_refl _) (.cells #[.int .i64 0, .int .i64 0, .string ⟨#[]⟩] 33)
        have hN := Blk.new u1 33 #[.int .i64 0, .int .i64 0, .string ⟨#[]⟩]
        obtain ⟨u11, eu⟩ : ∃ u', u1.alloc (.cells #[.int .i64 0, .int .i64 0, .string ⟨#[]⟩] 33) = u' := ⟨_, rfl⟩
        obtain ⟨gx, hg⟩ : ∃ g, u1.heap.size = g := ⟨_, rfl⟩
        rw [eu] at hb hN ⊢
        have hgwX : w2.heap.size ≤ gx := by rw [← hg]; exact hB1.out.size
        have hB11 := Lib.hid (hB1.out.trans (hb.mono hB1.out.size))
        have hP11 := Lib.hid (hP1.out.later hb)
        rw [hg] at hN ⊢
        have hX11 := Lib.hid hN
        clear hN hb eu hg hB1 hP1
        refine ⟨fun _ => SS.out _ hB11.out, ?_⟩
        refine wpY_go rfl ?_
        go_wp2_with fail
        refine (values_calls 1 5 ⟨#[]⟩ false u11).mono ?_
        rintro e u12 ⟨g2, rfl, hAx, hb⟩
        have hB12 := Lib.hid (hB11.out.trans (hb.mono hB11.out.size))
        have hP12 := Lib.hid (hP11.out.later hb)
        have hX12 := Lib.hid (hX11.out.below hb hX11.out.lt)
        have hA12 := Lib.hid hAx
        clear hAx hb hB11 hP11 hX11
        go_wp2_with fail
        refine ⟨fun _ => SS.out _ hB12.out, ?_⟩
        refine wpY_go rfl ?_
        go_wp2_with fail
        refine (EV.out u12 g1 g2 hB12.out hP12.out hA12.out).mono ?_
        rintro e u13 ⟨vk, vn, vs, rfl, hval, hb⟩
        have hB13 := Lib.hid (hB12.out.trans (hb.mono hB12.out.size))
        have hP13 := Lib.hid (hP12.out.later hb)
        have hA13 := Lib.hid (hA12.out.later hb)
        have hX13 := Lib.hid (hX12.out.below hb hX12.out.lt)
        have hval' := Lib.hid hval
        clear hval hb hB12 hP12 hA12 hX12
        go_wp2_with fail
        refine ⟨fun _ => SS.out _ hB13.out, ?_⟩
        refine wpY_take (v := ?_) rfl (.inl ⟨by rfl, fun w' hS => ?_⟩) ?_
        rotate_left
        · (try dsimp only at hS)
          go_simp; try with_reducible rfl
        simp only [Act.put, List.setIfInBounds_toArray, List.set_cons_zero, List.set_cons_succ]
        refine wpY_take (v := ?_) rfl (.inl ⟨by rfl, fun w' hS => ?_⟩) ?_
        rotate_left
        · (try dsimp only at hS)
          go_simp; try with_reducible rfl
        simp only [Act.put, List.setIfInBounds_toArray, List.set_cons_zero, List.set_cons_succ]
        refine wpY_take (v := ?_) rfl (.inl ⟨by rfl, fun w' hS => ?_⟩) ?_
        rotate_left
        · (try dsimp only at hS)
          go_simp; try with_reducible rfl
        simp only [Act.put, List.setIfInBounds_toArray, List.set_cons_zero, List.set_cons_succ]
        refine wpY_go rfl ?_
        have gc := hX13.out.cell
        have gf := hX13.out.frozen
        go_wp2_with fail
        clear gc gf
        have hN : Blk (((u13.setCell ⟨gx, 0, none⟩ (.int .i64 vk)).setCell ⟨gx, 1, none⟩ (.int .i64 vn)).setCell ⟨gx, 2, none⟩ (.string vs)) gx 33 #[.int .i64 vk, .int .i64 vn, .string vs] := hX13.out.set3 (.int .i64 vk) (.int .i64 vn) (.string vs)
        have hM : Below w2.heap.size w2 (((u13.setCell ⟨gx, 0, none⟩ (.int .i64 vk)).setCell ⟨gx, 1, none⟩ (.int .i64 vn)).setCell ⟨gx, 2, none⟩ (.string vs)) := below_set3 hB13.out hgwX (.int .i64 vk) (.int .i64 vn) (.string vs)
        obtain ⟨u14, eu⟩ : ∃ u', (((u13.setCell ⟨gx, 0, none⟩ (.int .i64 vk)).setCell ⟨gx, 1, none⟩ (.int .i64 vn)).setCell ⟨gx, 2, none⟩ (.string vs)) = u' := ⟨_, rfl⟩
        rw [eu] at hN hM ⊢
        have hX14 := Lib.hid hN
        have hB14 := Lib.hid hM
        clear hN hM eu hX13 hB13 hP13 hA13
        refine ⟨fun _ => SS.out _ hB14.out, ?_⟩
        refine wpY_go rfl ?_
        go_wp2_with fail
        refine ⟨fun _ => SS.out _ hB14.out, ?_⟩
        refine wpY_done ?_
        go_wp2_with fail
        go_meet
        exact ⟨gx, vk, vn, vs, rfl, rfl, hval'.out, hX14.out, hB14.out⟩
    · go_wp2_with fail
      have hb := (Below.refl u0.heap.size u0).alloc (Nat.le_refl _) (.cells #[.int .i64 0, .int .i64 0, .string ⟨#[]⟩] 33)
      have hN := Blk.new u0 33 #[.int .i64 0, .int .i64 0, .string ⟨#[]⟩]
      obtain ⟨u16, eu⟩ : ∃ u', u0.alloc (.cells #[.int .i64 0, .int .i64 0, .string ⟨#[]⟩] 33) = u' := ⟨_, rfl⟩
      obtain ⟨gx, hg⟩ : ∃ g, u0.heap.size = g := ⟨_, rfl⟩
      rw [eu] at hb hN ⊢
      have hgwX : w2.heap.size ≤ gx := by rw [← hg]; exact hB0.out.size
      have hB16 := Lib.hid (hB0.out.trans (hb.mono hB0.out.size))
      rw [hg] at hN ⊢
      have hX16 := Lib.hid hN
      clear hN hb eu hg hB0
      refine ⟨fun _ => SS.out _ hB16.out, ?_⟩
      refine wpY_go rfl ?_
      go_wp2_with fail
      refine (usual_calls u16).mono ?_
      rintro e u17 ⟨g1, rfl, hPx, hb⟩
      have hB17 := Lib.hid (hB16.out.trans (hb.mono hB16.out.size))
      have hX17 := Lib.hid (hX16.out.below hb hX16.out.lt)
      have hP17 := Lib.hid hPx
      clear hPx hb hB16 hX16
      go_wp2_with fail
      refine ⟨fun _ => SS.out _ hB17.out, ?_⟩
      refine wpY_go rfl ?_
      go_wp2_with fail
      refine (values_calls 1 5 ⟨#[]⟩ false u17).mono ?_
      rintro e u18 ⟨g2, rfl, hAx, hb⟩
      have hB18 := Lib.hid (hB17.out.trans (hb.mono hB17.out.size))
      have hP18 := Lib.hid (hP17.out.later hb)
      have hX18 := Lib.hid (hX17.out.below hb hX17.out.lt)
      have hA18 := Lib.hid hAx
      clear hAx hb hB17 hP17 hX17
      go_wp2_with fail
      refine ⟨fun _ => SS.out _ hB18.out, ?_⟩
      refine wpY_go rfl ?_
      go_wp2_with fail
      refine (EV.out u18 g1 g2 hB18.out hP18.out hA18.out).mono ?_
      rintro e u19 ⟨vk, vn, vs, rfl, hval, hb⟩
      have hB19 := Lib.hid (hB18.out.trans (hb.mono hB18.out.size))
      have hP19 := Lib.hid (hP18.out.later hb)
      have hA19 := Lib.hid (hA18.out.later hb)
      have hX19 := Lib.hid (hX18.out.below hb hX18.out.lt)
      have hval' := Lib.hid hval
      clear hval hb hB18 hP18 hA18 hX18
      go_wp2_with fail
      refine ⟨fun _ => SS.out _ hB19.out, ?_⟩
      refine wpY_take (v := ?_) rfl (.inl ⟨by rfl, fun w' hS => ?_⟩) ?_
      rotate_left
      · (try dsimp only at hS)
        go_simp; try with_reducible rfl
      simp only [Act.put, List.setIfInBounds_toArray, List.set_cons_zero, List.set_cons_succ]
      refine wpY_take (v := ?_) rfl (.inl ⟨by rfl, fun w' hS => ?_⟩) ?_
      rotate_left
      · (try dsimp only at hS)
        go_simp; try with_reducible rfl
      simp only [Act.put, List.setIfInBounds_toArray, List.set_cons_zero, List.set_cons_succ]
      refine wpY_take (v := ?_) rfl (.inl ⟨by rfl, fun w' hS => ?_⟩) ?_
      rotate_left
      · (try dsimp only at hS)
        go_simp; try with_reducible rfl
      simp only [Act.put, List.setIfInBounds_toArray, List.set_cons_zero, List.set_cons_succ]
      refine wpY_go rfl ?_
      have gc := hX19.out.cell
      have gf := hX19.out.frozen
      go_wp2_with fail
      clear gc gf
      have hN : Blk (((u19.setCell ⟨gx, 0, none⟩ (.int .i64 vk)).setCell ⟨gx, 1, none⟩ (.int .i64 vn)).setCell ⟨gx, 2, none⟩ (.string vs)) gx 33 #[.int .i64 vk, .int .i64 vn, .string vs] := hX19.out.set3 (.int .i64 vk) (.int .i64 vn) (.string vs)
      have hM : Below w2.heap.size w2 (((u19.setCell ⟨gx, 0, none⟩ (.int .i64 vk)).setCell ⟨gx, 1, none⟩ (.int .i64 vn)).setCell ⟨gx, 2, none⟩ (.string vs)) := below_set3 hB19.out hgwX (.int .i64 vk) (.int .i64 vn) (.string vs)
      obtain ⟨u20, eu⟩ : ∃ u', (((u19.setCell ⟨gx, 0, none⟩ (.int .i64 vk)).setCell ⟨gx, 1, none⟩ (.int .i64 vn)).setCell ⟨gx, 2, none⟩ (.string vs)) = u' := ⟨_, rfl⟩
      rw [eu] at hN hM ⊢
      have hX20 := Lib.hid hN
      have hB20 := Lib.hid hM
      clear hN hM eu hX19 hB19 hP19 hA19
      refine ⟨fun _ => SS.out _ hB20.out, ?_⟩
      refine wpY_go rfl ?_
      go_wp2_with fail
      refine ⟨fun _ => SS.out _ hB20.out, ?_⟩
      refine wpY_done ?_
      go_wp2_with fail
      go_meet
      exact ⟨gx, vk, vn, vs, rfl, rfl, hval'.out, hX20.out, hB20.out⟩
  obtain ⟨gv0, k0, n0, s0, rfl, rfl, hv0, x0, hbx⟩ := hcut
  obtain ⟨w3, hnw⟩ : ∃ x, x = wc := ⟨_, rfl⟩
  subst hnw
  have hB3 := Lib.hid (hB2.out.trans (hbx.mono hB2.out.size))
  have hCV3 := Lib.hid (hCV2.out.later hbx)
  have b3' := Lib.hid (b2'.out.below hbx b2'.out.lt)
  have x0' := Lib.hid x0
  obtain ⟨rfl, rfl, rfl⟩ := vl_is (k' := 1) (n' := 1) (by rw [← hv0]; exact (congrArg (·.1) (wfix_val 1 (by decide))).symm)
  have er0 : (evU 1 5 ⟨#[]⟩ false wfix).2 = 0 := congrArg (·.2) (wfix_val 1 (by decide))
  clear EV SS hbx
  have EV := Lib.hid (fun (W : World) (g1 g2 : Nat) (h : Below w3.heap.size w3 W) (hP : ParAt W g1 0 parL) (hA : AgAt W g2 0 (agL 2 5 ⟨#[]⟩ false)) => evu_calls 2 5 ⟨#[]⟩ false wfix hcw.out W g1 g2 _ hP hA (hCV3.out.later h) (hS'.out.next (hB3.out.trans (h.mono hB3.out.size))))
  have SS : Hid (∀ W, Below w3.heap.size w3 W → ∀ i, W.cell? ⟨c1, i, none⟩ = (#[.int .i64 fk, .int .i64 fm, .string Q, .slice p n c] : Array Value)[i]?) := Lib.hid fun W h => (b3'.out.below h b3'.out.lt).cell
  go_wp2_with fail
  go_cut [6, 7] from 22 to 28 (fun sp se wx => RelV w3 (evU 2 5 ⟨#[]⟩ false wfix) sp se wx)
  case first =>
    refine wp_region_y (fun W => ∀ i, W.cell? ⟨c1, i, none⟩ = (#[.int .i64 fk, .int .i64 fm, .string Q, .slice p n c] : Array Value)[i]?) [] (.take 1 (.both 0 (.both 2 (.both 3 (.take 4 (.take 5 (.take 6 (.go 7 (.go 8 (.go 9 .done)))))) 7 (.go 3 (.take 4 (.take 5 (.take 6 (.go 8 (.go 9 .done))))))) 7 (.go 2 (.go 3 (.take 4 (.take 5 (.take 6 (.go 8 (.go 9 .done)))))))) 7 (.go 0 (.go 2 (.go 3 (.take 4 (.take 5 (.take 6 (.go 8 (.go 9 .done)))))))))) (by kernel_rfl) (by kernel_rfl) (by kernel_rfl) (by kernel_rfl) (fun _ _ _ _ _ h => h) (SS.out _ (Below.refl _ w3).drew) ?_
    obtain ⟨u0, hu0⟩ : ∃ u, w3.drew = u := ⟨_, rfl⟩
    have hB0 := Lib.hid ((Below.refl w3.heap.size w3).drew)
    rw [hu0] at hB0 ⊢
    clear hu0
    refine wpY_take (v := ?_) rfl (.inl ⟨by rfl, fun w' hS => ?_⟩) ?_
    rotate_left
    · (try dsimp only at hS)
      go_simp; try with_reducible rfl
    simp only [Act.put, List.setIfInBounds_toArray, List.set_cons_zero, List.set_cons_succ]
    refine wpY_both rfl rfl ?_ ?_
    · go_wp2_with fail
      refine (usual_calls u0).mono ?_
      rintro e u1 ⟨g1, rfl, hPx, hb⟩
      have hB1 := Lib.hid (hB0.out.trans (hb.mono hB0.out.size))
      have hP1 := Lib.hid hPx
      clear hPx hb hB0
      go_wp2_with fail
      refine ⟨fun _ => SS.out _ hB1.out, ?_⟩
      refine wpY_both rfl rfl ?_ ?_
      · go_wp2_with fail
        refine (values_calls 2 5 ⟨#[]⟩ false u1).mono ?_
        rintro e u2 ⟨g2, rfl, hAx, hb⟩
        have hB2 := Lib.hid (hB1.out.trans (hb.mono hB1.out.size))
        have hP2 := Lib.hid (hP1.out.later hb)
        have hA2 := Lib.hid hAx
        clear hAx hb hB1 hP1
        go_wp2_with fail
        refine ⟨fun _ => SS.out _ hB2.out, ?_⟩
        refine wpY_both rfl rfl ?_ ?_
        · go_wp2_with fail
          refine (EV.out u2 g1 g2 hB2.out hP2.out hA2.out).mono ?_
          rintro e u3 ⟨vk, vn, vs, rfl, hval, hb⟩
          have hB3 := Lib.hid (hB2.out.trans (hb.mono hB2.out.size))
          have hP3 := Lib.hid (hP2.out.later hb)
          have hA3 := Lib.hid (hA2.out.later hb)
          have hval' := Lib.hid hval
          clear hval hb hB2 hP2 hA2
          go_wp2_with fail
          refine ⟨fun _ => SS.out _ hB3.out, ?_⟩
          refine wpY_take (v := ?_) rfl (.inl ⟨by rfl, fun w' hS => ?_⟩) ?_
          rotate_left
          · (try dsimp only at hS)
            go_simp; try with_reducible rfl
          simp only [Act.put, List.setIfInBounds_toArray, List.set_cons_zero, List.set_cons_succ]
          refine wpY_take (v := ?_) rfl (.inl ⟨by rfl, fun w' hS => ?_⟩) ?_
          rotate_left
          · (try dsimp only at hS)
            go_simp; try with_reducible rfl
          simp only [Act.put, List.setIfInBounds_toArray, List.set_cons_zero, List.set_cons_succ]
          refine wpY_take (v := ?_) rfl (.inl ⟨by rfl, fun w' hS => ?_⟩) ?_
          rotate_left
          · (try dsimp only at hS)
            go_simp; try with_reducible rfl
          simp only [Act.put, List.setIfInBounds_toArray, List.set_cons_zero, List.set_cons_succ]
          refine wpY_go rfl ?_
          go_wp2_with fail
          have hb := (Below.refl u3.heap.size u3).alloc (Nat.le_refl _) (.cells #[.int .i64 0, .int .i64 0, .string ⟨#[]⟩] 33)
          have hN := Blk.new u3 33 #[.int .i64 0, .int .i64 0, .string ⟨#[]⟩]
          obtain ⟨u4, eu⟩ : ∃ u', u3.alloc (.cells #[.int .i64 0, .int .i64 0, .string ⟨#[]⟩] 33) = u' := ⟨_, rfl⟩
          obtain ⟨gx, hg⟩ : ∃ g, u3.heap.size = g := ⟨_, rfl⟩
          rw [eu] at hb hN ⊢
          have hgwX : w3.heap.size ≤ gx := by rw [← hg]; exact hB3.out.size
          have hB4 := Lib.hid (hB3.out.trans (hb.mono hB3.out.size))
          have hP4 := Lib.hid (hP3.out.later hb)
          have hA4 := Lib.hid (hA3.out.later hb)
          rw [hg] at hN ⊢
          have hX4 := Lib.hid hN
          clear hN hb eu hg hB3 hP3 hA3
          refine ⟨fun _ => SS.out _ hB4.out, ?_⟩
          refine wpY_go rfl ?_
          have gc := hX4.out.cell
          have gf := hX4.out.frozen
          go_wp2_with fail
          clear gc gf
          have hN : Blk (((u4.setCell ⟨gx, 0, none⟩ (.int .i64 vk)).setCell ⟨gx, 1, none⟩ (.int .i64 vn)).setCell ⟨gx, 2, none⟩ (.string vs)) gx 33 #[.int .i64 vk, .int .i64 vn, .string vs] := hX4.out.set3 (.int .i64 vk) (.int .i64 vn) (.string vs)
          have hM : Below w3.heap.size w3 (((u4.setCell ⟨gx, 0, none⟩ (.int .i64 vk)).setCell ⟨gx, 1, none⟩ (.int .i64 vn)).setCell ⟨gx, 2, none⟩ (.string vs)) := below_set3 hB4.out hgwX (.int .i64 vk) (.int .i64 vn) (.string vs)
          obtain ⟨u5, eu⟩ : ∃ u', (((u4.setCell ⟨gx, 0, none⟩ (.int .i64 vk)).setCell ⟨gx, 1, none⟩ (.int .i64 vn)).setCell ⟨gx, 2, none⟩ (.string vs)) = u' := ⟨_, rfl⟩
          rw [eu] at hN hM ⊢
          have hX5 := Lib.hid hN
          have hB5 := Lib.hid hM
          clear hN hM eu hX4 hB4 hP4 hA4
          refine ⟨fun _ => SS.out _ hB5.out, ?_⟩
          refine wpY_go rfl ?_
          go_wp2_with fail
          refine ⟨fun _ => SS.out _ hB5.out, ?_⟩
          refine wpY_done ?_
          go_wp2_with fail
          go_meet
          exact ⟨gx, vk, vn, vs, rfl, rfl, hval'.out, hX5.out, hB5.out⟩
        · go_wp2_with fail
          have hb := (Below.refl u2.heap.size u2).alloc (Nat.le_refl _) (.cells #[.int .i64 0, .int .i64 0, .string ⟨#[]⟩] 33)
          have hN := Blk.new u2 33 #[.int .i64 0, .int .i64 0, .string ⟨#[]⟩]
          obtain ⟨u7, eu⟩ : ∃ u', u2.alloc (.cells #[.int .i64 0, .int .i64 0, .string ⟨#[]⟩] 33) = u' := ⟨_, rfl⟩
          obtain ⟨gx, hg⟩ : ∃ g, u2.heap.size = g := ⟨_, rfl⟩
          rw [eu] at hb hN ⊢
          have hgwX : w3.heap.size ≤ gx := by rw [← hg]; exact hB2.out.size
          have hB7 := Lib.hid (hB2.out.trans (hb.mono hB2.out.size))
          have hP7 := Lib.hid (hP2.out.later hb)
          have hA7 := Lib.hid (hA2.out.later hb)
          rw [hg] at hN ⊢
          have hX7 := Lib.hid hN
          clear hN hb eu hg hB2 hP2 hA2
          refine ⟨fun _ => SS.out _ hB7.out, ?_⟩
          refine wpY_go rfl ?_
          go_wp2_with fail
          refine (EV.out u7 g1 g2 hB7.out hP7.out hA7.out).mono ?_
          rintro e u8 ⟨vk, vn, vs, rfl, hval, hb⟩
          have hB8 := Lib.hid (hB7.out.trans (hb.mono hB7.out.size))
          have hP8 := Lib.hid (hP7.out.later hb)
          have hA8 := Lib.hid (hA7.out.later hb)
          have hX8 := Lib.hid (hX7.out.below hb hX7.out.lt)
          have hval' := Lib.hid hval
          clear hval hb hB7 hP7 hA7 hX7
          go_wp2_with fail
          refine ⟨fun _ => SS.out _ hB8.out, ?_⟩
          refine wpY_take (v := ?_) rfl (.inl ⟨by rfl, fun w' hS => ?_⟩) ?_
          rotate_left
          · (try dsimp only at hS)
            go_simp; try with_reducible rfl
          simp only [Act.put, List.setIfInBounds_toArray, List.set_cons_zero, List.set_cons_succ]
          refine wpY_take (v := ?_) rfl (.inl ⟨by rfl, fun w' hS => ?_⟩) ?_
          rotate_left
          · (try dsimp only at hS)
            go_simp; try with_reducible rfl
          simp only [Act.put, List.setIfInBounds_toArray, List.set_cons_zero, List.set_cons_succ]
          refine wpY_take (v := ?_) rfl (.inl ⟨by rfl, fun w' hS => ?_⟩) ?_
          rotate_left
          · (try dsimp only at hS)
            go_simp; try with_reducible rfl
          simp only [Act.put, List.setIfInBounds_toArray, List.set_cons_zero, List.set_cons_succ]
          refine wpY_go rfl ?_
          have gc := hX8.out.cell
          have gf := hX8.out.frozen
          go_wp2_with fail
          clear gc gf
          have hN : Blk (((u8.setCell ⟨gx, 0, none⟩ (.int .i64 vk)).setCell ⟨gx, 1, none⟩ (.int .i64 vn)).setCell ⟨gx, 2, none⟩ (.string vs)) gx 33 #[.int .i64 vk, .int .i64 vn, .string vs] := hX8.out.set3 (.int .i64 vk) (.int .i64 vn) (.string vs)
          have hM : Below w3.heap.size w3 (((u8.setCell ⟨gx, 0, none⟩ (.int .i64 vk)).setCell ⟨gx, 1, none⟩ (.int .i64 vn)).setCell ⟨gx, 2, none⟩ (.string vs)) := below_set3 hB8.out hgwX (.int .i64 vk) (.int .i64 vn) (.string vs)
          obtain ⟨u9, eu⟩ : ∃ u', (((u8.setCell ⟨gx, 0, none⟩ (.int .i64 vk)).setCell ⟨gx, 1, none⟩ (.int .i64 vn)).setCell ⟨gx, 2, none⟩ (.string vs)) = u' := ⟨_, rfl⟩
          rw [eu] at hN hM ⊢
          have hX9 := Lib.hid hN
          have hB9 := Lib.hid hM
          clear hN hM eu hX8 hB8 hP8 hA8
          refine ⟨fun _ => SS.out _ hB9.out, ?_⟩
          refine wpY_go rfl ?_
          go_wp2_with fail
          refine ⟨fun _ => SS.out _ hB9.out, ?_⟩
          refine wpY_done ?_
          go_wp2_with fail
          go_meet
          exact ⟨gx, vk, vn, vs, rfl, rfl, hval'.out, hX9.out, hB9.out⟩
      · go_wp2_with fail
        have hb := (Below.refl u1.heap.size u1).alloc (Nat.le_refl _) (.cells #[.int .i64 0, .int .i64 0, .string ⟨#[]⟩] 33)
        have hN := Blk.new u1 33 #[.int .i64 0, .int .i64 0, .string ⟨#[]⟩]
        obtain ⟨u11, eu⟩ : ∃ u', u1.alloc (.cells #[.int .i64 0, .int .i64 0, .string ⟨#[]⟩] 33) = u' := ⟨_, rfl⟩
        obtain ⟨gx, hg⟩ : ∃ g, u1.heap.size = g := ⟨_, rfl⟩
        rw [eu] at hb hN ⊢
        have hgwX : w3.heap.size ≤ gx := by rw [← hg]; exact hB1.out.size
        have hB11 := Lib.hid (hB1.out.trans (hb.mono hB1.out.size))
        have hP11 := Lib.hid (hP1.out.later hb)
        rw [hg] at hN ⊢
        have hX11 := Lib.hid hN
        clear hN hb eu hg hB1 hP1
        refine ⟨fun _ => SS.out _ hB11.out, ?_⟩
        refine wpY_go rfl ?_
        go_wp2_with fail
        refine (values_calls 2 5 ⟨#[]⟩ false u11).mono ?_
        rintro e u12 ⟨g2, rfl, hAx, hb⟩
        have hB12 := Lib.hid (hB11.out.trans (hb.mono hB11.out.size))
        have hP12 := Lib.hid (hP11.out.later hb)
        have hX12 := Lib.hid (hX11.out.below hb hX11.out.lt)
        have hA12 := Lib.hid hAx
        clear hAx hb hB11 hP11 hX11
        go_wp2_with fail
        refine ⟨fun _ => SS.out _ hB12.out, ?_⟩
        refine wpY_go rfl ?_
        go_wp2_with fail
        refine (EV.out u12 g1 g2 hB12.out hP12.out hA12.out).mono ?_
        rintro e u13 ⟨vk, vn, vs, rfl, hval, hb⟩
        have hB13 := Lib.hid (hB12.out.trans (hb.mono hB12.out.size))
        have hP13 := Lib.hid (hP12.out.later hb)
        have hA13 := Lib.hid (hA12.out.later hb)
        have hX13 := Lib.hid (hX12.out.below hb hX12.out.lt)
        have hval' := Lib.hid hval
        clear hval hb hB12 hP12 hA12 hX12
        go_wp2_with fail
        refine ⟨fun _ => SS.out _ hB13.out, ?_⟩
        refine wpY_take (v := ?_) rfl (.inl ⟨by rfl, fun w' hS => ?_⟩) ?_
        rotate_left
        · (try dsimp only at hS)
          go_simp; try with_reducible rfl
        simp only [Act.put, List.setIfInBounds_toArray, List.set_cons_zero, List.set_cons_succ]
        refine wpY_take (v := ?_) rfl (.inl ⟨by rfl, fun w' hS => ?_⟩) ?_
        rotate_left
        · (try dsimp only at hS)
          go_simp; try with_reducible rfl
        simp only [Act.put, List.setIfInBounds_toArray, List.set_cons_zero, List.set_cons_succ]
        refine wpY_take (v := ?_) rfl (.inl ⟨by rfl, fun w' hS => ?_⟩) ?_
        rotate_left
        · (try dsimp only at hS)
          go_simp; try with_reducible rfl
        simp only [Act.put, List.setIfInBounds_toArray, List.set_cons_zero, List.set_cons_succ]
        refine wpY_go rfl ?_
        have gc := hX13.out.cell
        have gf := hX13.out.frozen
        go_wp2_with fail
        clear gc gf
        have hN : Blk (((u13.setCell ⟨gx, 0, none⟩ (.int .i64 vk)).setCell ⟨gx, 1, none⟩ (.int .i64 vn)).setCell ⟨gx, 2, none⟩ (.string vs)) gx 33 #[.int .i64 vk, .int .i64 vn, .string vs] := hX13.out.set3 (.int .i64 vk) (.int .i64 vn) (.string vs)
        have hM : Below w3.heap.size w3 (((u13.setCell ⟨gx, 0, none⟩ (.int .i64 vk)).setCell ⟨gx, 1, none⟩ (.int .i64 vn)).setCell ⟨gx, 2, none⟩ (.string vs)) := below_set3 hB13.out hgwX (.int .i64 vk) (.int .i64 vn) (.string vs)
        obtain ⟨u14, eu⟩ : ∃ u', (((u13.setCell ⟨gx, 0, none⟩ (.int .i64 vk)).setCell ⟨gx, 1, none⟩ (.int .i64 vn)).setCell ⟨gx, 2, none⟩ (.string vs)) = u' := ⟨_, rfl⟩
        rw [eu] at hN hM ⊢
        have hX14 := Lib.hid hN
        have hB14 := Lib.hid hM
        clear hN hM eu hX13 hB13 hP13 hA13
        refine ⟨fun _ => SS.out _ hB14.out, ?_⟩
        refine wpY_go rfl ?_
        go_wp2_with fail
        refine ⟨fun _ => SS.out _ hB14.out, ?_⟩
        refine wpY_done ?_
        go_wp2_with fail
        go_meet
        exact ⟨gx, vk, vn, vs, rfl, rfl, hval'.out, hX14.out, hB14.out⟩
    · go_wp2_with fail
      have hb := (Below.refl u0.heap.size u0).alloc (Nat.le_refl _) (.cells #[.int .i64 0, .int .i64 0, .string ⟨#[]⟩] 33)
      have hN := Blk.new u0 33 #[.int .i64 0, .int .i64 0, .string ⟨#[]⟩]
      obtain ⟨u16, eu⟩ : ∃ u', u0.alloc (.cells #[.int .i64 0, .int .i64 0, .string ⟨#[]⟩] 33) = u' := ⟨_, rfl⟩
      obtain ⟨gx, hg⟩ : ∃ g, u0.heap.size = g := ⟨_, rfl⟩
      rw [eu] at hb hN ⊢
      have hgwX : w3.heap.size ≤ gx := by rw [← hg]; exact hB0.out.size
      have hB16 := Lib.hid (hB0.out.trans (hb.mono hB0.out.size))
      rw [hg] at hN ⊢
      have hX16 := Lib.hid hN
      clear hN hb eu hg hB0
      refine ⟨fun _ => SS.out _ hB16.out, ?_⟩
      refine wpY_go rfl ?_
      go_wp2_with fail
      refine (usual_calls u16).mono ?_
      rintro e u17 ⟨g1, rfl, hPx, hb⟩
      have hB17 := Lib.hid (hB16.out.trans (hb.mono hB16.out.size))
      have hX17 := Lib.hid (hX16.out.below hb hX16.out.lt)
      have hP17 := Lib.hid hPx
      clear hPx hb hB16 hX16
      go_wp2_with fail
      refine ⟨fun _ => SS.out _ hB17.out, ?_⟩
      refine wpY_go rfl ?_
      go_wp2_with fail
      refine (values_calls 2 5 ⟨#[]⟩ false u17).mono ?_
      rintro e u18 ⟨g2, rfl, hAx, hb⟩
      have hB18 := Lib.hid (hB17.out.trans (hb.mono hB17.out.size))
      have hP18 := Lib.hid (hP17.out.later hb)
      have hX18 := Lib.hid (hX17.out.below hb hX17.out.lt)
      have hA18 := Lib.hid hAx
      clear hAx hb hB17 hP17 hX17
      go_wp2_with fail
      refine ⟨fun _ => SS.out _ hB18.out, ?_⟩
      refine wpY_go rfl ?_
      go_wp2_with fail
      refine (EV.out u18 g1 g2 hB18.out hP18.out hA18.out).mono ?_
      rintro e u19 ⟨vk, vn, vs, rfl, hval, hb⟩
      have hB19 := Lib.hid (hB18.out.trans (hb.mono hB18.out.size))
      have hP19 := Lib.hid (hP18.out.later hb)
      have hA19 := Lib.hid (hA18.out.later hb)
      have hX19 := Lib.hid (hX18.out.below hb hX18.out.lt)
      have hval' := Lib.hid hval
      clear hval hb hB18 hP18 hA18 hX18
      go_wp2_with fail
      refine ⟨fun _ => SS.out _ hB19.out, ?_⟩
      refine wpY_take (v := ?_) rfl (.inl ⟨by rfl, fun w' hS => ?_⟩) ?_
      rotate_left
      · (try dsimp only at hS)
        go_simp; try with_reducible rfl
      simp only [Act.put, List.setIfInBounds_toArray, List.set_cons_zero, List.set_cons_succ]
      refine wpY_take (v := ?_) rfl (.inl ⟨by rfl, fun w' hS => ?_⟩) ?_
      rotate_left
      · (try dsimp only at hS)
        go_simp; try with_reducible rfl
      simp only [Act.put, List.setIfInBounds_toArray, List.set_cons_zero, List.set_cons_succ]
      refine wpY_take (v := ?_) rfl (.inl ⟨by rfl, fun w' hS => ?_⟩) ?_
      rotate_left
      · (try dsimp only at hS)
        go_simp; try with_reducible rfl
      simp only [Act.put, List.setIfInBounds_toArray, List.set_cons_zero, List.set_cons_succ]
      refine wpY_go rfl ?_
      have gc := hX19.out.cell
      have gf := hX19.out.frozen
      go_wp2_with fail
      clear gc gf
      have hN : Blk (((u19.setCell ⟨gx, 0, none⟩ (.int .i64 vk)).setCell ⟨gx, 1, none⟩ (.int .i64 vn)).setCell ⟨gx, 2, none⟩ (.string vs)) gx 33 #[.int .i64 vk, .int .i64 vn, .string vs] := hX19.out.set3 (.int .i64 vk) (.int .i64 vn) (.string vs)
      have hM : Below w3.heap.size w3 (((u19.setCell ⟨gx, 0, none⟩ (.int .i64 vk)).setCell ⟨gx, 1, none⟩ (.int .i64 vn)).setCell ⟨gx, 2, none⟩ (.string vs)) := below_set3 hB19.out hgwX (.int .i64 vk) (.int .i64 vn) (.string vs)
      obtain ⟨u20, eu⟩ : ∃ u', (((u19.setCell ⟨gx, 0, none⟩ (.int .i64 vk)).setCell ⟨gx, 1, none⟩ (.int .i64 vn)).setCell ⟨gx, 2, none⟩ (.string vs)) = u' := ⟨_, rfl⟩
      rw [eu] at hN hM ⊢
      have hX20 := Lib.hid hN
      have hB20 := Lib.hid hM
      clear hN hM eu hX19 hB19 hP19 hA19
      refine ⟨fun _ => SS.out _ hB20.out, ?_⟩
      refine wpY_go rfl ?_
      go_wp2_with fail
      refine ⟨fun _ => SS.out _ hB20.out, ?_⟩
      refine wpY_done ?_
      go_wp2_with fail
      go_meet
      exact ⟨gx, vk, vn, vs, rfl, rfl, hval'.out, hX20.out, hB20.out⟩
  obtain ⟨gv1, k1, n1, s1, rfl, rfl, hv1, x1, hbx⟩ := hcut
  obtain ⟨w4, hnw⟩ : ∃ x, x = wc := ⟨_, rfl⟩
  subst hnw
  have hB4 := Lib.hid (hB3.out.trans (hbx.mono hB3.out.size))
  have hCV4 := Lib.hid (hCV3.out.later hbx)
  have b4' := Lib.hid (b3'.out.below hbx b3'.out.lt)
  have x1' := Lib.hid x1
  have x0x := Lib.hid (x0'.out.below hbx x0'.out.lt)
  obtain ⟨rfl, rfl, rfl⟩ := vl_is (k' := 1) (n' := 0) (by rw [← hv1]; exact (congrArg (·.1) (wfix_val 2 (by decide))).symm)
  have er1 : (evU 2 5 ⟨#[]⟩ false wfix).2 = 0 := congrArg (·.2) (wfix_val 2 (by decide))
  clear EV SS hbx
  have EV := Lib.hid (fun (W : World) (g1 : Nat) (h : Below w4.heap.size w4 W) (hP : ParAt W g1 0 parL) => evn_calls wfix hcw.out W g1 _ hP (hCV4.out.later h) (hS'.out.next (hB4.out.trans (h.mono hB4.out.size))))
  have SS : Hid (∀ W, Below w4.heap.size w4 W → ∀ i, W.cell? ⟨c1, i, none⟩ = (#[.int .i64 fk, .int .i64 fm, .string Q, .slice p n c] : Array Value)[i]?) := Lib.hid fun W h => (b4'.out.below h b4'.out.lt).cell
  go_wp2_with fail
  go_cut [8, 9] from 29 to 34 (fun sp se wx => RelV w4 (evalC (kindOf parL) (bookV []) (openE parL []) wfix) sp se wx)
  case first =>
    refine wp_region_y (fun W => ∀ i, W.cell? ⟨c1, i, none⟩ = (#[.int .i64 fk, .int .i64 fm, .string Q, .slice p n c] : Array Value)[i]?) [] (.take 1 (.both 0 (.both 2 (.take 3 (.take 4 (.take 5 (.go 6 (.go 7 (.go 8 .done)))))) 6 (.go 2 (.take 3 (.take 4 (.take 5 (.go 7 (.go 8 .done))))))) 6 (.go 0 (.go 2 (.take 3 (.take 4 (.take 5 (.go 7 (.go 8 .done))))))))) (by kernel_rfl) (by kernel_rfl) (by kernel_rfl) (by kernel_rfl) (fun _ _ _ _ _ h => h) (SS.out _ (Below.refl _ w4).drew) ?_
    obtain ⟨u0, hu0⟩ : ∃ u, w4.drew = u := ⟨_, rfl⟩
    have hB0 := Lib.hid ((Below.refl w4.heap.size w4).drew)
    rw [hu0] at hB0 ⊢
    clear hu0
    refine wpY_take (v := ?_) rfl (.inl ⟨by rfl, fun w' hS => ?_⟩) ?_
    rotate_left
    · (try dsimp only at hS)
      go_simp; try with_reducible rfl
    simp only [Act.put, List.setIfInBounds_toArray, List.set_cons_zero, List.set_cons_succ]
    refine wpY_both rfl rfl ?_ ?_
    · go_wp2_with fail
      refine (usual_calls u0).mono ?_
      rintro e u1 ⟨g1, rfl, hPx, hb⟩
      have hB1 := Lib.hid (hB0.out.trans (hb.mono hB0.out.size))
      have hP1 := Lib.hid hPx
      clear hPx hb hB0
      go_wp2_with fail
      refine ⟨fun _ => SS.out _ hB1.out, ?_⟩
      refine wpY_both rfl rfl ?_ ?_
      · go_wp2_with fail
        refine (EV.out u1 g1 hB1.out hP1.out).mono ?_
        rintro e u2 ⟨vk, vn, vs, rfl, hval, hb⟩
        have hB2 := Lib.hid (hB1.out.trans (hb.mono hB1.out.size))
        have hP2 := Lib.hid (hP1.out.later hb)
        have hval' := Lib.hid hval
        clear hval hb hB1 hP1
        go_wp2_with fail
        refine ⟨fun _ => SS.out _ hB2.out, ?_⟩
        refine wpY_take (v := ?_) rfl (.inl ⟨by rfl, fun w' hS => ?_⟩) ?_
        rotate_left
        · (try dsimp only at hS)
          go_simp; try with_reducible rfl
        simp only [Act.put, List.setIfInBounds_toArray, List.set_cons_zero, List.set_cons_succ]
        refine wpY_take (v := ?_) rfl (.inl ⟨by rfl, fun w' hS => ?_⟩) ?_
        rotate_left
        · (try dsimp only at hS)
          go_simp; try with_reducible rfl
        simp only [Act.put, List.setIfInBounds_toArray, List.set_cons_zero, List.set_cons_succ]
        refine wpY_take (v := ?_) rfl (.inl ⟨by rfl, fun w' hS => ?_⟩) ?_
        rotate_left
        · (try dsimp only at hS)
          go_simp; try with_reducible rfl
        simp only [Act.put, List.setIfInBounds_toArray, List.set_cons_zero, List.set_cons_succ]
        refine wpY_go rfl ?_
        go_wp2_with fail
        have hb := (Below.refl u2.heap.size u2).alloc (Nat.le_refl _) (.cells #[.int .i64 0, .int .i64 0, .string ⟨#[]⟩] 33)
        have hN := Blk.new u2 33 #[.int .i64 0, .int .i64 0, .string ⟨#[]⟩]
        obtain ⟨u3, eu⟩ : ∃ u', u2.alloc (.cells #[.int .i64 0, .int .i64 0, .string ⟨#[]⟩] 33) = u' := ⟨_, rfl⟩
        obtain ⟨gx, hg⟩ : ∃ g, u2.heap.size = g := ⟨_, rfl⟩
        rw [eu] at hb hN ⊢
        have hgwX : w4.heap.size ≤ gx := by rw [← hg]; exact hB2.out.size
        have hB3 := Lib.hid (hB2.out.trans (hb.mono hB2.out.size))
        have hP3 := Lib.hid (hP2.out.later hb)
        rw [hg] at hN ⊢
        have hX3 := Lib.hid hN
        clear hN hb eu hg hB2 hP2
        refine ⟨fun _ => SS.out _ hB3.out, ?_⟩
        refine wpY_go rfl ?_
        have gc := hX3.out.cell
        have gf := hX3.out.frozen
        go_wp2_with fail
        clear gc gf
        have hN : Blk (((u3.setCell ⟨gx, 0, none⟩ (.int .i64 vk)).setCell ⟨gx, 1, none⟩ (.int .i64 vn)).setCell ⟨gx, 2, none⟩ (.string vs)) gx 33 #[.int .i64 vk, .int .i64 vn, .string vs] := hX3.out.set3 (.int .i64 vk) (.int .i64 vn) (.string vs)
        have hM : Below w4.heap.size w4 (((u3.setCell ⟨gx, 0, none⟩ (.int .i64 vk)).setCell ⟨gx, 1, none⟩ (.int .i64 vn)).setCell ⟨gx, 2, none⟩ (.string vs)) := below_set3 hB3.out hgwX (.int .i64 vk) (.int .i64 vn) (.string vs)
        obtain ⟨u4, eu⟩ : ∃ u', (((u3.setCell ⟨gx, 0, none⟩ (.int .i64 vk)).setCell ⟨gx, 1, none⟩ (.int .i64 vn)).setCell ⟨gx, 2, none⟩ (.string vs)) = u' := ⟨_, rfl⟩
        rw [eu] at hN hM ⊢
        have hX4 := Lib.hid hN
        have hB4 := Lib.hid hM
        clear hN hM eu hX3 hB3 hP3
        refine ⟨fun _ => SS.out _ hB4.out, ?_⟩
        refine wpY_go rfl ?_
        go_wp2_with fail
        refine ⟨fun _ => SS.out _ hB4.out, ?_⟩
        refine wpY_done ?_
        go_wp2_with fail
        go_meet
        exact ⟨gx, vk, vn, vs, rfl, rfl, hval'.out, hX4.out, hB4.out⟩
      · go_wp2_with fail
        have hb := (Below.refl u1.heap.size u1).alloc (Nat.le_refl _) (.cells #[.int .i64 0, .int .i64 0, .string ⟨#[]⟩] 33)
        have hN := Blk.new u1 33 #[.int .i64 0, .int .i64 0, .string ⟨#[]⟩]
        obtain ⟨u6, eu⟩ : ∃ u', u1.alloc (.cells #[.int .i64 0, .int .i64 0, .string ⟨#[]⟩] 33) = u' := ⟨_, rfl⟩
        obtain ⟨gx, hg⟩ : ∃ g, u1.heap.size = g := ⟨_, rfl⟩
        rw [eu] at hb hN ⊢
        have hgwX : w4.heap.size ≤ gx := by rw [← hg]; exact hB1.out.size
        have hB6 := Lib.hid (hB1.out.trans (hb.mono hB1.out.size))
        have hP6 := Lib.hid (hP1.out.later hb)
        rw [hg] at hN ⊢
        have hX6 := Lib.hid hN
        clear hN hb eu hg hB1 hP1
        refine ⟨fun _ => SS.out _ hB6.out, ?_⟩
        refine wpY_go rfl ?_
        go_wp2_with fail
        refine (EV.out u6 g1 hB6.out hP6.out).mono ?_
        rintro e u7 ⟨vk, vn, vs, rfl, hval, hb⟩
        have hB7 := Lib.hid (hB6.out.trans (hb.mono hB6.out.size))
        have hP7 := Lib.hid (hP6.out.later hb)
        have hX7 := Lib.hid (hX6.out.below hb hX6.out.lt)
        have hval' := Lib.hid hval
        clear hval hb hB6 hP6 hX6
        go_wp2_with fail
        refine ⟨fun _ => SS.out _ hB7.out, ?_⟩
        refine wpY_take (v := ?_) rfl (.inl ⟨by rfl, fun w' hS => ?_⟩) ?_
        rotate_left
        · (try dsimp only at hS)
          go_simp; try with_reducible rfl
        simp only [Act.put, List.setIfInBounds_toArray, List.set_cons_zero, List.set_cons_succ]
        refine wpY_take (v := ?_) rfl (.inl ⟨by rfl, fun w' hS => ?_⟩) ?_
        rotate_left
        · (try dsimp only at hS)
          go_simp; try with_reducible rfl
        simp only [Act.put, List.setIfInBounds_toArray, List.set_cons_zero, List.set_cons_succ]
        refine wpY_take (v := ?_) rfl (.inl ⟨by rfl, fun w' hS => ?_⟩) ?_
        rotate_left
        · (try dsimp only at hS)
          go_simp; try with_reducible rfl
        simp only [Act.put, List.setIfInBounds_toArray, List.set_cons_zero, List.set_cons_succ]
        refine wpY_go rfl ?_
        have gc := hX7.out.cell
        have gf := hX7.out.frozen
        go_wp2_with fail
        clear gc gf
        have hN : Blk (((u7.setCell ⟨gx, 0, none⟩ (.int .i64 vk)).setCell ⟨gx, 1, none⟩ (.int .i64 vn)).setCell ⟨gx, 2, none⟩ (.string vs)) gx 33 #[.int .i64 vk, .int .i64 vn, .string vs] := hX7.out.set3 (.int .i64 vk) (.int .i64 vn) (.string vs)
        have hM : Below w4.heap.size w4 (((u7.setCell ⟨gx, 0, none⟩ (.int .i64 vk)).setCell ⟨gx, 1, none⟩ (.int .i64 vn)).setCell ⟨gx, 2, none⟩ (.string vs)) := below_set3 hB7.out hgwX (.int .i64 vk) (.int .i64 vn) (.string vs)
        obtain ⟨u8, eu⟩ : ∃ u', (((u7.setCell ⟨gx, 0, none⟩ (.int .i64 vk)).setCell ⟨gx, 1, none⟩ (.int .i64 vn)).setCell ⟨gx, 2, none⟩ (.string vs)) = u' := ⟨_, rfl⟩
        rw [eu] at hN hM ⊢
        have hX8 := Lib.hid hN
        have hB8 := Lib.hid hM
        clear hN hM eu hX7 hB7 hP7
        refine ⟨fun _ => SS.out _ hB8.out, ?_⟩
        refine wpY_go rfl ?_
        go_wp2_with fail
        refine ⟨fun _ => SS.out _ hB8.out, ?_⟩
        refine wpY_done ?_
        go_wp2_with fail
        go_meet
        exact ⟨gx, vk, vn, vs, rfl, rfl, hval'.out, hX8.out, hB8.out⟩
    · go_wp2_with fail
      have hb := (Below.refl u0.heap.size u0).alloc (Nat.le_refl _) (.cells #[.int .i64 0, .int .i64 0, .string ⟨#[]⟩] 33)
      have hN := Blk.new u0 33 #[.int .i64 0, .int .i64 0, .string ⟨#[]⟩]
      obtain ⟨u10, eu⟩ : ∃ u', u0.alloc (.cells #[.int .i64 0, .int .i64 0, .string ⟨#[]⟩] 33) = u' := ⟨_, rfl⟩
      obtain ⟨gx, hg⟩ : ∃ g, u0.heap.size = g := ⟨_, rfl⟩
      rw [eu] at hb hN ⊢
      have hgwX : w4.heap.size ≤ gx := by rw [← hg]; exact hB0.out.size
      have hB10 := Lib.hid (hB0.out.trans (hb.mono hB0.out.size))
      rw [hg] at hN ⊢
      have hX10 := Lib.hid hN
      clear hN hb eu hg hB0
      refine ⟨fun _ => SS.out _ hB10.out, ?_⟩
      refine wpY_go rfl ?_
      go_wp2_with fail
      refine (usual_calls u10).mono ?_
      rintro e u11 ⟨g1, rfl, hPx, hb⟩
      have hB11 := Lib.hid (hB10.out.trans (hb.mono hB10.out.size))
      have hX11 := Lib.hid (hX10.out.below hb hX10.out.lt)
      have hP11 := Lib.hid hPx
      clear hPx hb hB10 hX10
      go_wp2_with fail
      refine ⟨fun _ => SS.out _ hB11.out, ?_⟩
      refine wpY_go rfl ?_
      go_wp2_with fail
      refine (EV.out u11 g1 hB11.out hP11.out).mono ?_
      rintro e u12 ⟨vk, vn, vs, rfl, hval, hb⟩
      have hB12 := Lib.hid (hB11.out.trans (hb.mono hB11.out.size))
      have hP12 := Lib.hid (hP11.out.later hb)
      have hX12 := Lib.hid (hX11.out.below hb hX11.out.lt)
      have hval' := Lib.hid hval
      clear hval hb hB11 hP11 hX11
      go_wp2_with fail
      refine ⟨fun _ => SS.out _ hB12.out, ?_⟩
      refine wpY_take (v := ?_) rfl (.inl ⟨by rfl, fun w' hS => ?_⟩) ?_
      rotate_left
      · (try dsimp only at hS)
        go_simp; try with_reducible rfl
      simp only [Act.put, List.setIfInBounds_toArray, List.set_cons_zero, List.set_cons_succ]
      refine wpY_take (v := ?_) rfl (.inl ⟨by rfl, fun w' hS => ?_⟩) ?_
      rotate_left
      · (try dsimp only at hS)
        go_simp; try with_reducible rfl
      simp only [Act.put, List.setIfInBounds_toArray, List.set_cons_zero, List.set_cons_succ]
      refine wpY_take (v := ?_) rfl (.inl ⟨by rfl, fun w' hS => ?_⟩) ?_
      rotate_left
      · (try dsimp only at hS)
        go_simp; try with_reducible rfl
      simp only [Act.put, List.setIfInBounds_toArray, List.set_cons_zero, List.set_cons_succ]
      refine wpY_go rfl ?_
      have gc := hX12.out.cell
      have gf := hX12.out.frozen
      go_wp2_with fail
      clear gc gf
      have hN : Blk (((u12.setCell ⟨gx, 0, none⟩ (.int .i64 vk)).setCell ⟨gx, 1, none⟩ (.int .i64 vn)).setCell ⟨gx, 2, none⟩ (.string vs)) gx 33 #[.int .i64 vk, .int .i64 vn, .string vs] := hX12.out.set3 (.int .i64 vk) (.int .i64 vn) (.string vs)
      have hM : Below w4.heap.size w4 (((u12.setCell ⟨gx, 0, none⟩ (.int .i64 vk)).setCell ⟨gx, 1, none⟩ (.int .i64 vn)).setCell ⟨gx, 2, none⟩ (.string vs)) := below_set3 hB12.out hgwX (.int .i64 vk) (.int .i64 vn) (.string vs)
      obtain ⟨u13, eu⟩ : ∃ u', (((u12.setCell ⟨gx, 0, none⟩ (.int .i64 vk)).setCell ⟨gx, 1, none⟩ (.int .i64 vn)).setCell ⟨gx, 2, none⟩ (.string vs)) = u' := ⟨_, rfl⟩
      rw [eu] at hN hM ⊢
      have hX13 := Lib.hid hN
      have hB13 := Lib.hid hM
      clear hN hM eu hX12 hB12 hP12
      refine ⟨fun _ => SS.out _ hB13.out, ?_⟩
      refine wpY_go rfl ?_
      go_wp2_with fail
      refine ⟨fun _ => SS.out _ hB13.out, ?_⟩
      refine wpY_done ?_
      go_wp2_with fail
      go_meet
      exact ⟨gx, vk, vn, vs, rfl, rfl, hval'.out, hX13.out, hB13.out⟩
  obtain ⟨gv2, k2, n2, s2, rfl, rfl, hv2, x2, hbx⟩ := hcut
  obtain ⟨w5, hnw⟩ : ∃ x, x = wc := ⟨_, rfl⟩
  subst hnw
  have hB5 := Lib.hid (hB4.out.trans (hbx.mono hB4.out.size))
  have hCV5 := Lib.hid (hCV4.out.later hbx)
  have b5' := Lib.hid (b4'.out.below hbx b4'.out.lt)
  have x2' := Lib.hid x2
  have x0xx := Lib.hid (x0x.out.below hbx x0x.out.lt)
  have x1x := Lib.hid (x1'.out.below hbx x1'.out.lt)
  have er2 := wfix_nil
  clear EV SS hbx
  have q0 := x0xx.out.cell
  have q1 := x1x.out.cell
  have hs1 : sameV 1 1 ⟨#[]⟩ 1 1 ⟨#[]⟩ = true := by rw [sameV_eq]; decide
  have hs2 : sameV 1 0 ⟨#[]⟩ 1 0 ⟨#[]⟩ = true := by rw [sameV_eq]; decide
  go_wp2_with fail
  go_ret
  exact ⟨rfl, hB5.out⟩
end Go.Proofs.YtdfgbkilaepolaaGreatDoor
