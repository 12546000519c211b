/- Walks: slices.Collect, slices.SortedFunc of the keys of a map of objects. -/
import Derived.Test.YtaikedlkkjnffaaGreatDoorFM4
namespace Go.Proofs.YtaikedlkkjnffaaGreatDoor
open Go.RowKit Go.Shelf Go.Sort Go.Maps
attribute [local go_sem] Oper.semAt_some
attribute [local go_sem ↓] dapp_op
theorem keysO_stops (F : Fence) (n : Nat) (h53 : F.fn 53) (hro : F.round = none) (hn : 1 ≤ n) (Bm b nn : Nat) (f : Value → Option Value) (L : List Ob) (hdom : ∀ kv, (f kv).isSome = true ↔ ∃ o ∈ L, kv = o.v) (w : World) (hBm : Bm < w.heap.size)
    (hm : w.cell? ⟨Bm, 0, none⟩ = some (.map (some b))) (hM : MapAt Tryz.prog 24 w b nn f) :
    SeqStopsK F n Tryz.prog 53 #[.pointer (some ⟨Bm, 0, none⟩)] encOb KeepsWalks (fun ys => ys.Nodup ∧ ∀ o, o ∈ ys ↔ o ∈ L) (fun _ => True) nn w := fun l J Jx W hW hJ _ hY h0 =>
  keysO1_in F n h53 hro hn l Bm b nn f L hdom J Jx hY W hJ ((hW.cell (p := ⟨Bm, 0, none⟩) hBm).trans hm) (hM.later hW) h0
set_option maxRecDepth 100000 in
set_option maxHeartbeats 1000000 in
theorem keysO1_nil_in (F : Fence) (n : Nat) (h53 : F.fn 53) (hro : F.round = none) (l Bm : Nat) (J : List Ob → World → Prop) (W : World) (hJ : AbidesFrom W.heap.size J)
    (hm : W.cell? ⟨Bm, 0, none⟩ = some (.map none)) (h0 : J [] W) :
    CallsIn F n Tryz.prog 53 #[.func (.yield l) #[] #[], .pointer (some ⟨Bm, 0, none⟩)] W fun e W' => (∃ v, e = .returned v) ∧ J [] W' := by
  have hJ' := Lib.hid hJ
  have h0' := Lib.hid h0
  clear hJ h0
  refine callsIn_of_wp Tryz.func53 rfl h53 ?_ hro
  simp only [Tryz.ntmps53, List.size_toArray, List.length_cons, List.length_nil, Nat.reduceAdd, Nat.reduceSub, Array.replicate_succ, Array.replicate_zero, List.push_toArray, List.append_toArray, List.nil_append, List.cons_append]
  have hrg := run_range_nilMap (P := Tryz.prog) W 84 24 4 Tryz.underlying84
  have hnx : ∀ ty, (Instr.next (.pointer (some ⟨W.heap.size, 0, none⟩)) false ty).run Tryz.prog (W.alloc (.mapIter none 0 #[] 0)) = _ := fun ty => run_next_nilMap _ ty 0 0 #[]
  gi_wp2
  refine wpIn_loop_rounds 1 ?_
  rw [roundsIn_succ]
  gi_wp2
  go_end0
  exact ⟨⟨_, rfl⟩, hJ'.out [] W _ none h0'.out (World.grownBy_alloc W _ none) (fun r e => by cases e)⟩
theorem keysO_nil_stops (F : Fence) (n : Nat) (h53 : F.fn 53) (hro : F.round = none) (Bm : Nat) (w : World) (hBm : Bm < w.heap.size)
    (hm : w.cell? ⟨Bm, 0, none⟩ = some (.map none)) :
    SeqStopsK F n Tryz.prog 53 #[.pointer (some ⟨Bm, 0, none⟩)] encOb KeepsWalks (fun ys => ys.Nodup ∧ ∀ o, o ∈ ys ↔ o ∈ ([] : List Ob)) (fun _ => True) 0 w := fun l J _ W hW hJ _ _ h0 =>
  (keysO1_nil_in F n h53 hro l Bm J W hJ ((hW.cell (p := ⟨Bm, 0, none⟩) hBm).trans hm) h0).mono fun _ _ ⟨h1, h2⟩ => ⟨h1, .inl ⟨[], ⟨List.nodup_nil, fun _ => Iff.rfl⟩, h2⟩⟩
theorem RowK.Own.cellsBlk {α : Type} {r : RowK α} {B : Nat} {W : World} {v : Value} {l : List α} (h : r.Own B W v l) : ∀ k, v.ownBlock = some k → ∀ o, W.heap[k]? = some o → o.isCells = true := by
  intro k hk o ho
  obtain ⟨cur, hb⟩ := own_blk h k hk
  unfold Blk at hb
  rw [hb] at ho
  cases ho
  rfl
set_option maxRecDepth 100000 in
set_option maxHeartbeats 2000000 in
theorem appendSeqO_in (F : Fence) (n : Nat) (h70 : F.fn 70) (h53 : F.fn 53) (hro : F.round = none) (hn : 3 ≤ n) (Bs nn : Nat) (hnn : nn ≤ 900000) (L : List Ob) (w : World)
    (hst : SeqStopsK F (n - 1) Tryz.prog 53 #[.pointer (some ⟨Bs, 0, none⟩)] encOb KeepsWalks (fun ys => ys.Nodup ∧ ∀ o, o ∈ ys ↔ o ∈ L) (fun _ => True) nn (w.alloc (.cells #[.slice none 0 0] 40))) :
    CallsIn F n Tryz.prog 70 #[.slice none 0 0, .func (.func 53) #[] #[.pointer (some ⟨Bs, 0, none⟩)]] w fun e W' =>
      ∃ v ys, e = .returned v ∧ (ys.Nodup ∧ ∀ o, o ∈ ys ↔ o ∈ L) ∧ rkO.Own w.heap.size W' v ys ∧ ys.length ≤ 900000 ∧ Below w.heap.size w W' := by
  have h1 : 1 ≤ n := by omega
  refine callsIn_of_wp_marks Tryz.func70 rfl h70 ?_ hro
  simp only [Tryz.ntmps70, List.size_toArray, List.length_cons, List.length_nil, Nat.reduceAdd, Nat.reduceSub, Array.replicate_succ, Array.replicate_zero, List.push_toArray, List.append_toArray, List.nil_append, List.cons_append]
  gi_wp2
  have hB0 : Below w.heap.size w (w.alloc (.cells #[.slice none 0 0] 40)) := (Below.refl _ w).alloc (Nat.le_refl _) _
  have bV := Boxed.new w 40 (.slice none 0 0)
  have hsz : (w.alloc (.cells #[.slice none 0 0] 40)).heap.size = w.heap.size + 1 := by simp
  obtain ⟨W0, hW0⟩ : ∃ W0, w.alloc (.cells #[.slice none 0 0] 40) = W0 := ⟨_, rfl⟩
  rw [hW0] at hB0 bV hst hsz ⊢
  clear hW0
  refine wpIn_rangeFunc_ownH hro h1 (gf := 53) (lb := #[.pointer (some ⟨Bs, 0, none⟩)]) rfl h53 (enters_of Tryz.func53 (by kernel_rfl) rfl)
    hst walksK_t walksK_b (Below.refl _ _) (fun _ => rfl)
    (fun pre W => (∃ v, Boxed W w.heap.size 40 v ∧ W.ownsRow w.heap.size 24 2 v pre.length (rkO.cells pre) ∧ pre.length ≤ nn) ∧ Below w.heap.size w W)
    (fun _ _ _ => False)
    (OwnFrom.and (Own.from (holdsRow_own w.heap.size w.heap.size 40 24 2 (fun pre => List.length pre) (fun pre => rkO.cells pre) (fun pre _ => pre.length ≤ nn)) _) (ownFrom_below (Nat.le_refl _) (by omega)))
    (fun _ _ _ _ _ hs _ _ => hs)
    ⟨⟨_, bV, World.ownsRow_nil _ _ _ _, Nat.zero_le _⟩, hB0⟩
    (fun x a' W => ∃ Bx, w.heap.size < Bx ∧ Blk W Bx 24 #[.string x.t, .string x.i] ∧ a' = { tmps := #[.slice none 0 0, .func (.func 53) #[] #[.pointer (some ⟨Bs, 0, none⟩)], .pointer (some ⟨w.heap.size, 0, none⟩), undef, .slice none 0 0, .pointer (some ⟨Bx, 0, none⟩), .func (.func 53) #[] #[.pointer (some ⟨Bs, 0, none⟩)], .agg #[.string x.t, .string x.i], undef, undef, undef, undef, undef], defers := [] })
    (fun x a' _ X Y row hs hg hr => by obtain ⟨Bx, h1, h2, h3⟩ := hs; exact ⟨Bx, h1, h2.own_ hg (fun r e => (hr r e).2), h3⟩)
    ?assign ?body ?done ?stop
  case assign =>
    rintro l pre x W K ⟨⟨v, bV1, hrow, hpl⟩, hB1⟩ hK
    dsimp only [encOb]
    gi_wp2
    exact hK _ _ ((KeepsOthers.alloc _ _).from _) (KeepsWalks.alloc _ _) ⟨⟨v, bV1.alloc _, hrow.alloc _, hpl⟩, hB1.alloc hB1.size _⟩ ⟨W.heap.size, bV1.lt, Blk.new W 24 _, rfl⟩
  case body =>
    rintro l pre x a' W hl ⟨r, hr⟩ ⟨⟨v, bV1, hrow, _⟩, hB1⟩ ⟨Bx, hBx, bX, rfl⟩ hlt
    have hT : rkO.Own w.heap.size W v pre := hrow
    obtain ⟨p0, c0, rfl⟩ := hT.slice
    have cV := bV1.cell
    have cX := bX.cell
    have hT1 := hT.later ((Below.refl W.heap.size W).alloc (Nat.le_refl _) (.cells #[.string x.t, .string x.i] 24))
    have x1 := Blk.new W 24 #[.string x.t, .string x.i]
    have hWs := hB1.size
    obtain ⟨p7, c7, w7, e7, T7, K7, _⟩ := hT1.app rkO_ok (t := x) (by simp; omega) (g := W.heap.size) (fun j u hj => by rw [x1.cell]; simpa [rkO, obL] using hj) (by omega)
    change (dappOp #[40, 40] 40 _).run Tryz.prog _ = _ at e7
    have bV2 : Boxed (W.alloc (.cells #[.string x.t, .string x.i] 24)) w.heap.size 40 (.slice p0 pre.length c0) := bV1.alloc _
    have hne : (Value.slice p0 pre.length c0).ownBlock ≠ some w.heap.size := fun e => bV2.not_row (by decide) hT1 e.symm
    have bV7 : Boxed w7 w.heap.size 40 (.slice p0 pre.length c0) := (K7.block w.heap.size bV2.lt hne).trans bV2
    have cV7 := bV7.cell
    have fV7 := bV7.frozen
    have bV8 := bV7.set (.slice p7 (pre.length + 1) c7)
    have T8 := T7.keeps (S := fun j => j = w.heap.size) ((Keeps.refl (fun j => j = w.heap.size) w7).setCell (p := ⟨w.heap.size, 0, none⟩) (.inl rfl) (.slice p7 (pre.length + 1) c7)) (fun j hj e => by subst e; exact bV7.not_row (by decide) T7 hj.symm)
    have hlow := fun j hj => (hT1.lt j hj).1
    have B7 : Below w.heap.size W w7 := Keeps.below_step ((Below.refl w.heap.size W).alloc hB1.size _) (by simp; omega) K7 fun j e => hlow j e
    have B8 := B7.setCell (p := ⟨w.heap.size, 0, none⟩) (Nat.le_refl _) (.slice p7 (pre.length + 1) c7)
    have F8 := ((KeepsOthers.alloc W (.cells #[.string x.t, .string x.i] 24)).from W0.heap.size).trans ((KeepsFrom.of_keeps (B := W0.heap.size) K7 fun k hk => hT1.cellsBlk k hk).trans ((KeepsOthers.setCell w7 ⟨w.heap.size, 0, none⟩ (.slice p7 (pre.length + 1) c7)).from _))
    have KW8 := (KeepsWalks.alloc W (.cells #[.string x.t, .string x.i] 24)).trans ((KeepsWalks.of_keeps K7 fun k hk => hT1.cellsBlk k hk).trans (KeepsWalks.setCell w7 ⟨w.heap.size, 0, none⟩ (.slice p7 (pre.length + 1) c7)))
    have hBB := hB1.trans B8
    have bV8' := Lib.hid bV8
    have T8' := Lib.hid T8
    have KW8' := Lib.hid KW8
    have F8' := Lib.hid F8
    have hBB' := Lib.hid hBB
    have hXlt := bX.lt
    have hVlt := bV1.lt
    have hlt' := Lib.hid hlt
    clear bV8 T8 B8 F8 KW8 hBB B7 hlow T7 K7 hT1 x1 hT hrow bV1 bX bV2 bV7
    gi_wp2
    refine ⟨F8'.out, KW8'.out, ⟨_, bV8'.out, ?_, by have := hlt'.out; rw [List.length_append]; simp; omega⟩, hBB'.out⟩
    have := T8'.out
    unfold RowK.Own at this
    rw [List.length_append] at this ⊢
    exact this
  case done =>
    rintro D ys W hD hys ⟨⟨v, bV1, hrow, hyl⟩, hB1⟩ hK
    have cV := bV1.cell
    obtain ⟨p0, c0, rfl⟩ := own_slice hrow
    have hys' := Lib.hid hys
    clear hys
    gi_wp2
    refine ⟨by simp, .inl ⟨_, _, rfl, run_takeDeferred hK, ?_⟩⟩
    exact ⟨_, results_tmp rfl _ _ _, .slice p0 ys.length c0, ys, rfl, hys'.out, ownsRow_putObj hrow _ hK rfl, by omega, hB1.trans (belowK_b (w := w) (Nat.le_refl _) W D _ _ (by omega) hK rfl rfl)⟩
  case stop =>
    rintro D c pre W _ _ h _
    exact h.elim
set_option maxHeartbeats 1000000 in
set_option maxRecDepth 100000 in
theorem collectO_calls (Bs nn : Nat) (hnn : nn ≤ 900000) (L : List Ob) (w : World)
    (hst : SeqStopsK Fence.wide 2 Tryz.prog 53 #[.pointer (some ⟨Bs, 0, none⟩)] encOb KeepsWalks (fun ys => ys.Nodup ∧ ∀ o, o ∈ ys ↔ o ∈ L) (fun _ => True) nn (w.alloc (.cells #[.slice none 0 0] 40))) :
    Calls Tryz.prog 51 #[.func (.func 53) #[] #[.pointer (some ⟨Bs, 0, none⟩)]] w fun e W' =>
      ∃ v ys, e = .returned v ∧ (ys.Nodup ∧ ∀ o, o ∈ ys ↔ o ∈ L) ∧ rkO.Own w.heap.size W' v ys ∧ ys.length ≤ 900000 ∧ Below w.heap.size w W' := by
  have hA := (callsIn_wide (n := 3)).1 (appendSeqO_in Fence.wide 3 trivial trivial rfl (by omega) Bs nn hnn L w hst)
  have hA' := Lib.hid hA
  clear hA hst
  go_enter Tryz.func51, Tryz.ntmps51
  go_wp2_with fail
  refine hA'.out.mono ?_
  rintro e w1 ⟨v, ys, rfl, hy, hT, hl, hB⟩
  obtain ⟨p1, c1, rfl⟩ := hT.slice
  have hy' := Lib.hid hy
  have hT' := Lib.hid hT
  clear hy hT
  go_wp2_with fail
  go_ret
  exact ⟨_, ys, rfl, hy'.out, hT'.out, hl, hB⟩
set_option maxHeartbeats 1000000 in
set_option maxRecDepth 100000 in
theorem sortedO_calls (Bs nn : Nat) (hnn : nn ≤ 900000) (L : List Ob) (w : World)
    (hst : SeqStopsK Fence.wide 2 Tryz.prog 53 #[.pointer (some ⟨Bs, 0, none⟩)] encOb KeepsWalks (fun ys => ys.Nodup ∧ ∀ o, o ∈ ys ↔ o ∈ L) (fun _ => True) nn (w.alloc (.cells #[.slice none 0 0] 40))) :
    Calls Tryz.prog 33 #[.func (.func 53) #[] #[.pointer (some ⟨Bs, 0, none⟩)], .func (.func 35) #[] #[]] w fun e W' =>
      ∃ v s, e = .returned v ∧ (SortedG cmpO s ∧ ∀ o, o ∈ s ↔ o ∈ L) ∧ rkO.Own w.heap.size W' v s ∧ Below w.heap.size w W' := by
  have hA := Lib.hid (collectO_calls Bs nn hnn L w hst)
  clear hst
  go_enter Tryz.func33, Tryz.ntmps33
  go_wp2_with fail
  refine hA.out.mono ?_
  rintro e w1 ⟨v, ys, rfl, hy, hT, hl, hB⟩
  obtain ⟨p1, c1, rfl⟩ := hT.slice
  have hS := Lib.hid (sortO_calls hT (by omega))
  have hlow := Lib.hid (fun j hj => (hT.lt j hj).1)
  have hB' := Lib.hid hB
  have hy' := Lib.hid hy
  clear hT hA hB hy
  go_wp2_with fail
  refine hS.out.mono ?_
  rintro e w2 ⟨rfl, s, hs, hT2, hK2⟩
  have hz := hB'.out.size
  have B2 := Lib.hid (Keeps.below_step hB'.out hz hK2 fun j e => hlow.out j e)
  have hsl : s.length = ys.length := hs.1.length_eq
  have hs' := Lib.hid hs
  have hT2' := Lib.hid hT2
  clear hK2 hS hs hT2
  go_wp2_with fail
  go_ret
  exact ⟨_, s, rfl, ⟨sortedG_of_perm cmpO_ok hs'.out.1 hy'.out.1 (hs'.out.2.imp fun h => by omega), fun o => by rw [hs'.out.1.mem_iff]; exact hy'.out.2 o⟩, by unfold RowK.Own at *; first | exact hT2'.out | (have := hT2'.out; unfold RowK.Own at this; exact this), B2.out⟩
theorem sortedM_calls (Bs b nn : Nat) (hnn : nn ≤ 900000) (f : Value → Option Value) (L : List Ob) (hdom : ∀ kv, (f kv).isSome = true ↔ ∃ o ∈ L, kv = o.v) (w : World) (hBs : Bs < w.heap.size)
    (hc : w.cell? ⟨Bs, 0, none⟩ = some (.map (some b))) (hM : MapAt Tryz.prog 24 w b nn f) :
    Calls Tryz.prog 33 #[.func (.func 53) #[] #[.pointer (some ⟨Bs, 0, none⟩)], .func (.func 35) #[] #[]] w fun e W' =>
      ∃ v s, e = .returned v ∧ (SortedG cmpO s ∧ ∀ o, o ∈ s ↔ o ∈ L) ∧ rkO.Own w.heap.size W' v s ∧ Below w.heap.size w W' := by
  have hB0 : Below w.heap.size w (w.alloc (.cells #[.slice none 0 0] 40)) := (Below.refl _ w).alloc (Nat.le_refl _) _
  exact sortedO_calls Bs nn hnn L w (keysO_stops Fence.wide 2 trivial rfl (by omega) Bs b nn f L hdom _ (by simp; omega) ((hB0.cell (p := ⟨Bs, 0, none⟩) hBs).trans hc) (hM.later hB0))
theorem sortedN_calls (Bs : Nat) (w : World) (hBs : Bs < w.heap.size) (hc : w.cell? ⟨Bs, 0, none⟩ = some (.map none)) :
    Calls Tryz.prog 33 #[.func (.func 53) #[] #[.pointer (some ⟨Bs, 0, none⟩)], .func (.func 35) #[] #[]] w fun e W' =>
      ∃ v s, e = .returned v ∧ (SortedG cmpO s ∧ ∀ o, o ∈ s ↔ o ∈ ([] : List Ob)) ∧ rkO.Own w.heap.size W' v s ∧ Below w.heap.size w W' := by
  have hB0 : Below w.heap.size w (w.alloc (.cells #[.slice none 0 0] 40)) := (Below.refl _ w).alloc (Nat.le_refl _) _
  exact sortedO_calls Bs 0 (by omega) [] w (keysO_nil_stops Fence.wide 2 trivial rfl Bs _ (by simp; omega) ((hB0.cell (p := ⟨Bs, 0, none⟩) hBs).trans hc))
end Go.Proofs.YtaikedlkkjnffaaGreatDoor
