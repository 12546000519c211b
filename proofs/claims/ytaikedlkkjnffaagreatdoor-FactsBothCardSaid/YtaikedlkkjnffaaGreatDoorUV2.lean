/- Walks: slices.Collect of slices.Values over tuples. -/
import Derived.Test.YtaikedlkkjnffaaGreatDoorUV1
namespace Go.Proofs.YtaikedlkkjnffaaGreatDoor
open Go.RowKit Go.Shelf
attribute [local go_sem] Oper.semAt_some
attribute [local go_sem ↓] dapp_op
theorem KeepsFrom.of_keeps {B : Nat} {S : Nat → Prop} {W W' : World} (h : Keeps S W W') (hs : ∀ k, S k → ∀ o, W.heap[k]? = some o → o.isCells = true) : KeepsFrom B W W' := by
  refine ⟨h.size, fun k o _ hk ho => ?_⟩
  by_cases hS : S k
  · rw [hs k hS o hk] at ho; cases ho
  · exact (h.block k (Array.getElem?_eq_some_iff.1 hk).1 hS).trans hk
theorem TOwn.cellsBlk {B : Nat} {W : World} {v : Value} {l : List Tup} (h : TOwn B W v l) : ∀ k, v.ownBlock = some k → ∀ o, W.heap[k]? = some o → o.isCells = true := by
  intro k hk o ho
  obtain ⟨cur, hb⟩ := own_blk h k hk
  unfold Blk at hb
  rw [hb] at ho
  cases ho
  rfl
theorem Blk.own_ {Bx : Nat} {t : TypeId} {cs : Array Value} {W W' : World} {row : Option Nat} (h : Blk W Bx t cs) (hg : W.grownBy W' row) (hr : ∀ r, row = some r → ∃ o : Obj, W.heap[r]? = some o ∧ o.isCells = false) : Blk W' Bx t cs := by
  refine (hg.block Bx h.lt fun e => ?_).trans h
  obtain ⟨o, ho, hc⟩ := hr Bx e.symm
  unfold Blk at h
  rw [h] at ho
  cases ho
  cases hc
def zT : Value := .slice none 0 0
set_option maxRecDepth 100000 in
set_option maxHeartbeats 2000000 in
theorem appendSeq_in (F : Fence) (n : Nat) (h43 : F.fn 66) (h30 : F.fn 46) (hro : F.round = none) (hn : 3 ≤ n) (Bs : Nat) (p : Option Addr) (c : Nat) (ts : List Tup) (hts : ts.length ≤ 900000) (w : World) (hBs : Bs < w.heap.size)
    (hc : w.cell? ⟨Bs, 0, none⟩ = some (.slice p ts.length c)) (hI : TIn w.heap.size w p ts) :
    CallsIn F n Tryz.prog 66 #[.slice none 0 0, .func (.func 46) #[] #[.pointer (some ⟨Bs, 0, none⟩)]] w fun e W' =>
      ∃ v, e = .returned v ∧ TOwn w.heap.size W' v ts ∧ Below w.heap.size w W' := by
  have h1 : 1 ≤ n := by omega
  refine callsIn_of_wp_marks Tryz.func66 rfl h43 ?_ hro
  simp only [Tryz.ntmps66, List.size_toArray, List.length_cons, List.length_nil, Nat.reduceAdd, Nat.reduceSub, Array.replicate_succ, Array.replicate_zero, List.push_toArray, List.append_toArray, List.nil_append, List.cons_append]
  gi_wp2
  have hB0 : Below w.heap.size w (w.alloc (.cells #[.slice none 0 0] 22)) := (Below.refl _ w).alloc (Nat.le_refl _) _
  have bV := Boxed.new w 22 (.slice none 0 0)
  have hst := values_stops F (n - 1) h30 hro (by omega) Bs w.heap.size p c ts (by omega) (w.alloc (.cells #[.slice none 0 0] 22)) (by simp; omega) (by simp) ((hB0.cell (p := ⟨Bs, 0, none⟩) hBs).trans hc) (hI.below hB0)
  have hsz : (w.alloc (.cells #[.slice none 0 0] 22)).heap.size = w.heap.size + 1 := by simp
  obtain ⟨W0, hW0⟩ : ∃ W0, w.alloc (.cells #[.slice none 0 0] 22) = W0 := ⟨_, rfl⟩
  rw [hW0] at hB0 bV hst hsz ⊢
  clear hW0
  refine wpIn_rangeFunc_ownH hro h1 (gf := 46) (lb := #[.pointer (some ⟨Bs, 0, none⟩)]) rfl h30 (enters_of Tryz.func46 (by kernel_rfl) rfl)
    hst belowK_t (belowK_b (by omega)) (Below.refl _ _) (fun _ => rfl)
    (fun pre W => (∃ v, Boxed W w.heap.size 22 v ∧ W.ownsRow w.heap.size 60 6 v pre.length (tcells pre) ∧ True) ∧ Below w.heap.size w W)
    (fun _ _ _ => False)
    (OwnFrom.and (Own.from (holdsRow_own w.heap.size w.heap.size 22 60 6 (fun pre => List.length pre) (fun pre => tcells pre) (fun _ _ => True)) _) (ownFrom_below (Nat.le_refl _) (by omega)))
    (fun _ _ _ _ _ hs _ _ => hs)
    ⟨⟨_, bV, World.ownsRow_nil _ _ _ _, trivial⟩, hB0⟩
    (fun x a' W => ∃ Bx, w.heap.size < Bx ∧ Blk W Bx 60 #[.string x.a, .string x.b, .string x.c, .string x.d, .string x.e, .string x.f] ∧ a' = { tmps := #[.slice none 0 0, .func (.func 46) #[] #[.pointer (some ⟨Bs, 0, none⟩)], .pointer (some ⟨w.heap.size, 0, none⟩), undef, .slice none 0 0, .pointer (some ⟨Bx, 0, none⟩), .func (.func 46) #[] #[.pointer (some ⟨Bs, 0, none⟩)], .agg #[.string x.a, .string x.b, .string x.c, .string x.d, .string x.e, .string x.f], undef, undef, undef, undef, undef], defers := [] })
    (fun x a' _ X Y row hs hg hr => by obtain ⟨Bx, h1, h2, h3⟩ := hs; exact ⟨Bx, h1, h2.own_ hg (fun r e => (hr r e).2), h3⟩)
    ?assign ?body ?done ?stop
  case assign =>
    rintro l pre x W K ⟨⟨v, bV1, hrow, _⟩, hB1⟩ hK
    dsimp only [encT]
    gi_wp2
    exact hK _ _ ((KeepsOthers.alloc _ _).from _) ((Below.refl _ W).alloc hB1.size _) ⟨⟨v, bV1.alloc _, hrow.alloc _, trivial⟩, hB1.alloc hB1.size _⟩ ⟨W.heap.size, bV1.lt, Blk.new W 60 _, rfl⟩
  case body =>
    rintro l pre x a' W hl ⟨r, hr⟩ ⟨⟨v, bV1, hrow, _⟩, hB1⟩ ⟨Bx, hBx, bX, rfl⟩ hlt
    have hT : TOwn w.heap.size W v pre := hrow
    obtain ⟨p0, c0, rfl⟩ := hT.slice
    have cV := bV1.cell
    have cX := bX.cell
    have hT1 := hT.later ((Below.refl W.heap.size W).alloc (Nat.le_refl _) (.cells #[.string x.a, .string x.b, .string x.c, .string x.d, .string x.e, .string x.f] 60))
    have x1 := Blk.new W 60 #[.string x.a, .string x.b, .string x.c, .string x.d, .string x.e, .string x.f]
    have hWs := hB1.size
    obtain ⟨p7, c7, w7, e7, T7, K7⟩ := hT1.app (t := x) (by simp; omega) x1 (by omega)
    have bV2 : Boxed (W.alloc (.cells #[.string x.a, .string x.b, .string x.c, .string x.d, .string x.e, .string x.f] 60)) w.heap.size 22 (.slice p0 pre.length c0) := bV1.alloc _
    have hne : (Value.slice p0 pre.length c0).ownBlock ≠ some w.heap.size := fun e => bV2.not_row (by decide) hT1 e.symm
    have bV7 : Boxed w7 w.heap.size 22 (.slice p0 pre.length c0) := (K7.block w.heap.size bV2.lt hne).trans bV2
    have cV7 := bV7.cell
    have fV7 := bV7.frozen
    have bV8 := bV7.set (.slice p7 (pre.length + 1) c7)
    have T8 := T7.keeps (S := fun j => j = w.heap.size) ((Keeps.refl (fun j => j = w.heap.size) w7).setCell (p := ⟨w.heap.size, 0, none⟩) (.inl rfl) (.slice p7 (pre.length + 1) c7)) (fun j hj e => by subst e; exact bV7.not_row (by decide) T7 hj.symm)
    have hlow := fun j hj => (hT1.lt j hj).1
    have B7 : Below w.heap.size W w7 := Keeps.below_step ((Below.refl w.heap.size W).alloc hB1.size _) (by simp; omega) K7 fun j e => hlow j e
    have B8 := B7.setCell (p := ⟨w.heap.size, 0, none⟩) (Nat.le_refl _) (.slice p7 (pre.length + 1) c7)
    have F8 := ((KeepsOthers.alloc W (.cells #[.string x.a, .string x.b, .string x.c, .string x.d, .string x.e, .string x.f] 60)).from W0.heap.size).trans ((KeepsFrom.of_keeps (B := W0.heap.size) K7 fun k hk => hT1.cellsBlk k hk).trans ((KeepsOthers.setCell w7 ⟨w.heap.size, 0, none⟩ (.slice p7 (pre.length + 1) c7)).from _))
    have hBB := hB1.trans B8
    have bV8' := Lib.hid bV8
    have T8' := Lib.hid T8
    have B8' := Lib.hid B8
    have F8' := Lib.hid F8
    have hBB' := Lib.hid hBB
    have hXlt := bX.lt
    have hVlt := bV1.lt
    clear bV8 T8 B8 F8 hBB B7 hlow T7 K7 hT1 x1 hT hrow bV1 bX bV2 bV7
    gi_wp2
    refine ⟨F8'.out, B8'.out, ⟨_, bV8'.out, ?_, trivial⟩, hBB'.out⟩
    have := T8'.out
    unfold TOwn at this
    rw [List.length_append] at this ⊢
    exact this
  case done =>
    rintro D ys W hD rfl ⟨⟨v, bV1, hrow, _⟩, hB1⟩ hK
    have cV := bV1.cell
    obtain ⟨p0, c0, rfl⟩ := own_slice hrow
    gi_wp2
    refine ⟨by simp, .inl ⟨_, _, rfl, run_takeDeferred hK, ?_⟩⟩
    exact ⟨_, results_tmp rfl _ _ _, .slice p0 ys.length c0, rfl, ownsRow_putObj hrow _ hK rfl, hB1.trans (belowK_b (w := w) (Nat.le_refl _) W D _ _ (by omega) hK rfl rfl)⟩
  case stop =>
    rintro D c pre W _ _ h _
    exact h.elim
set_option maxHeartbeats 1000000 in
set_option maxRecDepth 100000 in
theorem collect_calls (Bs : Nat) (p : Option Addr) (c : Nat) (ts : List Tup) (hts : ts.length ≤ 900000) (w : World) (hBs : Bs < w.heap.size)
    (hc : w.cell? ⟨Bs, 0, none⟩ = some (.slice p ts.length c)) (hI : TIn w.heap.size w p ts) :
    Calls Tryz.prog 44 #[.func (.func 46) #[] #[.pointer (some ⟨Bs, 0, none⟩)]] w fun e W' =>
      ∃ v, e = .returned v ∧ TOwn w.heap.size W' v ts ∧ Below w.heap.size w W' := by
  have hA := (callsIn_wide (n := 3)).1 (appendSeq_in Fence.wide 3 trivial trivial rfl (by omega) Bs p c ts hts w hBs hc hI)
  have hA' := Lib.hid hA
  clear hA hI hc
  go_enter Tryz.func44, Tryz.ntmps44
  go_wp2_with fail
  refine hA'.out.mono ?_
  rintro e w1 ⟨v, rfl, hT, hB⟩
  obtain ⟨p1, c1, rfl⟩ := hT.slice
  go_wp2_with fail
  go_ret
  exact ⟨_, rfl, hT, hB⟩
end Go.Proofs.YtaikedlkkjnffaaGreatDoor
