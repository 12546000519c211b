/- Walks: the keys of a map of objects, collected and sorted. -/
import Derived.Test.YtaikedlkkjnffaaGreatDoorFM3
import Derived.Test.YtaikedlkkjnffaaGreatDoorFK1
namespace Go.Proofs.YtaikedlkkjnffaaGreatDoor
open Go.RowKit Go.Shelf Go.Sort Go.Maps
attribute [local go_sem] Oper.semAt_some
attribute [local go_sem ↓] dapp_op
@[go_sem] theorem Ob.v_eq (o : Ob) : o.v = .agg #[.string o.t, .string o.i] := rfl
theorem KeepsWalks.of_keeps {S : Nat → Prop} {W W' : World} (h : Keeps S W W') (hs : ∀ k, S k → ∀ o, W.heap[k]? = some o → o.isCells = true) : KeepsWalks W W' := by
  refine ⟨h.size, fun k o hk ho => ?_⟩
  by_cases hS : S k
  · have := Obj.not_cells_of_walk ho
    rw [hs k hS o hk] at this
    cases this
  · exact (h.block k (Array.getElem?_eq_some_iff.1 hk).1 hS).trans hk
def encOb (x : Ob) : Array Value := #[.agg #[.string x.t, .string x.i]]
set_option maxRecDepth 100000 in
set_option maxHeartbeats 2000000 in
theorem keysO1_in (F : Fence) (n : Nat) (h53 : F.fn 53) (hro : F.round = none) (hn : 1 ≤ n) (l Bm b nn : Nat) (f : Value → Option Value) (L : List Ob) (hdom : ∀ kv, (f kv).isSome = true ↔ ∃ o ∈ L, kv = o.v) (J Jx : List Ob → World → Prop)
    (hY : ∀ pre x W, J pre W → pre.length < nn → YieldAt F (n - 1) Tryz.prog l (encOb x) W fun e W' =>
      (e = .returned (.bool true) ∧ J (pre ++ [x]) W' ∧ KeepsWalks W W') ∨ (e = .returned (.bool false) ∧ Jx (pre ++ [x]) W'))
    (W : World) (hJ : AbidesFrom W.heap.size J) (hm : W.cell? ⟨Bm, 0, none⟩ = some (.map (some b))) (hM : MapAt Tryz.prog 24 W b nn f) (h0 : J [] W) :
    CallsIn F n Tryz.prog 53 #[.func (.yield l) #[] #[], .pointer (some ⟨Bm, 0, none⟩)] W fun e W' => (∃ v, e = .returned v) ∧
      ((∃ ys : List Ob, (ys.Nodup ∧ ∀ o, o ∈ ys ↔ o ∈ L) ∧ J ys W') ∨ (∃ pre : List Ob, True ∧ Jx pre W')) := by
  obtain ⟨D, hown, hsz, h2, h3⟩ := hM
  have hinj : ∀ x y : Ob, x.v = y.v → x = y := fun _ _ h => Ob.v_inj h
  have KO : Keyed Tryz.prog 24 := Keyed.of_law lawO
  have hJ' := Lib.hid hJ
  have hY' := Lib.hid hY
  have h0' := Lib.hid h0
  have h2' := Lib.hid h2
  have h3' := Lib.hid h3
  have hdom' := Lib.hid hdom
  have hsz' := Lib.hid hsz
  have hinj' := Lib.hid hinj
  clear hJ hY h0 h2 h3 hdom hsz hinj
  refine callsIn_of_wp Tryz.func53 rfl h53 ?_ hro
  simp only [Tryz.ntmps53, List.size_toArray, List.length_cons, List.length_nil, Nat.reduceAdd, Nat.reduceSub, Array.replicate_succ, Array.replicate_zero, List.push_toArray, List.append_toArray, List.nil_append, List.cons_append]
  gi_wp2_with (first
    | (gi_at_range; refine wpListIn_range_own _ rfl _ 84 rfl 24 4 KO Tryz.underlying84 rawR b nn _ rfl hown ?_; intro w0 hrg0 hg0 hs0)
    | gi_in)
  go_frame
  gi_loopw [3] (fun _ wr => ∃ (left : Lit → Bool) (cnt : Nat) (ss : List Ob), wr.ranges Tryz.prog 24 rawR b W.heap.size nn D left cnt ∧ ss.length + cnt ≤ nn ∧ CollK Tryz.prog 24 Ob.v f left ss ∧ J ss wr)
    (fun _ wr => wr.rangeLeft b W.heap.size)
  case atStart =>
    exact ⟨_, _, [], hrg0, by rw [hsz'.out]; simp, CollK.start h2'.out h3'.out, hJ'.out [] W w0 none h0'.out hg0 (fun r e => by cases e)⟩
  case round =>
    obtain ⟨left, cnt, ss, hrg, hcs, hC, hJs⟩ := hrel
    gi_wp2_with (first
      | (gi_at_next; refine wpListIn_next_ranges _ rfl _ rfl 24 KO rawR id id (fun key kl hk => ⟨key, rfl⟩) (fun v _ _ => ⟨v, rfl⟩) b W.heap.size nn _ _ _ rfl hrg ?_ ?_)
      | gi_in)
    · intro hc0 hl0
      gi_wp2
      go_end0
      refine ⟨⟨_, rfl⟩, .inl ⟨ss, ⟨hC.1, fun o => ?_⟩, hJs⟩⟩
      rw [hC.fin hl0 o, hdom'.out o.v]
      exact ⟨fun ⟨o', ho, e⟩ => by rw [hinj'.out _ _ e]; exact ho, fun ho => ⟨o, ho, rfl⟩⟩
    · intro x c kl yd yp w2 cnt2 hkey hlk hv hat hrg2 hlt hg2 hs2 hen
      have hsome : (f x).isSome = true := by rw [← (h2'.out x kl hkey).1]; exact has_true_of_atKey hat
      obtain ⟨o, ho, rfl⟩ := (hdom'.out x).1 hsome
      have hJ2 : J ss w2 := hJ'.out ss wr w2 (some W.heap.size) hJs hg2 (fun r e => by cases e; exact ⟨Nat.le_refl _, hrg.iter_walk⟩)
      have hJ3 := hJ'.out ss w2 (w2.alloc (.cells #[.string o.t, .string o.i] 24)) none hJ2 (World.grownBy_alloc w2 _ none) (fun r e => by cases e)
      obtain ⟨fn, tmps, assign, body, hy, hR⟩ := hY'.out ss o _ hJ3 (by omega)
      have hC2 := Lib.hid (hC.step KO hinj'.out h2'.out hkey hlk hat)
      have hrg3 := Lib.hid (hrg2.alloc (.cells #[.string o.t, .string o.i] 24))
      have hcs' : ss.length + 1 + cnt2 ≤ nn := by omega
      have hmes := Lib.hid (show w2.rangeLeft b W.heap.size < wr.rangeLeft b W.heap.size by rw [hrg2.left_eq, hrg.left_eq]; exact hlt)
      have hl2 := Lib.hid hrg2.left_eq
      have hl0 := Lib.hid hrg.left_eq
      have hlt' := Lib.hid hlt
      have hcx := (Blk.new w2 24 #[.string o.t, .string o.i]).cell
      dsimp only [encOb] at hy
      have hen' : (Instr.entry (.pointer (some ⟨W.heap.size, 0, none⟩))).run Tryz.prog w2 = .ok (.tuple #[.agg #[.string o.t, .string o.i], c]) w2 := hen
      clear hs2 hsome hJ2 hJ3 hkey hlk hv hat hrg2 hlt hg2 hen hrg hC hJs
      gi_wp2
      refine hR.mono ?_
      rintro e W3 (⟨rfl, hJ4, hk3⟩ | ⟨rfl, hJx3⟩)
      · have hrg4 := Lib.hid (hrg3.out.of_walks hk3)
        have hJ4' := Lib.hid hJ4
        clear hk3 hJ4 hcx hy hen'
        gi_wp2
        go_roundw
        case rel => exact ⟨_, cnt2, ss ++ [o], hrg4.out, by simp; omega, hC2.out, hJ4'.out⟩
        case measure => rw [hrg4.out.left_eq, hl0.out]; exact hlt'.out
      · gi_wp2
        refine bodyPost_ret (results_none rfl _ _ _) rfl ?_
        exact ⟨⟨_, rfl⟩, .inr ⟨ss ++ [o], trivial, hJx3⟩⟩
end Go.Proofs.YtaikedlkkjnffaaGreatDoor
