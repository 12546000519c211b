/- Walks: slices.Values and slices.Collect over tuples. -/
import Derived.Test.YtaikedlkkjnffaaGreatDoorUS1
import Derived.RangeFuncNested
import Derived.RangeFuncBound
import Derived.RangeFuncCalls
import Derived.RangeFuncLeaves
import Derived.RangeFuncBox
import Derived.Shelf.Abstract
import Derived.Shelf.RegionOpen
import Derived.WalkKit
import Derived.OwnWalkIn
import Derived.TacticsInMore
import Derived.LoopNIn
import Derived.LoopIn
namespace Go.Proofs.YtaikedlkkjnffaaGreatDoor
open Go.RowKit Go.Shelf
attribute [local go_sem] Oper.semAt_some
attribute [local go_sem ↓] dapp_op
/-- a tuple, handed to a loop's body -/
def encT (x : Tup) : Array Value := #[.agg #[.string x.a, .string x.b, .string x.c, .string x.d, .string x.e, .string x.f]]
/-- tuples that lie below block n -/
def TIn (n : Nat) (W : World) (p : Option Addr) (l : List Tup) : Prop := ∀ k x, l[k]? = some x → ∃ a b : Addr, p = some a ∧ a.add (k * 6) = b ∧ b.block < n ∧ W.cell? b = some (.string x.a) ∧ W.cell? ⟨b.block, b.off + 1, none⟩ = some (.string x.b) ∧ W.cell? ⟨b.block, b.off + 2, none⟩ = some (.string x.c) ∧ W.cell? ⟨b.block, b.off + 3, none⟩ = some (.string x.d) ∧ W.cell? ⟨b.block, b.off + 4, none⟩ = some (.string x.e) ∧ W.cell? ⟨b.block, b.off + 5, none⟩ = some (.string x.f)
theorem holdsT.tin {w : World} {p : Option Addr} {l : List Tup} (h : holdsT w p l) : TIn w.heap.size w p l := h
theorem TIn.below {n : Nat} {A B : World} {p : Option Addr} {l : List Tup} (h : TIn n A p l) (hb : Below n A B) : TIn n B p l := by
  intro k x hx
  obtain ⟨a, b, hp, ha, hl, h0, h1, h2, h3, h4, h5⟩ := h k x hx
  have hc : ∀ (s : Addr), s.block = b.block → B.cell? s = A.cell? s := fun s e => hb.cell (by rw [e]; exact hl)
  exact ⟨a, b, hp, ha, hl, (hc _ rfl).trans h0, (hc ⟨b.block, b.off + 1, none⟩ rfl).trans h1, (hc ⟨b.block, b.off + 2, none⟩ rfl).trans h2, (hc ⟨b.block, b.off + 3, none⟩ rfl).trans h3, (hc ⟨b.block, b.off + 4, none⟩ rfl).trans h4, (hc ⟨b.block, b.off + 5, none⟩ rfl).trans h5⟩
theorem take_get {α : Type} {l : List α} {k : Nat} {x : α} (h : l[k]? = some x) : l.take (k + 1) = l.take k ++ [x] := by
  obtain ⟨hlt, he⟩ := List.getElem?_eq_some_iff.1 h
  rw [List.take_succ_eq_append_getElem hlt, he]
set_option maxRecDepth 100000 in
set_option maxHeartbeats 2000000 in
theorem values1_in (F : Fence) (n : Nat) (h30 : F.fn 46) (hro : F.round = none) (hn : 1 ≤ n) (l Bs n₀ : Nat) (p : Option Addr) (c : Nat) (ts : List Tup) (hts : ts.length ≤ 1000000) (J Jx : List Tup → World → Prop) (W : World)
    (hJ : AbidesFrom W.heap.size J)
    (hY : ∀ pre x W1, J pre W1 → pre.length < ts.length → YieldAt F (n - 1) Tryz.prog l (encT x) W1 fun e W' =>
      (e = .returned (.bool true) ∧ J (pre ++ [x]) W' ∧ Below n₀ W1 W') ∨ (e = .returned (.bool false) ∧ Jx (pre ++ [x]) W'))
    (hn0 : n₀ ≤ W.heap.size) (hBs : W.cell? ⟨Bs, 0, none⟩ = some (.slice p ts.length c)) (hT : TIn n₀ W p ts) (h0 : J [] W) :
    CallsIn F n Tryz.prog 46 #[.func (.yield l) #[] #[], .pointer (some ⟨Bs, 0, none⟩)] W fun e W' => (∃ v, e = .returned v) ∧
      ((∃ ys, ys = ts ∧ J ys W') ∨ (∃ pre, pre <+: ts ∧ Jx pre W')) := by
  have hJ' := Lib.hid hJ
  have hY' := Lib.hid hY
  have hT' := Lib.hid hT
  have h0' := Lib.hid h0
  clear hJ hY hT h0
  obtain ⟨len, hlen⟩ : ∃ len, ts.length = len := ⟨_, rfl⟩
  rw [hlen] at hBs hts
  have hlen' := Lib.hid hlen
  clear hlen
  refine callsIn_of_wp Tryz.func46 rfl h30 ?_ hro
  simp only [Tryz.ntmps46, List.size_toArray, List.length_cons, List.length_nil, Nat.reduceAdd, Nat.reduceSub, Array.replicate_succ, Array.replicate_zero, List.push_toArray, List.append_toArray, List.nil_append, List.cons_append]
  gi_wp2
  gi_loopw [7] (fun i wr => ∃ k : Nat, k ≤ len ∧ i = .int .i64 k ∧ J (ts.take k) wr ∧ Below n₀ W wr)
    (fun i _ => len - (intOf i).toNat)
  case atStart => exact ⟨0, Nat.zero_le _, rfl, by rw [List.take_zero]; exact h0'.out, Below.refl _ _⟩
  case round =>
    obtain ⟨k, hk, rfl, hJs, hnx⟩ := hrel
    by_cases hlt : k < len
    · obtain ⟨x, hx⟩ : ∃ x, ts[k]? = some x := ⟨_, List.getElem?_eq_getElem (by rw [hlen'.out]; exact hlt)⟩
      obtain ⟨a1, b1, rfl, ha, _, x0, x1, x2, x3, x4, x5⟩ := hT'.out.below hnx k x hx
      have hJ1 := hJ'.out (ts.take k) wr (wr.alloc (.cells #[.string x.a, .string x.b, .string x.c, .string x.d, .string x.e, .string x.f] 60)) none hJs (World.grownBy_alloc wr _ none) (fun r e => by cases e)
      have hb1 := (Below.refl n₀ wr).alloc (Nat.le_trans hn0 hnx.size) (.cells #[.string x.a, .string x.b, .string x.c, .string x.d, .string x.e, .string x.f] 60)
      obtain ⟨fn, tmps, assign, body, hy, hR⟩ := hY'.out _ x _ hJ1 (by rw [List.length_take, hlen'.out]; omega)
      dsimp only [encT] at hy
      have hcx := (Blk.new wr 60 #[.string x.a, .string x.b, .string x.c, .string x.d, .string x.e, .string x.f]).cell
      have hx' := Lib.hid (take_get hx)
      have hb1' := Lib.hid (hnx.trans hb1)
      clear hJ1 hJs hx hnx hb1
      gi_wp2
      refine hR.mono ?_
      rintro e W3 (⟨rfl, hJ3, hk3⟩ | ⟨rfl, hJx3⟩)
      · rw [← hx'.out] at hJ3
        have hB3 := Lib.hid (hb1'.out.trans hk3)
        have hJ3' := Lib.hid hJ3
        clear hk3 hJ3 x0 x1 x2 x3 x4 x5 hcx hy
        gi_wp2
        go_roundw
        case rel => exact ⟨k + 1, by omega, by simp, hJ3'.out, hB3.out⟩
        case measure => simp [intOf]; omega
      · gi_wp2
        refine bodyPost_ret (results_none rfl _ _ _) rfl ?_
        rw [← hx'.out] at hJx3
        exact ⟨⟨_, rfl⟩, .inr ⟨_, List.take_prefix _ _, hJx3⟩⟩
    · obtain rfl : k = len := by omega
      rw [List.take_of_length_le (by rw [hlen'.out]; exact Nat.le_refl _)] at hJs
      gi_wp2
      go_end0
      exact ⟨⟨_, rfl⟩, .inl ⟨_, rfl, hJs⟩⟩
theorem values_stops (F : Fence) (n : Nat) (h30 : F.fn 46) (hro : F.round = none) (hn : 1 ≤ n) (Bs n₀ : Nat) (p : Option Addr) (c : Nat) (ts : List Tup) (hts : ts.length ≤ 1000000) (w : World) (hBs : Bs < w.heap.size) (hn₀ : n₀ ≤ w.heap.size)
    (hc : w.cell? ⟨Bs, 0, none⟩ = some (.slice p ts.length c)) (hI : TIn n₀ w p ts) :
    SeqStopsK F n Tryz.prog 46 #[.pointer (some ⟨Bs, 0, none⟩)] encT (Below n₀) (fun ys => ys = ts) (fun pre => pre <+: ts) ts.length w := fun l J Jx W hW hJ _ hY h0 =>
  values1_in F n h30 hro hn l Bs n₀ p c ts hts J Jx W hJ hY (Nat.le_trans hn₀ hW.size) ((hW.cell (p := ⟨Bs, 0, none⟩) hBs).trans hc) (hI.below (hW.mono hn₀)) h0
end Go.Proofs.YtaikedlkkjnffaaGreatDoor
