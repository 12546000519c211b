/- Walks: conditions: the writer: a part. -/
import Derived.Test.YtfhdecdlkmibmaaDoorCBi
import Derived.Lib.SmallJoins
import Derived.Lib.AppendIntMem
namespace Go.Proofs.YtfhdecdlkmibmaaDoor
open Go.RowKit
/-- the library's table of tens stands, whatever is made behind block B -/
def Tb (B : Nat) (w : World) : Prop := Lib.TabBelow Tryd.prog B w "internal/strconv.uint64pow10" .u64 Lib.pow10Tab
theorem Tb.here {B : Nat} {w : World} (h : Tb B w) : Lib.TabIs Tryd.prog w "internal/strconv.uint64pow10" .u64 Lib.pow10Tab := h w (Below.refl _ _)
theorem Tb.step {B : Nat} {w w' : World} (h : Tb B w) (hb : Below B w w') : Tb B w' := fun w'' h2 => h w'' (hb.trans h2)
mutual
/-- how many bytes a condition's text has at most -/
def CT.cw : CT → Nat
  | .node _ _ s ps => 32 + s.length + cwL ps
def cwL : List CT → Nat
  | [] => 0
  | c :: l => c.cw + 8 + cwL l
end
theorem cw_node (r : CT) : r.cw = 32 + r.str.length + cwL r.parts := by
  cases r
  conv => lhs; unfold CT.cw
  rfl
theorem cwL_nil : cwL [] = 0 := by unfold cwL; rfl
theorem cwL_cons (c : CT) (l : List CT) : cwL (c :: l) = c.cw + 8 + cwL l := by conv => lhs; unfold cwL
theorem cwL_mem : ∀ {ps : List CT} {p : CT}, p ∈ ps → p.cw + 8 ≤ cwL ps
  | q :: ps, p, h => by
    rw [cwL_cons]
    rcases List.mem_cons.1 h with rfl | h
    · omega
    · have := cwL_mem h; omega
/-- what a walk over a condition's writing leaves -/
def WSaid (T : Option (List UInt8)) (W B b : Nat) (w : World) (l : List UInt8) (deep : Int) (e : Ending) (w' : World) : Prop :=
  e = .returned (.tuple #[]) ∧ WKeeps B b w w' ∧ ∃ l' d', l'.length ≤ l.length + W ∧ ((∃ x, T = some x ∧ l' = l ++ x ∧ WrAt B b w' l' deep false) ∨ (T = none ∧ WrAt B b w' l' d' true))
/-- behind something wrong -/
def WOdd (W B b : Nat) (w : World) (l : List UInt8) (e : Ending) (w' : World) : Prop :=
  e = .returned (.tuple #[]) ∧ WKeeps B b w w' ∧ ∃ l' d', l'.length ≤ l.length + W ∧ WrAt B b w' l' d' true
def textO (T : Option (List Piece)) : Option (List UInt8) := T.map textP
def CondOK (q : CT) : Prop := ∀ (w0 : World) (b d f : Nat) (deep : Int) (w : World) (l : List UInt8) (cs : List Value), d ≤ 8 → deep = 8 - (d : Int) → q.size ≤ f → CV w0 cs q → Below w0.heap.size w0 w → w0.heap.size ≤ w.heap.size → Tb w0.heap.size w0 → WrAt w0.heap.size b w l deep false → l.length + q.cw ≤ 1000000000 → q.cw ≤ 1000000 →
  Calls Tryd.prog 27 #[.pointer (some ⟨b, 0, none⟩), .agg cs.toArray] w (WSaid (textO (condW f d q)) q.cw w0.heap.size b w l deep)
def PartOK (q : CT) : Prop := ∀ (w0 : World) (b d f least : Nat) (deep : Int) (w : World) (l : List UInt8) (cs : List Value), d ≤ 8 → deep = 8 - (d : Int) → least ≤ 100 → q.size ≤ f → CV w0 cs q → Below w0.heap.size w0 w → w0.heap.size ≤ w.heap.size → Tb w0.heap.size w0 → WrAt w0.heap.size b w l deep false → l.length + q.cw + 2 ≤ 1000000000 → q.cw ≤ 1000000 →
  Calls Tryd.prog 14 #[.pointer (some ⟨b, 0, none⟩), .agg cs.toArray, .int .i64 least] w (WSaid (textO (partW (condW f) d least q)) (q.cw + 2) w0.heap.size b w l deep)
set_option maxHeartbeats 1000000 in
set_option maxRecDepth 100000 in
/-- where something is wrong, a condition is left alone -/
theorem cond_odd (B b : Nat) (w : World) (l : List UInt8) (cs : List Value) (q : CT) (deep : Int) (hq : ∃ w0, CV w0 cs q) (h : WrAt B b w l deep true) :
    Calls Tryd.prog 27 #[.pointer (some ⟨b, 0, none⟩), .agg cs.toArray] w (WOdd 0 B b w l) := by
  obtain ⟨w0, hq⟩ := hq
  obtain ⟨k, m, a, p, c, ds, rfl, -⟩ := hq.form
  have hbl := h.lt
  obtain ⟨f2, f3, ff⟩ := h.flag
  have h2 := h.bad_ true
  have hz : (w.setCell ⟨b, 3, none⟩ (.bool true)).heap.size = w.heap.size := by simp [World.setCell]
  have hb := (Below.refl (w.setCell ⟨b, 3, none⟩ (.bool true)).heap.size (w.setCell ⟨b, 3, none⟩ (.bool true))).alloc (Nat.le_refl _) (.cells #[.int .i64 k, .int .i64 m, .string a, .slice p q.parts.length c] 25)
  have hW := Lib.hid (h2.1.later hb)
  have hK := Lib.hid (h2.2.trans (WKeeps.of_below (B := B) (b := b) hb))
  clear h hb h2 hq hz
  go_enter Tryd.func27, Tryd.ntmps27
  go_wp2_with fail
  go_end0
  exact ⟨rfl, hK.out, l, deep, Nat.le_refl _, hW.out⟩
theorem WOdd.mono {W W' B b : Nat} {w : World} {l : List UInt8} {e : Ending} {w' : World} (h : WOdd W B b w l e w') (hW : W ≤ W') : WOdd W' B b w l e w' := by
  obtain ⟨h1, h2, l', d', h3, h4⟩ := h
  exact ⟨h1, h2, l', d', by omega, h4⟩
/-- a box for a condition, and its rank: what comes ahead of a part -/
structure Boxed (w0 w : World) (B b : Nat) (l : List UInt8) (deep : Int) (bad : Bool) (cs : List Value) (q : CT) (g : Nat) (w2 : World) : Prop where
  box : Blk w2 g 25 cs.toArray
  wr : WrAt B b w2 l deep bad
  keeps : WKeeps B b w w2
  below : Below w0.heap.size w0 w2
  size : w.heap.size < w2.heap.size
  g_ : g = w.heap.size
set_option maxHeartbeats 4000000 in
set_option maxRecDepth 100000 in
theorem part_odd (w0 : World) (b : Nat) (w : World) (l : List UInt8) (cs : List Value) (q : CT) (deep : Int) (least : Nat) (hq : CV w0 cs q) (hb0 : Below w0.heap.size w0 w) (hz0 : w0.heap.size ≤ w.heap.size) (h : WrAt w0.heap.size b w l deep true) (hln : l.length + 2 ≤ 1000000000) :
    Calls Tryd.prog 14 #[.pointer (some ⟨b, 0, none⟩), .agg cs.toArray, .int .i64 least] w (WOdd 2 w0.heap.size b w l) := by
  obtain ⟨k, m, a, p, c, ds, rfl, -⟩ := hq.form
  have hbl := h.lt
  have hbB := h.1
  have hb := (Below.refl w.heap.size w).alloc (Nat.le_refl _) (.cells #[.int .i64 k, .int .i64 m, .string a, .slice p q.parts.length c] 25)
  have hbx := Blk.new w 25 #[.int .i64 k, .int .i64 m, .string a, .slice p q.parts.length c]
  have hz1 := alloc_size w (.cells #[.int .i64 k, .int .i64 m, .string a, .slice p q.parts.length c] 25)
  obtain ⟨w1, e1⟩ : ∃ w1, w.alloc (.cells #[.int .i64 k, .int .i64 m, .string a, .slice p q.parts.length c] 25) = w1 := ⟨_, rfl⟩
  rw [e1] at hb hbx hz1
  have D := Lib.hid (rank_calls q _ w1 ((hq.later hb0).later hb))
  have h1 := Lib.hid (h.later hb)
  have k1 := Lib.hid (WKeeps.of_below (B := w0.heap.size) (b := b) hb)
  have x1 := Blk.cell hbx
  have hbx' := Lib.hid hbx
  have hq' := Lib.hid hq
  have hz1' := Lib.hid hz1
  clear h hb hbx hq hz1 hb0
  obtain ⟨rk, hrk⟩ : ∃ rk, rankC q = rk := ⟨_, rfl⟩
  rw [hrk] at D
  have hrb : rk ≤ 7 := by
    rw [← hrk]
    unfold rankC
    repeat' split
    all_goals omega
  clear hrk
  go_enter Tryd.func14, Tryd.ntmps14
  go_wp2_with fail
  refine D.out.mono ?_
  rintro e w2 ⟨rfl, hb2⟩
  have hz2 := hb2.size
  have hw1 := hz1'.out
  have hbx2 := hbx'.out.below hb2 (by omega)
  have h2 := h1.out.later hb2
  obtain ⟨f2, f3, ff⟩ := h2.flag
  have k2 := Lib.hid (k1.out.trans (WKeeps.of_below hb2))
  have h2' := Lib.hid h2
  have x2 := Blk.cell hbx2
  have hbx2' := Lib.hid hbx2
  have hbl2 : b < w2.heap.size := by omega
  clear hb2 hbx2 h2 D e1 x1
  by_cases hr : least ≤ rk
  · have er : (least : Int) ≤ (rk : Int) := by omega
    have er2 : decide ((least : Int) ≤ (rk : Int)) = true := decide_eq_true er
    have D := Lib.hid (cond_odd w0.heap.size b w2 l _ q deep ⟨_, hq'.out⟩ h2'.out)
    go_wp2_with fail
    refine D.out.mono ?_
    rintro e w3 ⟨rfl, hk3, l', d', hl', hW3⟩
    go_wp2_with fail
    go_end0
    exact ⟨rfl, k2.out.trans hk3, l', d', by omega, hW3⟩
  · have er : ¬ (least : Int) ≤ (rk : Int) := by omega
    have er3 : (rk : Int) < (least : Int) := by omega
    have er2 : decide ((least : Int) ≤ (rk : Int)) = false := decide_eq_false er
    obtain ⟨dd, hdd⟩ : ∃ dd, wrap64 (deep + 1) = dd := ⟨_, rfl⟩
    obtain ⟨h3, k3⟩ := h2'.out.deep_ dd
    have hz3 : (w2.setCell ⟨b, 2, none⟩ (.int .i64 dd)).heap.size = w2.heap.size := by simp [World.setCell]
    have h3' := Lib.hid h3
    have k3' := Lib.hid (k2.out.trans k3)
    have hz3' := Lib.hid hz3
    clear h3 k3 hz3
    by_cases h8 : 8 < dd
    · have e8 : decide (8 < dd) = true := decide_eq_true h8
      go_wp2_with fail
      go_end0
      obtain ⟨h4, k4⟩ := h3'.out.bad_ true
      exact ⟨rfl, k3'.out.trans k4, l, dd, by omega, h4⟩
    · have e8 : decide (8 < dd) = false := decide_eq_false h8
      have D : Calls Tryd.prog 28 #[.pointer (some ⟨b, 0, none⟩), .int .u8 40] (w2.setCell ⟨b, 2, none⟩ (.int .i64 dd)) fun e w' => e = .returned .nilIface ∧ WrAt w0.heap.size b w' (l ++ [40]) dd true ∧ WKeeps w0.heap.size b (w2.setCell ⟨b, 2, none⟩ (.int .i64 dd)) w' := wbyte_calls w0.heap.size b _ l dd true 40 h3'.out (by omega) (by have := hz3'.out; omega)
      have D' := Lib.hid D
      clear D
      go_wp2_with fail
      refine D'.out.mono ?_
      rintro e w3 ⟨rfl, h4, k4⟩
      have hbx3 := (hbx2'.out.far (p := ⟨b, 2, none⟩) (by intro e; exact Nat.ne_of_lt hbl e.symm) (.int .i64 dd)).wkeeps k4 (by decide) (Nat.ne_of_gt hbl)
      have x3 := Blk.cell hbx3
      have hz4 := k4.size
      have h4' := Lib.hid h4
      have k4' := Lib.hid (k3'.out.trans k4)
      have D2 := Lib.hid (cond_odd w0.heap.size b w3 _ _ q dd ⟨_, hq'.out⟩ h4)
      clear h4 k4 hbx3 x2 f2 f3 ff D'
      go_wp2_with fail
      refine D2.out.mono ?_
      rintro e w4 ⟨rfl, hk5, l5, d5, hl5, hW5⟩
      have hz5 := hk5.size
      have hz3b := hz3'.out
      have hll : (l ++ [40]).length = l.length + 1 := by simp
      have D : Calls Tryd.prog 28 #[.pointer (some ⟨b, 0, none⟩), .int .u8 41] w4 fun e w' => e = .returned .nilIface ∧ WrAt w0.heap.size b w' (l5 ++ [41]) d5 true ∧ WKeeps w0.heap.size b w4 w' := wbyte_calls w0.heap.size b _ l5 d5 true 41 hW5 (by omega) (by omega)
      have D' := Lib.hid D
      have hl5' := Lib.hid hl5
      have hll' := Lib.hid hll
      have k5' := Lib.hid (k4'.out.trans hk5)
      clear D hk5 hW5 D2 x3 hll
      go_wp2_with fail
      refine D'.out.mono ?_
      rintro e w5 ⟨rfl, h6, k6⟩
      obtain ⟨f2, f3, ff⟩ := h6.flag
      have h6' := Lib.hid h6
      have k6' := Lib.hid (k5'.out.trans k6)
      clear h6 k6 D'
      obtain ⟨d6, hd6⟩ : ∃ d6, wrap64 (d5 - 1) = d6 := ⟨_, rfl⟩
      go_wp2_with fail
      go_end0
      obtain ⟨h7, k7⟩ := h6'.out.deep_ d6
      exact ⟨rfl, k6'.out.trans k7, l5 ++ [41], d6, by rw [List.length_append]; show l5.length + 1 ≤ _; have := hll'.out; omega, h7⟩
end Go.Proofs.YtfhdecdlkmibmaaDoor
