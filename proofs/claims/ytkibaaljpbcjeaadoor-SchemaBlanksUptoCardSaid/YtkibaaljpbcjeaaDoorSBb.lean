/- Walk: the writer's rule: a group. Walk: the writer's rule, whole. -/
import Derived.Test.YtkibaaljpbcjeaaDoorSB7
import Derived.Test.YtkibaaljpbcjeaaDoorSB8
import Derived.Test.YtkibaaljpbcjeaaDoorSB9
import Derived.Test.YtkibaaljpbcjeaaDoorSE2
namespace Go.Proofs.YtkibaaljpbcjeaaDoor
open Go.RowKit
set_option maxHeartbeats 8000000 in
set_option maxRecDepth 100000 in
theorem wrule_4 (k : Int) (hk : k = 4 ∨ k = 5) (a bb : ByteArray) (p : Option Addr) (c n : Nat) (hn : 2 ≤ n) (hmax : n ≤ maxLen) (ha : a.toList = []) (hb : bb.toList = []) (B b : Nat) (deep : Int) (w : World) (l : List UInt8) (hW : WrAt B b w l false) (T : Option (List UInt8)) (W : Nat)
    (P : ∀ (sg : ByteArray) (w3 : World), sg.data.toList = sepT k → WrAt B b w3 l false → WKeeps B b w w3 → Calls Tryd.prog 48 #[.pointer (some ⟨b, 0, none⟩), .agg #[.int .i64 k, .string a, .string bb, .slice p n c], .string sg, .int .i64 deep] w3 (WSaid T W B b w3 l)) :
    Calls Tryd.prog 27 #[.pointer (some ⟨b, 0, none⟩), .agg #[.int .i64 k, .string a, .string bb, .slice p n c], .int .i64 deep] w (WSaid T W B b w l) := by
  obtain ⟨w1, w2, w3, e1, e2, e3, c1, c2, bx3, q1, f1, q2, f2, hK3, hW3, hz3⟩ := wfront (k := k) (a := a) (bb := bb) (p := p) (c := c) (n := n) hW
  unfold maxLen at hmax
  have hbl := hW3.lt
  have c3 := bx3.cell
  obtain ⟨q3, f3⟩ := hW3.flag
  have f32 := f3 2
  have hzz := hK3.size
  have hK' := Lib.hid hK3
  have y1 : decide ((n : Int) < 2) = false := decide_eq_false (by omega)
  have za : a.toList.isEmpty = true := by rw [List.isEmpty_iff]; exact ha
  have zb : bb.toList.isEmpty = true := by rw [List.isEmpty_iff]; exact hb
  rcases hk with rfl | rfl
  · have P4 := Lib.hid (P ⟨#[32, 124, 32]⟩ w3 rfl hW3 hK3)
    clear P hK3 hW3 hW bx3 f3
    go_enter Tryd.func27, Tryd.ntmps27
    go_wp2_with fail
    refine P4.out.mono ?_
    rintro e w4 ⟨rfl, hK4, hs4⟩
    go_wp2_with fail
    go_end0
    exact ⟨rfl, hK'.out.trans hK4, hs4⟩
  · have P4 := Lib.hid (P ⟨#[32, 38, 32]⟩ w3 rfl hW3 hK3)
    clear P hK3 hW3 hW bx3 f3
    go_enter Tryd.func27, Tryd.ntmps27
    go_wp2_with fail
    refine P4.out.mono ?_
    rintro e w4 ⟨rfl, hK4, hs4⟩
    go_wp2_with fail
    go_end0
    exact ⟨rfl, hK'.out.trans hK4, hs4⟩
end Go.Proofs.YtkibaaljpbcjeaaDoor
namespace Go.Proofs.YtkibaaljpbcjeaaDoor
open Go.RowKit
theorem WSaid.wide {T : Option (List UInt8)} {W W' B b : Nat} {w : World} {l : List UInt8} {e : Ending} {w' : World} (h : WSaid T W B b w l e w') (hw : W ≤ W') : WSaid T W' B b w l e w' := by
  obtain ⟨h1, h2, l', h3, h4⟩ := h
  exact ⟨h1, h2, l', by omega, h4⟩
theorem wrule_step (q : RT) (hrec : ∀ x ∈ q.parts, RuleOK x) : RuleOK q := by
  intro w0 b d deep w l cs hd hdp hR hB0 hz0 hW hl
  obtain ⟨k, a, bb, p, c, ds, rfl, hq, hrow, hlen, hp⟩ := hR.form
  have hmax := hrow.1
  have hwt : q.wt = a.data.toList.length + bb.data.toList.length + 8 + wtL q.parts := by rw [RT.wt_eq, hq]; rfl
  by_cases hc : WRef k a bb q.parts.length
  · refine (wrule_refused k a bb p c _ hmax _ b w l deep hc hW).mono ?_
    rintro e w' ⟨rfl, hK, hW'⟩
    exact ⟨rfl, hK, l, by omega, .inr ⟨by rw [hq]; exact wref_none hc, hW'⟩⟩
  have hleaf : q.parts.length = 0 → q = .node k a.data.toList bb.data.toList [] := fun hn => by
    rw [hq, List.eq_nil_of_length_eq_zero hn]
  rcases wref_cases hc with ⟨hk, hn, ha, hb⟩ | ⟨hk, hn, hb⟩ | ⟨hk, hn⟩ | ⟨hk, hn, ha, hb⟩ | ⟨hk, hn, ha, hb⟩
  · have h := wrule_1 k a bb p c _ b d deep w l hz0 hW (by omega) hk ha hb
    rw [← hleaf hn] at h
    rw [hn]
    exact h.mono fun e w' h => h.wide (by omega)
  · have h := wrule_2 k a bb p c _ b d deep w l hz0 hW (by omega) hk hb
    rw [← hleaf hn] at h
    rw [hn]
    exact h.mono fun e w' h => h.wide (by omega)
  · have h := wrule_3 k a bb p c _ b d deep w l hz0 hW (by omega) hk
    rw [← hleaf hn] at h
    rw [hn]
    exact h.mono fun e w' h => h.wide (by omega)
  · have hT : ruleT d q = partsT k d true q.parts := by
      conv => lhs; rw [hq]
      unfold ruleT
      rw [if_neg (by omega), if_neg (by omega), if_neg (by omega), if_pos hk, if_pos ⟨nil_data.1 ha, nil_data.1 hb, hn⟩]
    refine (wrule_4 k hk a bb p c _ hn hmax ha hb _ b deep w l hW (ruleT d q) (wtL q.parts + 8) fun sg w3 hsg hW3 hK3 => ?_).mono fun e w' h => h.wide (by omega)
    rw [hT]
    exact wparts_calls k hk sg hsg a bb p c q.parts ds w0 hrow hp hrec wrule_odd b d deep w3 l hd hdp (hB0.trans (hK3.below hz0)) (by have := hK3.size; omega) hW3 (by omega)
  · have h := wrule_0 k a bb p c _ b d deep w l hW hk ha hb
    rw [← hleaf hn] at h
    rw [hn]
    exact h.mono fun e w' h => h.wide (by omega)
theorem wrule_calls (q : RT) : RuleOK q := wrule_step q fun x _ => wrule_calls x
termination_by SizeOf.sizeOf q
decreasing_by exact part_lt (by assumption)
end Go.Proofs.YtkibaaljpbcjeaaDoor
