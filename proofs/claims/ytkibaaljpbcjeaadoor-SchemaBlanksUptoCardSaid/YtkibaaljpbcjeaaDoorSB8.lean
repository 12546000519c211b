/- Walk: the writer's rule: this, a name, none of them. -/
import Derived.Test.YtkibaaljpbcjeaaDoorSB7
namespace Go.Proofs.YtkibaaljpbcjeaaDoor
open Go.RowKit
set_option maxHeartbeats 8000000 in
set_option maxRecDepth 100000 in
theorem wrule_1 (k : Int) (a bb : ByteArray) (p : Option Addr) (c : Nat) (B b d : Nat) (deep : Int) (w : World) (l : List UInt8) (hB : B ≤ w.heap.size) (hW : WrAt B b w l false) (hl : l.length + (a.data.toList.length + bb.data.toList.length + 8) ≤ 1000000000) (hk : k = 1) (ha : a.toList = []) (hb : bb.toList = []) :
    Calls Tryd.prog 27 #[.pointer (some ⟨b, 0, none⟩), .agg #[.int .i64 k, .string a, .string bb, .slice p 0 c], .int .i64 deep] w (WSaid (ruleT d (.node k a.data.toList bb.data.toList [])) (a.data.toList.length + bb.data.toList.length + 8) B b w l) := by
  obtain ⟨w1, w2, w3, e1, e2, e3, c1, c2, bx3, q1, f1, q2, f2, hK3, hW3, hz3⟩ := wfront (k := k) (a := a) (bb := bb) (p := p) (c := c) (n := 0) hW
  have hbl := hW3.lt
  have c3 := bx3.cell
  obtain ⟨q3, f3⟩ := hW3.flag
  have f32 := f3 2
  have hzz := hK3.size
  have sa := Lib.size_eq a
  have sb := Lib.size_eq bb
  subst hk
  have P := put_calls _ b w3 l false ⟨#[116, 104, 105, 115]⟩ hW3 (by rw [show (⟨#[116, 104, 105, 115]⟩ : ByteArray).size = 4 from rfl]; omega) (by omega)
  have hT : ruleT d (.node 1 a.data.toList bb.data.toList []) = some thisL := by
    unfold ruleT; rw [if_pos rfl, if_pos ⟨nil_data.1 ha, nil_data.1 hb, rfl⟩]
  have P' := Lib.hid P
  have hT' := Lib.hid hT
  have hK' := Lib.hid hK3
  clear P hT hK3 hW3 hW bx3 f3 hl sa sb
  go_enter Tryd.func27, Tryd.ntmps27
  go_wp2_with fail
  refine P'.out.mono ?_
  rintro e w4 ⟨rfl, hW4, hK4⟩
  go_wp2_with fail
  go_end0
  exact ⟨rfl, hK'.out.trans hK4, l ++ thisL, by rw [List.length_append, show thisL.length = 4 from rfl]; omega, .inl ⟨_, hT'.out, rfl, hW4⟩⟩
set_option maxHeartbeats 8000000 in
set_option maxRecDepth 100000 in
theorem wrule_2 (k : Int) (a bb : ByteArray) (p : Option Addr) (c : Nat) (B b d : Nat) (deep : Int) (w : World) (l : List UInt8) (hB : B ≤ w.heap.size) (hW : WrAt B b w l false) (hl : l.length + (a.data.toList.length + bb.data.toList.length + 8) ≤ 1000000000) (hk : k = 2) (hb : bb.toList = []) :
    Calls Tryd.prog 27 #[.pointer (some ⟨b, 0, none⟩), .agg #[.int .i64 k, .string a, .string bb, .slice p 0 c], .int .i64 deep] w (WSaid (ruleT d (.node k a.data.toList bb.data.toList [])) (a.data.toList.length + bb.data.toList.length + 8) B b w l) := by
  obtain ⟨w1, w2, w3, e1, e2, e3, c1, c2, bx3, q1, f1, q2, f2, hK3, hW3, hz3⟩ := wfront (k := k) (a := a) (bb := bb) (p := p) (c := c) (n := 0) hW
  have hbl := hW3.lt
  have c3 := bx3.cell
  obtain ⟨q3, f3⟩ := hW3.flag
  have f32 := f3 2
  have hzz := hK3.size
  have sa := Lib.size_eq a
  have sb := Lib.size_eq bb
  subst hk
  have P := wname_calls _ b w3 l false a hW3 (by omega) (by omega)
  have hT : ruleT d (.node 2 a.data.toList bb.data.toList []) = if good a.data.toList = true then some a.data.toList else none := by
    unfold ruleT; rw [if_neg (by decide), if_pos rfl]
    by_cases hg : good a.data.toList = true
    · rw [if_pos hg, if_pos ⟨hg, nil_data.1 hb, rfl⟩]
    · rw [if_neg hg, if_neg fun e => hg e.1]
  have P' := Lib.hid P
  have hT' := Lib.hid hT
  have hK' := Lib.hid hK3
  have zb : bb.toList.isEmpty = true := by rw [List.isEmpty_iff]; exact hb
  clear P hT hK3 hW3 hW bx3 f3 hl sa sb
  go_enter Tryd.func27, Tryd.ntmps27
  go_wp2_with fail
  all_goals
    refine P'.out.mono ?_
    rintro e w4 ⟨rfl, hW4, hK4⟩
    go_wp2_with fail
    go_end0
    refine ⟨rfl, hK'.out.trans hK4, l ++ a.data.toList, by rw [List.length_append]; omega, ?_⟩
    rw [hT'.out]
    cases hg : good a.data.toList
    · rw [hg] at hW4; exact .inr ⟨rfl, hW4⟩
    · rw [hg] at hW4; exact .inl ⟨_, rfl, rfl, hW4⟩
set_option maxHeartbeats 8000000 in
set_option maxRecDepth 100000 in
theorem wrule_0 (k : Int) (a bb : ByteArray) (p : Option Addr) (c : Nat) (B b d : Nat) (deep : Int) (w : World) (l : List UInt8) (hW : WrAt B b w l false) (hk : (k ≠ 1 ∧ k ≠ 2 ∧ k ≠ 3) ∧ k ≠ 4 ∧ k ≠ 5) (ha : a.toList = []) (hb : bb.toList = []) :
    Calls Tryd.prog 27 #[.pointer (some ⟨b, 0, none⟩), .agg #[.int .i64 k, .string a, .string bb, .slice p 0 c], .int .i64 deep] w (WSaid (ruleT d (.node k a.data.toList bb.data.toList [])) (a.data.toList.length + bb.data.toList.length + 8) B b w l) := by
  obtain ⟨w1, w2, w3, e1, e2, e3, c1, c2, bx3, q1, f1, q2, f2, hK3, hW3, hz3⟩ := wfront (k := k) (a := a) (bb := bb) (p := p) (c := c) (n := 0) hW
  have hbl := hW3.lt
  have c3 := bx3.cell
  obtain ⟨q3, f3⟩ := hW3.flag
  have f32 := f3 2
  have hzz := hK3.size
  obtain ⟨⟨k1, k2, k3⟩, k4, k5⟩ := hk
  have hT : ruleT d (.node k a.data.toList bb.data.toList []) = none := by
    unfold ruleT
    rw [if_neg k1, if_neg k2, if_neg k3, if_neg (by omega)]
  obtain ⟨hW4, hK4⟩ := hW3.odd true
  have hfin : WSaid (ruleT d (.node k a.data.toList bb.data.toList [])) (a.data.toList.length + bb.data.toList.length + 8) B b w l (.returned (.tuple #[])) (w3.setCell ⟨b, 2, none⟩ (.bool true)) := ⟨rfl, hK3.trans hK4, l, by omega, .inr ⟨hT, hW4⟩⟩
  have hfin' := Lib.hid hfin
  have x1 : (k == 1) = false := beqF.2 k1
  have x2 : (k == 2) = false := beqF.2 k2
  have x3 : (k == 3) = false := beqF.2 k3
  have x4 : (k == 4) = false := beqF.2 k4
  have x5 : (k == 5) = false := beqF.2 k5
  have za : a.toList.isEmpty = true := by rw [List.isEmpty_iff]; exact ha
  have zb : bb.toList.isEmpty = true := by rw [List.isEmpty_iff]; exact hb
  clear hfin hT hW4 hK4 hK3 hW3 hW bx3 f3
  go_enter Tryd.func27, Tryd.ntmps27
  go_wp2_with fail
  go_end0
  exact hfin'.out
end Go.Proofs.YtkibaaljpbcjeaaDoor
