/- Walk: the writer's rule: a way. -/
import Derived.Test.YtkibaaljpbcjeaaDoorSB7
namespace Go.Proofs.YtkibaaljpbcjeaaDoor
open Go.RowKit
set_option maxHeartbeats 8000000 in
set_option maxRecDepth 100000 in
theorem wrule_3 (k : Int) (a bb : ByteArray) (p : Option Addr) (c : Nat) (B b d : Nat) (deep : Int) (w : World) (l : List UInt8) (hB : B ≤ w.heap.size) (hW : WrAt B b w l false) (hl : l.length + (a.data.toList.length + bb.data.toList.length + 8) ≤ 1000000000) (hk : k = 3) :
    Calls Tryd.prog 27 #[.pointer (some ⟨b, 0, none⟩), .agg #[.int .i64 k, .string a, .string bb, .slice p 0 c], .int .i64 deep] w (WSaid (ruleT d (.node k a.data.toList bb.data.toList [])) (a.data.toList.length + bb.data.toList.length + 8) B b w l) := by
  obtain ⟨w1, w2, w3, e1, e2, e3, c1, c2, bx3, q1, f1, q2, f2, hK3, hW3, hz3⟩ := wfront (k := k) (a := a) (bb := bb) (p := p) (c := c) (n := 0) hW
  have hbl := hW3.lt
  have hbn : w.heap.size ≠ b := Nat.ne_of_gt hW.lt
  have c3 := bx3.cell
  obtain ⟨q3, f3⟩ := hW3.flag
  have f32 := f3 2
  have hzz := hK3.size
  have sa := Lib.size_eq a
  have sb := Lib.size_eq bb
  subst hk
  have P := wname_calls _ b w3 l false a hW3 (by omega) (by omega)
  have hT : ruleT d (.node 3 a.data.toList bb.data.toList []) = if good a.data.toList = true ∧ good bb.data.toList = true then some (a.data.toList ++ arL ++ bb.data.toList) else none := by
    unfold ruleT; rw [if_neg (by decide), if_neg (by decide), if_pos rfl]
    by_cases hg : good a.data.toList = true ∧ good bb.data.toList = true
    · rw [if_pos hg, if_pos ⟨hg.1, hg.2, rfl⟩]
    · rw [if_neg hg, if_neg fun e => hg ⟨e.1, e.2.1⟩]
  have hP3 : ∀ w5, WrAt B b w5 (l ++ a.data.toList ++ arL) (!good a.data.toList) → B ≤ w5.heap.size → _ := fun w5 h5 h6 => wname_calls B b w5 _ _ bb h5 (by simp only [List.length_append]; rw [show arL.length = 2 from rfl]; omega) h6
  have hP2 : ∀ w4, WrAt B b w4 (l ++ a.data.toList) (!good a.data.toList) → B ≤ w4.heap.size → _ := fun w4 h4 h6 => put_calls B b w4 _ _ ⟨#[45, 62]⟩ h4 (by rw [show (⟨#[45, 62]⟩ : ByteArray).size = 2 from rfl, List.length_append]; omega) h6
  have P' := Lib.hid P
  have P2' := Lib.hid hP2
  have P3' := Lib.hid hP3
  have hT' := Lib.hid hT
  have hK' := Lib.hid hK3
  have bx' := Lib.hid bx3
  clear P hP2 hP3 hT hK3 hW3 hW bx3 f3 hl sa sb
  go_enter Tryd.func27, Tryd.ntmps27
  go_wp2_with fail
  all_goals
    refine P'.out.mono ?_
    rintro e w4 ⟨rfl, hW4, hK4⟩
    have z4 := hK4.size
    have bx4 := bx'.out.wkeeps hK4 (by decide) hbn
    have P2 := P2'.out w4 hW4 (by omega)
    have b4l := hW4.lt
    have P22 := Lib.hid P2
    have bx4' := Lib.hid bx4
    have hK4' := Lib.hid (hK'.out.trans hK4)
    clear P2 bx4 hK4 hW4 c1 c2 c3
    go_wp2_with fail
    refine P22.out.mono ?_
    rintro e w5 ⟨rfl, hW5, hK5⟩
    have z5 := hK5.size
    have bx5 := bx4'.out.wkeeps hK5 (by decide) hbn
    have c5 := bx5.cell
    have l5 := bx5.lt
    have P3 := P3'.out w5 hW5 (by omega)
    have P33 := Lib.hid P3
    have hK5' := Lib.hid (hK4'.out.trans hK5)
    clear P3 bx5 hK5 hW5
    go_wp2_with fail
    refine P33.out.mono ?_
    rintro e w6 ⟨rfl, hW6, hK6⟩
    go_wp2_with fail
    go_end0
    refine ⟨rfl, hK5'.out.trans hK6, l ++ a.data.toList ++ arL ++ bb.data.toList, by simp only [List.length_append]; rw [show arL.length = 2 from rfl]; omega, ?_⟩
    rw [hT'.out]
    have hout : l ++ a.data.toList ++ arL ++ bb.data.toList = l ++ (a.data.toList ++ arL ++ bb.data.toList) := by simp
    cases hg : good a.data.toList <;> cases hg2 : good bb.data.toList <;> rw [hg, hg2] at hW6
    · exact .inr ⟨rfl, hW6⟩
    · exact .inr ⟨rfl, hW6⟩
    · exact .inr ⟨rfl, hW6⟩
    · exact .inl ⟨_, rfl, hout, hW6⟩
end Go.Proofs.YtkibaaljpbcjeaaDoor
