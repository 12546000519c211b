/- Walks: the program's order of objects; what a sort asks of it. -/
import Derived.Test.YtaikedlkkjnffaaGreatDoorFR2
import Derived.Test.YtaikedlkkjnffaaGreatDoorUC1
import Derived.Deep.RegionHeld3
namespace Go.Proofs.YtaikedlkkjnffaaGreatDoor
open Go.RowKit Go.Sort
theorem isNaN_calls (a : ByteArray) (w : World) : Calls Tryz.prog 72 #[.string a] w fun e w' => e = .returned (.bool false) ∧ w = w' := by
  have h : (a.toList != a.toList) = false := by simp
  go_enter Tryz.func72, Tryz.ntmps72
  go_wp2_with fail
  go_ret
  exact ⟨rfl, rfl⟩
theorem compareS_calls (a b : ByteArray) (w : World) : Calls Tryz.prog 55 #[.string a, .string b] w fun e w' => e = .returned (.int .i64 (Lib.compareBytes a.data.toList b.data.toList)) ∧ w' = w := by
  have hA := isNaN_calls a
  have hB := isNaN_calls b
  rcases cb_three a.data.toList b.data.toList with h | h | h
  · have h1 : Op.bytesLess a.toList b.toList = false := less_n (by rw [h]; decide)
    have h2 : (a.toList == b.toList) = true := eq_y h
    rw [h]
    clear h
    go_enter Tryz.func55, Tryz.ntmps55
    go_wp2_with (go_at_call 72; refine (isNaN_calls _ _).mono ?_; rintro e w1 ⟨rfl, rfl⟩)
    go_ret
    exact ⟨rfl, rfl⟩
  · have h1 : Op.bytesLess a.toList b.toList = true := less_m h
    rw [h]
    clear h
    go_enter Tryz.func55, Tryz.ntmps55
    go_wp2_with (go_at_call 72; refine (isNaN_calls _ _).mono ?_; rintro e w1 ⟨rfl, rfl⟩)
    go_ret
    exact ⟨rfl, rfl⟩
  · have h1 : Op.bytesLess a.toList b.toList = false := less_n (by rw [h]; decide)
    have h2 : (a.toList == b.toList) = false := eq_n (by rw [h]; decide)
    rw [h]
    clear h
    go_enter Tryz.func55, Tryz.ntmps55
    go_wp2_with (go_at_call 72; refine (isNaN_calls _ _).mono ?_; rintro e w1 ⟨rfl, rfl⟩)
    go_ret
    exact ⟨rfl, rfl⟩
def orI (a b : Int) : Int := if a = 0 then b else a
theorem or_calls (a b : Int) (g : Nat) (w : World) (hc : ∀ i, w.cell? ⟨g, i, none⟩ = (#[.int .i64 a, .int .i64 b] : Array Value)[i]?) :
    Calls Tryz.prog 54 #[.slice (some ⟨g, 0, none⟩) 2 2] w fun e w' => e = .returned (.int .i64 (orI a b)) ∧ w' = w := by
  have c0 : w.cell? ⟨g, 0, none⟩ = some (.int .i64 a) := hc 0
  have c1 : w.cell? ⟨g, 1, none⟩ = some (.int .i64 b) := hc 1
  clear hc
  by_cases ha : a = 0
  · have e1 : (a != 0) = false := by simp [ha]
    have hv : orI a b = b := if_pos ha
    rw [hv]
    clear hv
    by_cases hb : b = 0
    · have e2 : (b != 0) = false := by simp [hb]
      have hb' := Lib.hid hb
      clear hb ha
      go_enter Tryz.func54, Tryz.ntmps54
      go_wp2_with fail
      refine wp_loop_rounds 3 ?_
      rw [rounds_succ]
      go_wp2_with fail
      rw [rounds_succ]
      go_wp2_with fail
      rw [rounds_succ]
      go_wp2_with fail
      go_ret
      exact ⟨ret_int hb'.out.symm, rfl⟩
    · have e2 : (b != 0) = true := by simpa using hb
      clear hb ha
      go_enter Tryz.func54, Tryz.ntmps54
      go_wp2_with fail
      refine wp_loop_rounds 2 ?_
      rw [rounds_succ]
      go_wp2_with fail
      rw [rounds_succ]
      go_wp2_with fail
      go_ret
      exact ⟨rfl, rfl⟩
  · have e1 : (a != 0) = true := by simpa using ha
    have hv : orI a b = a := if_neg ha
    rw [hv]
    clear hv ha
    go_enter Tryz.func54, Tryz.ntmps54
    go_wp2_with fail
    refine wp_loop_rounds 1 ?_
    rw [rounds_succ]
    go_wp2_with fail
    go_ret
    exact ⟨rfl, rfl⟩
theorem orI_cmp (a b : Ob) : orI (Lib.compareBytes a.t.data.toList b.t.data.toList) (Lib.compareBytes a.i.data.toList b.i.data.toList) = cmpO a b := rfl
end Go.Proofs.YtaikedlkkjnffaaGreatDoor
