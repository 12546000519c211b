/- Walks: tuple.Key. -/
import Derived.Test.YtaikedlkkjnffaaGreatDoorW5
import Derived.Test.YtaikedlkkjnffaaGreatDoorKey
namespace Go.Proofs.YtaikedlkkjnffaaGreatDoor
open Go.RowKit
set_option maxHeartbeats 400000 in
theorem key_no (t : Tup) (w : World) (hs : t.fits) (hc : t.ok = false) :
    Calls Tryz.prog 58 #[t.v] w fun e w' => e = .returned (.tuple #[.string ⟨#[]⟩, .int .i64 2]) ∧ Below w.heap.size w w' := by
  have hc' : t.check = 2 := by simp [Tup.check, hc]
  unfold Tup.v
  go_enter Tryz.func58, Tryz.ntmps58
  go_wp2_with (go_at_call 28; refine (check_calls t _ hs).mono ?_; rw [hc']; rintro e w1 ⟨rfl, hb⟩)
  go_ret2
  exact ⟨rfl, ((Below.refl _ _).alloc (Nat.le_refl _) _).trans (hb.mono (by simp))⟩
theorem join_calls (t : Tup) (g : Nat) (w : World) (hk : Blk w g 113 t.cells) (hc : t.ok = true) :
    Calls Tryz.prog 73 #[.slice (some ⟨g, 0, none⟩) 6 6, .string ⟨#[0]⟩] w fun e w' => e = .returned (.string ⟨(Lib.join t.ls [0]).toArray⟩) ∧ Below w.heap.size w w' := by
  have hj := join_len hc
  refine Tryz.strings_Join g 0 6 t.l ⟨#[0]⟩ w (fun j x hx => ?_) hk.lt (by simp [Tup.l]) (by simp [Tup.l]) ?_
  · rw [Nat.zero_add, hk.cell]
    rcases j with _ | _ | _ | _ | _ | _ | j <;> simp [Tup.l] at hx <;> subst hx <;> rfl
  · show (Lib.join t.ls [0]).length ≤ _
    omega
set_option maxHeartbeats 400000 in
theorem key_yes (t : Tup) (w : World) (hs : t.fits) (hc : t.ok = true) :
    Calls Tryz.prog 58 #[t.v] w fun e w' => e = .returned (.tuple #[.string t.key, .int .i64 0]) ∧ Below w.heap.size w w' := by
  have hc' : t.check = 0 := by simp [Tup.check, hc]
  have hj := join_len hc
  have hk := key_join t
  have hJ := fun g w h => join_calls t g w h hc
  have hJ' := Lib.hid hJ
  clear hJ
  have hj' : (⟨(Lib.join t.ls [0]).toArray⟩ : ByteArray).size ≤ 198 := by rw [Lib.size_eq]; exact hj
  clear hj
  have hk' := Lib.hid hk
  clear hk
  unfold Tup.v
  go_enter Tryz.func58, Tryz.ntmps58
  go_wp2_with fail
  refine (check_calls t _ hs).mono ?_; rw [hc']; rintro e w1 ⟨rfl, hb1⟩; obtain ⟨hc1, hf1⟩ := bcell hb1
  have y1 : w.heap.size < w1.heap.size := by have := hb1.size; simp at this; omega
  have B1 : Below w.heap.size w w1 := ((Below.refl _ _).alloc (Nat.le_refl _) _).trans (hb1.mono (by simp))
  go_wp2_with fail
  refine (of_calls t _).mono ?_; rintro e w2 ⟨rfl, hb2⟩
  have y2 : w1.heap.size ≤ w2.heap.size := hb2.size
  have B2 : Below w.heap.size w w2 := B1.trans (hb2.mono (by omega))
  clear hc1 hf1 hb1 hb2
  go_wp2_with fail
  refine (hJ'.out w2.heap.size _ (Blk.new _ _ _)).mono ?_
  rintro e w3 ⟨rfl, hb3⟩
  generalize (⟨(Lib.join t.ls [0]).toArray⟩ : ByteArray) = J at *
  go_wp2
  go_ret2
  exact ⟨ret_si hk'.out rfl, (B2.alloc (by omega) _).trans (hb3.mono (by simp; omega))⟩
def Tup.keyS (t : Tup) : ByteArray := if t.ok then t.key else ⟨#[]⟩
theorem key_calls (t : Tup) (w : World) (hs : t.fits) :
    Calls Tryz.prog 58 #[t.v] w fun e w' => e = .returned (.tuple #[.string t.keyS, .int .i64 t.check]) ∧ Below w.heap.size w w' := by
  cases hc : t.ok
  · have e1 : t.check = 2 := by simp [Tup.check, hc]
    have e2 : t.keyS = ⟨#[]⟩ := by simp [Tup.keyS, hc]
    rw [e1, e2]; exact key_no t w hs hc
  · have e1 : t.check = 0 := by simp [Tup.check, hc]
    have e2 : t.keyS = t.key := by simp [Tup.keyS, hc]
    rw [e1, e2]; exact key_yes t w hs hc
end Go.Proofs.YtaikedlkkjnffaaGreatDoor
