/- Walk: dump's end of a dump. -/
import Derived.Test.YtkmdlpkdoplpdaaDoorShelf
import Derived.Test.YtkmdlpkdoplpdaaDoorW7
import Derived.Lib.AppendIntMem
namespace Go.Proofs.YtkmdlpkdoplpdaaDoor
open Go.RowKit
/-- the last line of a dump of n tuples -/
def endL (n : Nat) : List UInt8 := [101, 110, 100, 32] ++ Lib.decDigits n
theorem itoa_nat (n : Nat) : Lib.itoa (n : Int) = Lib.decDigits n := by
  unfold Lib.itoa
  rw [if_neg (by omega)]
  rfl
set_option maxHeartbeats 1000000 in
set_option maxRecDepth 100000 in
theorem end_calls (n : Nat) (w : World) (hn : n ≤ 100000) (htab : Lib.TabIs Tryd.prog w "internal/strconv.uint64pow10" .u64 Lib.pow10Tab) :
    Calls Tryd.prog 19 #[.int .i64 n] w fun e w' => e = .returned (.string ⟨(endL n).toArray⟩) ∧ Below w.heap.size w w' := by
  have P := Tryd.strconv_Itoa n (by omega) (by omega) w htab
  rw [itoa_nat] at P
  have P' := Lib.hid P
  have hlen : (Lib.decDigits n).length ≤ 100 := by
    have : ∀ (b m : Nat), m < 10 ^ (b + 1) → (Lib.decDigits m).length ≤ b + 1 := by
      intro b
      induction b with
      | zero => intro m hm; rw [Lib.decDigits, dif_pos (by omega)]; simp
      | succ b ih =>
        intro m hm
        rw [Lib.decDigits]
        by_cases h : m < 10
        · rw [dif_pos h]; simp
        · rw [dif_neg h, List.length_append]
          have := ih (m / 10) (by omega)
          simp; omega
    have := this 99 n (by have : (100000 : Nat) < 10 ^ 100 := by decide
                          omega)
    omega
  have hsz : (⟨(Lib.decDigits n).toArray⟩ : ByteArray).size ≤ 100 := by rw [Lib.size_eq]; exact hlen
  have hcat : (⟨#[101, 110, 100, 32]⟩ : ByteArray) ++ ⟨(Lib.decDigits n).toArray⟩ = ⟨(endL n).toArray⟩ := by
    apply bytes_ext
    simp [endL]
  generalize (⟨(Lib.decDigits n).toArray⟩ : ByteArray) = D at *
  have hcat' := Lib.hid hcat
  clear P htab hlen hcat
  go_enter Tryd.func19, Tryd.ntmps19
  go_wp2_with fail
  refine P'.out.mono ?_
  rintro e w1 ⟨rfl, k, os, hw⟩
  have hb0 : Below w.heap.size w w1 := by rw [hw]; exact Lib.below_grow w.heap.size w (Nat.le_refl _) k os
  have hb := Lib.hid hb0
  clear hb0
  clear hw
  go_wp2_with fail
  go_ret
  exact ⟨by rw [← hcat'.out]; rfl, hb.out⟩
end Go.Proofs.YtkmdlpkdoplpdaaDoor
