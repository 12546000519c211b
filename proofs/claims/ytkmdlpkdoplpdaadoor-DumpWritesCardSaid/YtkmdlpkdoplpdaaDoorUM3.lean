/- Walk: the document's Decimal, of more digits. -/
import Derived.Test.YtkmdlpkdoplpdaaDoorUM2
import Derived.Deep.RegionHeld3
import Derived.IntWalk
namespace Go.Proofs.YtkmdlpkdoplpdaaDoor
open Go.RowKit
set_option maxHeartbeats 1000000 in
set_option maxRecDepth 100000 in
theorem decimal_big (n : Nat) (w : World) (hn : ¬ n < 10) (hn2 : n ≤ 100000) (D : ByteArray) (hD : D.size ≤ 1000) (x : UInt8) (hx : (x.toNat : Int) = 48 + (n : Int) % 10)
    (ih : ∀ W : World, Calls Tryd.prog 24 #[.int .i64 ((n : Int) / 10)] W fun e w' => e = .returned (.string D) ∧ Below W.heap.size W w') :
    Calls Tryd.prog 24 #[.int .i64 n] w fun e w' => e = .returned (.string (D ++ ⟨#[x]⟩)) ∧ Below w.heap.size w w' := by
  have ih' := Lib.hid ih
  have hc : ∀ (W : World) (b : Nat), W.cell? ⟨b, 0, none⟩ = some (.int .u8 (48 + (n : Int) % 10)) → (convert 68 9 (.slice (some ⟨b, 0, none⟩) 1 1)).run Tryd.prog W = .ok (.string ⟨#[x]⟩) W := fun W b h => conv_one W b x (by rw [hx]; exact h)
  have b0 : (0 : Int) ≤ (n : Int) % 10 := by omega
  have b1 : (n : Int) % 10 < 10 := by omega
  have b2 : (0 : Int) ≤ (n : Int) := by omega
  have b3 : (n : Int) ≤ 100000 := by omega
  have b4 : ¬ (n : Int) < 10 := by omega
  have b5 : (10 : Int) ≤ (n : Int) := by omega
  have t1 : (n : Int).tdiv 10 = (n : Int) / 10 := Int.tdiv_eq_ediv_of_nonneg b2
  have t2 : (n : Int).tmod 10 = (n : Int) % 10 := Int.tmod_eq_emod_of_nonneg b2
  have t3 : IntKind.i64.wrap ((n : Int) / 10) = (n : Int) / 10 := IntWalk.i64_in _ (by omega)
  have t4 : IntKind.i64.wrap ((n : Int) % 10) = (n : Int) % 10 := IntWalk.i64_in _ (by omega)
  have t5 : IntKind.i64.wrap (48 + (n : Int) % 10) = 48 + (n : Int) % 10 := IntWalk.i64_in _ (by omega)
  have t6 : IntKind.u8.wrap (48 + (n : Int) % 10) = 48 + (n : Int) % 10 := by simp [IntKind.wrap, IntKind.bits, IntKind.signed]; omega
  have hD9 : ¬ 9223372036854775807 < D.size + 1 := by omega
  clear ih hx hn hn2
  go_enter Tryd.func24, Tryd.ntmps24
  go_wp2_with fail
  go_region_with ((go_at_call 24; (with_reducible refine (ih'.out _).mono ?_); rintro e w3 ⟨rfl, hb3⟩; obtain ⟨hcc, hff⟩ := bcell hb3))
  all_goals
    go_wp2_with fail
    go_ret
    first
      | exact ⟨rfl, ((Below.refl _ _).drew.trans hb3).alloc hb3.size _⟩
      | exact ⟨rfl, (((Below.refl w.heap.size w).alloc (Nat.le_refl _) (.cells #[.int .u8 (48 + (n : Int) % 10)] 5)).drew.trans (hb3.mono (by simp)))⟩
theorem dd_len : ∀ (b m : Nat), m < 10 ^ (b + 1) → (Lib.decDigits m).length ≤ b + 1 := by
  intro b
  induction b with
  | zero => intro m hm; rw [Lib.decDigits, dif_pos (by omega)]; simp
  | succ b ih =>
    intro m hm
    rw [Lib.decDigits]
    by_cases h : m < 10
    · rw [dif_pos h]; simp
    · rw [dif_neg h, List.length_append]
      have := ih (m / 10) (by omega)
      simp; omega
theorem dd_len100 {n : Nat} (h : n ≤ 100000) : (Lib.decDigits n).length ≤ 100 :=
  dd_len 99 n (by have : (100000 : Nat) < 10 ^ 100 := by decide
                  omega)
theorem decimal_calls (n : Nat) : ∀ (w : World), n ≤ 100000 →
    Calls Tryd.prog 24 #[.int .i64 n] w fun e w' => e = .returned (.string ⟨(Lib.decDigits n).toArray⟩) ∧ Below w.heap.size w w' := by
  induction n using Nat.strongRecOn with
  | _ n ih =>
    intro w hn
    by_cases h : n < 10
    · exact decimal_small n w h
    · have hm : (UInt8.ofNat (48 + n % 10)).toNat = 48 + n % 10 := by rw [UInt8.toNat_ofNat', Nat.mod_eq_of_lt (by omega)]
      have hih := fun W : World => ih (n / 10) (by omega) W (by omega)
      have hc : ((n / 10 : Nat) : Int) = (n : Int) / 10 := by omega
      rw [hc] at hih
      have := decimal_big n w h hn ⟨(Lib.decDigits (n / 10)).toArray⟩ (by rw [Lib.size_eq]; have := dd_len100 (n := n / 10) (by omega); exact Nat.le_trans this (by decide)) (UInt8.ofNat (48 + n % 10)) (by rw [hm]; omega) hih
      rw [dd_big h]
      have he : (⟨(Lib.decDigits (n / 10)).toArray⟩ : ByteArray) ++ ⟨#[UInt8.ofNat (48 + n % 10)]⟩ = ⟨(Lib.decDigits (n / 10) ++ [UInt8.ofNat (48 + n % 10)]).toArray⟩ := by
        apply bytes_ext
        simp
      rw [he] at this
      exact this
end Go.Proofs.YtkmdlpkdoplpdaaDoor
