/- Walk: the document's Decimal. -/
import Derived.Test.YtkmdlpkdoplpdaaDoorUM1
import Derived.Lib.SlBytesRow
namespace Go.Proofs.YtkmdlpkdoplpdaaDoor
open Go.RowKit
theorem dd_small {n : Nat} (h : n < 10) : Lib.decDigits n = [UInt8.ofNat (48 + n)] := by rw [Lib.decDigits, dif_pos h]
theorem dd_big {n : Nat} (h : ¬ n < 10) : Lib.decDigits n = Lib.decDigits (n / 10) ++ [UInt8.ofNat (48 + n % 10)] := by
  conv => lhs; rw [Lib.decDigits, dif_neg h]
/-- one byte, turned into a string -/
theorem conv_one (W : World) (b : Nat) (x : UInt8) (h : W.cell? ⟨b, 0, none⟩ = some (.int .u8 x.toNat)) : (convert 68 9 (.slice (some ⟨b, 0, none⟩) 1 1)).run Tryd.prog W = .ok (.string ⟨#[x]⟩) W :=
  Lib.run_convert_whole (P := Tryd.prog) W 68 5 9 Tryd.underlying68 Tryd.underlying5 Tryd.underlying9 b 0 ⟨#[x]⟩ (fun i hi => by
    have hi' : i < 1 := hi
    obtain rfl : i = 0 := by omega
    exact h) 1
theorem digit_nat {n : Nat} (h : n < 10) : ((UInt8.ofNat (48 + n)).toNat : Int) = 48 + (n : Int) := by
  rw [UInt8.toNat_ofNat', Nat.mod_eq_of_lt (by omega)]
  omega
set_option maxHeartbeats 1000000 in
set_option maxRecDepth 100000 in
theorem decimal_small (n : Nat) (w : World) (hn : n < 10) :
    Calls Tryd.prog 24 #[.int .i64 n] w fun e w' => e = .returned (.string ⟨(Lib.decDigits n).toArray⟩) ∧ Below w.heap.size w w' := by
  rw [dd_small hn]
  have hb := Lib.hid ((Below.refl w.heap.size w).alloc (Nat.le_refl _) (.cells #[.int .u8 (48 + n)] 5))
  have hd := digit_nat hn
  generalize UInt8.ofNat (48 + n) = x at *
  have hc := conv_one (w.alloc (.cells #[.int .u8 (48 + n)] 5)) w.heap.size x (by rw [hd, (Blk.new w 5 #[.int .u8 (48 + n)]).cell]; rfl)
  clear hd
  go_enter Tryd.func24, Tryd.ntmps24
  go_wp2_with fail
  go_ret
  exact ⟨rfl, hb.out⟩
end Go.Proofs.YtkmdlpkdoplpdaaDoor
