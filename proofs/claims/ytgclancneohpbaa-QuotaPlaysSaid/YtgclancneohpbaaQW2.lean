/- Walk: the program's quota: filled. -/
import Derived.Test.YtgclancneohpbaaQW1
import Derived.Test.YtgclancneohpbaaMul
import Derived.BigQuiet
namespace Go.Proofs.Ytgclancneohpbaa
open Go.RowKit Go.Maps
set_option maxHeartbeats 2000000 in
set_option maxRecDepth 100000 in
theorem filled_calls (q : Qt) (g b n : Nat) (h t d : Nat) (w : World) (hq : Qat w g b n q) (h1 : h ≤ q.most) (h2 : t + d < 18446744073709551616) :
    Calls Try.prog 65 #[.pointer (some ⟨g, 0, none⟩), .agg #[.int .u64 h, .int .u64 t], .int .u64 ((t + d : Nat) : Int)] w fun e w' => e = .returned (purseV (q.fill (h, t) (t + d), t + d)) ∧ Below w.heap.size w w' := by
  have hrate := hq.ok.rate
  have hmost := hq.ok.most
  have hg := hq.blk.lt
  have qc := hq.blk.cell
  have hM : ∀ w, Calls Try.prog 78 #[.int .u64 ((t : Int) + (d : Int) - (t : Int)), .int .u64 q.rate] w fun e w' => e = .returned (.tuple #[.int .u64 ((d * q.rate / 18446744073709551616 : Nat) : Int), .int .u64 ((d * q.rate % 18446744073709551616 : Nat) : Int)]) ∧ w' = w := by
    intro w
    rw [show (t : Int) + (d : Int) - (t : Int) = (d : Int) by omega]
    exact Try.bits_Mul64 d q.rate (by omega) (by omega) w
  have f1 : 0 < d * q.rate / 18446744073709551616 → q.fill (h, t) (t + d) = q.most := fun h0 => fill_hi hq.ok (by rwa [show t + d - (h, t).2 = d by show t + d - t = d; omega])
  have f2 : d * q.rate / 18446744073709551616 = 0 → q.most - h < d * q.rate % 18446744073709551616 → q.fill (h, t) (t + d) = q.most := fun h0 h3 => fill_gain (by rwa [show t + d - (h, t).2 = d by show t + d - t = d; omega]) (by rwa [show t + d - (h, t).2 = d by show t + d - t = d; omega])
  have f3 : d * q.rate / 18446744073709551616 = 0 → ¬ q.most - h < d * q.rate % 18446744073709551616 → q.fill (h, t) (t + d) = h + d * q.rate % 18446744073709551616 := fun h0 h3 => by
    have := fill_sum (q := q) (p := (h, t)) (t := t + d) h1 (by rwa [show t + d - (h, t).2 = d by show t + d - t = d; omega]) (by rwa [show t + d - (h, t).2 = d by show t + d - t = d; omega])
    rwa [show t + d - (h, t).2 = d by show t + d - t = d; omega] at this
  have hlo : d * q.rate % 18446744073709551616 < 18446744073709551616 := Nat.mod_lt _ (by omega)
  have hhi : d * q.rate / 18446744073709551616 < 18446744073709551616 := by
    have : d * q.rate ≤ 18446744073709551616 * 4294967296 := Nat.mul_le_mul (by omega) hrate
    omega
  generalize d * q.rate / 18446744073709551616 = hi at *
  generalize d * q.rate % 18446744073709551616 = lo at *
  generalize q.fill (h, t) (t + d) = F at *
  have f1' := Lib.hid f1
  have f2' := Lib.hid f2
  have f3' := Lib.hid f3
  have hM' := Lib.hid hM
  clear f1 f2 f3 hM
  go_enter Try.func65, Try.ntmps65
  go_wp2_with fail
  go_quiet ((go_at_call 78; exact Calls.quiet_of_same (hM'.out _)))
  rename_i n1
  by_cases c1 : 0 < hi
  · have d1 : decide (0 < hi) = true := decide_eq_true c1
    have e1 := f1'.out c1
    clear c1 f1' f2' f3' hM'
    go_wp2_with fail
    go_quiet (fail)
    go_wp2_with fail
    refine bodyPost_ret (v := purseV (F, t + d)) (by simp [results, Try.results65, go_sem, e1]) rfl ⟨rfl, ?_⟩
    exact ((bdrewN (((Below.refl w.heap.size w).alloc (Nat.le_refl _) _).alloc (by simp) _) _).setCell (by simp) _).setCell (by simp) _
  · obtain rfl : hi = 0 := by omega
    by_cases c2 : q.most - h < lo
    · have d2 : decide ((q.most : Int) - (h : Int) < (lo : Int)) = true := by simp; omega
      have e1 := f2'.out rfl c2
      clear c1 c2 f1' f2' f3' hM'
      go_wp2_with fail
      go_quiet (fail)
      go_wp2_with fail
      refine bodyPost_ret (v := purseV (F, t + d)) (by simp [results, Try.results65, go_sem, e1]) rfl ⟨rfl, ?_⟩
      exact ((bdrewN (((Below.refl w.heap.size w).alloc (Nat.le_refl _) _).alloc (by simp) _) _).setCell (by simp) _).setCell (by simp) _
    · have d2 : decide ((q.most : Int) - (h : Int) < (lo : Int)) = false := by simp; omega
      have e1 := f3'.out rfl c2
      clear c1 f1' f2' f3' hM'
      go_wp2_with fail
      go_quiet (fail)
      go_wp2_with fail
      refine bodyPost_ret (v := purseV (F, t + d)) (by simp [results, Try.results65, go_sem, e1]) rfl ⟨rfl, ?_⟩
      exact ((bdrewN (((Below.refl w.heap.size w).alloc (Nat.le_refl _) _).alloc (by simp) _) _).setCell (by simp) _).setCell (by simp) _
end Go.Proofs.Ytgclancneohpbaa
