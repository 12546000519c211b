/- Walks: tuple.Print, parts.tuple. -/
import Derived.Test.YtkmdlpkdoplpdaaDoorW2
namespace Go.Proofs.YtkmdlpkdoplpdaaDoor
open Go.RowKit
theorem tuple_calls (t : Tup) (w : World) :
    Calls Tryd.prog 52 #[t.v] w fun e w' => e = .returned t.v ∧ Below w.heap.size w w' := by
  unfold Tup.v
  go_enter Tryd.func52, Tryd.ntmps52
  go_wp2
  exact bodyPost_ret (v := t.v) (by simp [results, Tryd.results52, go_sem, Tup.v]) rfl ⟨rfl, ((Below.refl _ _).alloc (Nat.le_refl _) _).alloc (by simp) _⟩

set_option maxHeartbeats 400000 in
theorem print_no (t : Tup) (w : World) (hs : t.fits) (hc : t.ok = false) :
    Calls Tryd.prog 18 #[t.v] w fun e w' => e = .returned (.tuple #[.string ⟨#[]⟩, .int .i64 2]) ∧ Below w.heap.size w w' := by
  have hc' : t.check = 2 := by simp [Tup.check, hc]
  have hv : t.v = .agg #[.string t.a, .string t.b, .string t.c, .string t.d, .string t.e, .string t.f] := rfl
  rw [hv]
  go_enter Tryd.func18, Tryd.ntmps18
  go_wp2_with (go_at_call 33; refine (check_calls t _ hs).mono ?_; rw [hc']; rintro e w1 ⟨rfl, hb⟩; obtain ⟨hc1, hf1⟩ := bcell hb)
  go_ret2
  exact ⟨rfl, ((Below.refl _ _).alloc (Nat.le_refl _) _).trans (hb.mono (by simp))⟩
set_option maxHeartbeats 400000 in
theorem print_yes (t : Tup) (w : World) (hs : t.fits) (hc : t.ok = true) :
    Calls Tryd.prog 18 #[t.v] w fun e w' => e = .returned (.tuple #[.string t.print, .int .i64 0]) ∧ Below w.heap.size w w' := by
  have hc' : t.check = 0 := by simp [Tup.check, hc]
  obtain ⟨h0, h1, h2, h3, h4, h5⟩ := Tup.ok_le hc
  have hv : t.v = .agg #[.string t.a, .string t.b, .string t.c, .string t.d, .string t.e, .string t.f] := rfl
  rw [hv]
  go_enter Tryd.func18, Tryd.ntmps18
  go_wp2_with (go_at_call 33; refine (check_calls t _ hs).mono ?_; rw [hc']; rintro e w1 ⟨rfl, hb⟩; obtain ⟨hc1, hf1⟩ := bcell hb)
  all_goals (go_ret2; exact ⟨ret_si (by first | exact (print_has t (by assumption)).symm | exact (print_hasnt t (by assumption)).symm) rfl, ((Below.refl _ _).alloc (Nat.le_refl _) _).trans (hb.mono (by simp))⟩)
end Go.Proofs.YtkmdlpkdoplpdaaDoor
