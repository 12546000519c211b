/- Walks: Match, the reference's Match. -/
import Derived.Test.YtnbalmnpcdnidaaW5
namespace Go.Proofs.Ytnbalmnpcdnidaa
open Go.RowKit
def fits (a b : ByteArray) : Bool := a.toList.isEmpty || a.toList == b.toList
theorem match1_calls (a b : ByteArray) (w : World) :
    Calls Try.prog 15 #[.string a, .string b] w fun e w' => e = .returned (.bool (fits a b)) ∧ w = w' := by
  by_cases ha : a.toList.isEmpty = true
  · have e : fits a b = true := by simp [fits, ha]
    rw [e]
    go_enter Try.func15, Try.ntmps15
    go_wp2
    go_ret
    exact ⟨rfl, rfl⟩
  · simp only [Bool.not_eq_true] at ha
    have e : fits a b = (a.toList == b.toList) := by simp [fits, ha]
    rw [e]
    go_enter Try.func15, Try.ntmps15
    go_wp2
    go_ret
    exact ⟨rfl, rfl⟩
def matches3 (p q r : ByteArray) (t : Tup) : Bool := fits p t.a && fits q t.b && fits r t.c
theorem match_calls (p q r : ByteArray) (t : Tup) (w : World) :
    Calls Try.prog 7 #[.agg #[.string p, .string q, .string r], t.v] w fun e w' => e = .returned (.bool (matches3 p q r t)) ∧ Below w.heap.size w w' := by
  unfold Tup.v
  cases h1 : fits p t.a
  · have e : matches3 p q r t = false := by simp [matches3, h1]
    rw [e]
    go_enter Try.func7, Try.ntmps7
    go_wp2_with (go_at_call 15; refine (match1_calls _ _ _).mono ?_; rintro e w' ⟨rfl, rfl⟩)
    go_ret
    exact ⟨rfl, ((Below.refl _ _).alloc (Nat.le_refl _) _).alloc (by simp) _⟩
  cases h2 : fits q t.b
  · have e : matches3 p q r t = false := by simp [matches3, h2]
    rw [e]
    go_enter Try.func7, Try.ntmps7
    go_wp2_with (go_at_call 15; refine (match1_calls _ _ _).mono ?_; rintro e w' ⟨rfl, rfl⟩)
    go_ret
    exact ⟨rfl, ((Below.refl _ _).alloc (Nat.le_refl _) _).alloc (by simp) _⟩
  · have e : matches3 p q r t = fits r t.c := by simp [matches3, h1, h2]
    rw [e]
    go_enter Try.func7, Try.ntmps7
    go_wp2_with (go_at_call 15; refine (match1_calls _ _ _).mono ?_; rintro e w' ⟨rfl, rfl⟩)
    go_ret
    exact ⟨rfl, ((Below.refl _ _).alloc (Nat.le_refl _) _).alloc (by simp) _⟩
set_option maxHeartbeats 1000000 in
theorem refMatch_calls (p q r : ByteArray) (t : Tup) (w : World) :
    Calls Try.prog 8 #[.agg #[.string p, .string q, .string r], t.v] w fun e w' => e = .returned (.bool (matches3 p q r t)) ∧ Below w.heap.size w w' := by
  unfold Tup.v
  go_enter Try.func8, Try.ntmps8
  go_wp2
  all_goals (go_ret; refine ⟨ret_bool ?_, ((Below.refl _ _).alloc (Nat.le_refl _) _).alloc (by simp) _⟩; simp_all [matches3, fits])
end Go.Proofs.Ytnbalmnpcdnidaa
