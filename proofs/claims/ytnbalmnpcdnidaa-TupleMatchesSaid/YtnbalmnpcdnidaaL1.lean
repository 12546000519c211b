/- The law TupleMatches: the walk. -/
import Derived.Test.YtnbalmnpcdnidaaW6
import Derived.Test.YtnbalmnpcdnidaaFix
import Derived.Deep.RegionHeld3
namespace Go.Proofs.Ytnbalmnpcdnidaa
open Go.RowKit
set_option maxHeartbeats 2000000 in
theorem tupleMatches_calls (p q r : ByteArray) (t : Tup) (w : World) (ht : t.fits) :
    Calls Try.prog 3 #[.agg #[.string p, .string q, .string r], t.v] w fun e w' => e = .returned (.bool true) ∧ Below w.heap.size w w' := by
  unfold Tup.v
  cases hfew : t.few
  · go_enter Try.func3, Try.ntmps3
    go_wp2_with fail
    refine (fixed_calls _).mono ?_
    rintro e w1 ⟨rfl, hb1⟩; obtain ⟨hc1, hf1⟩ := bcell hb1
    have y1 : w.heap.size + 1 < w1.heap.size := by have := hb1.size; simp at this; omega
    go_wp2_with fail
    refine (few_one t _ ht).mono ?_
    rw [hfew]
    rintro e w2 ⟨rfl, hb2⟩
    have B1 : Below w.heap.size w w1 := (((Below.refl _ _).alloc (Nat.le_refl _) _).alloc (by simp) _).trans (hb1.mono (by simp; omega))
    have B2 : Below w.heap.size w w2 := (B1.alloc (by omega) _).trans (hb2.mono (by omega))
    go_wp2
    go_ret
    exact ⟨rfl, B2⟩
  · go_enter Try.func3, Try.ntmps3
    go_wp2_with fail
    refine (fixed_calls _).mono ?_
    rintro e w1 ⟨rfl, hb1⟩; obtain ⟨hc1, hf1⟩ := bcell hb1
    have y1 : w.heap.size + 1 < w1.heap.size := by have := hb1.size; simp at this; omega
    go_wp2_with fail
    refine (few_one t _ ht).mono ?_
    rw [hfew]
    rintro e w2 ⟨rfl, hb2⟩
    have B1 : Below w.heap.size w w1 := (((Below.refl _ _).alloc (Nat.le_refl _) _).alloc (by simp) _).trans (hb1.mono (by simp; omega))
    have B2 : Below w.heap.size w w2 := (B1.alloc (by omega) _).trans (hb2.mono (by omega))
    have C2 : Below (w.heap.size + 2) ((w.alloc (.cells #[.string p, .string q, .string r] 23)).alloc (.cells #[.string t.a, .string t.b, .string t.c, .string t.d, .string t.e, .string t.f] 29)) w2 := ((hb1.mono (by simp)).alloc (by omega) _).trans (hb2.mono (by omega))
    have b0 : Blk w2 w.heap.size 23 #[.string p, .string q, .string r] := ((Blk.new w _ _).alloc _).below C2 (by omega)
    have b1 : Blk w2 (w.heap.size + 1) 29 #[.string t.a, .string t.b, .string t.c, .string t.d, .string t.e, .string t.f] := by
      have h := Blk.new (w.alloc (.cells #[.string p, .string q, .string r] 23)) 29 #[.string t.a, .string t.b, .string t.c, .string t.d, .string t.e, .string t.f]
      simp only [World.size_alloc] at h
      exact h.below C2 (by omega)
    have b0c := b0.cell
    have b1c := b1.cell
    have l2 : w.heap.size + 1 < w2.heap.size := by have := hb2.size; simp at this; omega
    have l1 : w.heap.size < w2.heap.size := by omega
    clear hc1 hf1 hb1 hb2 C2
    by_cases hs : (300 : Int) < wrap64 (wrap64 ((p.size : Int) + q.size) + r.size)
    · go_wp2
      go_ret
      exact ⟨rfl, B2⟩
    · go_wp2_with fail
      go_region_held3 (fun w' => (∀ i, w'.cell? ⟨w.heap.size, i, none⟩ = (#[.string p, .string q, .string r] : Array Value)[i]?) ∧ (∀ i, w'.cell? ⟨w.heap.size + 1, i, none⟩ = (#[.string t.a, .string t.b, .string t.c, .string t.d, .string t.e, .string t.f] : Array Value)[i]?) ∧ Below w2.heap.size w2 w')
        (first | exact keep2_drew b0c b1c | exact keep2 l1 l2 (by assumption) (by assumption))
        (first
          | (go_at_call 7; refine (match_calls p q r t _).mono ?_; rintro e w3 ⟨rfl, hb3⟩)
          | (go_at_call 8; refine (refMatch_calls p q r t _).mono ?_; rintro e w4 ⟨rfl, hb4⟩))
      go_wp2
      all_goals
        go_ret
        refine ⟨rfl, B2.trans ?_⟩
        first
          | exact Below.mono (by assumption) (Nat.le_of_lt l1)
          | exact (keepB (by assumption)).mono (Nat.le_of_lt l1)
end Go.Proofs.Ytnbalmnpcdnidaa
