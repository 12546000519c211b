/- What is written is read as it is: the whole of a condition. No program in sight. -/
import Derived.Test.YtfhdecdlkmibmaaDoorC6
namespace Go.Proofs.YtfhdecdlkmibmaaDoor
theorem right_of {cond : Wr} {d : Nat} {c : CT} {x : List Piece} (h : stepW cond d c = some x) : rightC c = true := by
  cases hr : rightC c
  · unfold stepW at h; rw [if_pos hr] at h; cases h
  · rfl
theorem right_two {k n : Int} {s : List UInt8} {ps : List CT} (hr : rightC (.node k n s ps) = true) (hk : 9 ≤ k ∧ k ≤ 14) : n = 0 ∧ s = [] ∧ ps.length = 2 := by
  have : k = 9 ∨ k = 10 ∨ k = 11 ∨ k = 12 ∨ k = 13 ∨ k = 14 := by omega
  rcases this with rfl | rfl | rfl | rfl | rfl | rfl <;>
  · have this : (decide (ps.length = 2) && (n == 0 && s.isEmpty)) = true := hr
    simp only [Bool.and_eq_true, decide_eq_true_eq, beq_iff_eq, List.isEmpty_iff] at this
    exact ⟨this.2.1, this.2.2, this.1⟩
theorem right_not {n : Int} {s : List UInt8} {ps : List CT} (hr : rightC (.node 6 n s ps) = true) : n = 0 ∧ s = [] ∧ ps.length = 1 := by
  have this : (decide (ps.length = 1) && (n == 0 && s.isEmpty)) = true := hr
  simp only [Bool.and_eq_true, decide_eq_true_eq, beq_iff_eq, List.isEmpty_iff] at this
  exact ⟨this.2.1, this.2.2, this.1⟩
theorem right_list {n : Int} {s : List UInt8} {ps : List CT} (hr : rightC (.node 15 n s ps) = true) : n = 0 ∧ s = [] ∧ 2 ≤ ps.length := by
  have this : (decide (2 ≤ ps.length) && (n == 0 && s.isEmpty)) = true := hr
  simp only [Bool.and_eq_true, decide_eq_true_eq, beq_iff_eq, List.isEmpty_iff] at this
  exact ⟨this.2.1, this.2.2, this.1⟩
theorem right_row {k n : Int} {s : List UInt8} {ps : List CT} (hr : rightC (.node k n s ps) = true) (hk : k = 7 ∨ k = 8) : n = 0 ∧ s = [] ∧ 2 ≤ ps.length ∧ ∀ p ∈ ps, p.kind ≠ k := by
  rcases hk with rfl | rfl
  · have this : (decide (2 ≤ ps.length) && (n == 0 && s.isEmpty) && !ps.any fun p => p.kind == 7) = true := hr
    simp only [Bool.and_eq_true, decide_eq_true_eq, beq_iff_eq, List.isEmpty_iff, Bool.not_eq_true', List.any_eq_false] at this
    exact ⟨this.1.2.1, this.1.2.2, this.1.1, this.2⟩
  · have this : (decide (2 ≤ ps.length) && (n == 0 && s.isEmpty) && !ps.any fun p => p.kind == 8) = true := hr
    simp only [Bool.and_eq_true, decide_eq_true_eq, beq_iff_eq, List.isEmpty_iff, Bool.not_eq_true', List.any_eq_false] at this
    exact ⟨this.1.2.1, this.1.2.2, this.1.1, this.2⟩
theorem right_leaf {k n : Int} {s : List UInt8} {ps : List CT} (hr : rightC (.node k n s ps) = true) (hk : ¬ (6 ≤ k ∧ k ≤ 15)) : ps = [] := by
  by_cases h : k = 1 ∨ k = 2 ∨ k = 3 ∨ k = 4 ∨ k = 5
  · rcases h with rfl | rfl | rfl | rfl | rfl <;> simp [rightC, CT.kind, CT.parts] at hr
    · exact hr.1
    · exact hr.1
    · exact hr.1.1.1
    · exact hr.1.1
    · exact hr.1.1
  · exfalso
    exact right_none k n s ps (by omega) hr
def U (f : Nat) : Prop := ∀ d c x, condW f d c = some x → ∀ lx m : Toks, lx.map Tok.key = keysP x → opLv m < rankC c → gL d (rankC c) (lx ++ m) = .ok (c, m)
def S6 (f : Nat) : Prop := ∀ d c x, condW f d c = some x → rankC c = 6 → ∀ lx m : Toks, lx.map Tok.key = keysP x → ∃ n, m.length + 1 ≤ n ∧ gL d 6 (lx ++ m) = timesL (gUnitD d) n c m
def S5 (f : Nat) : Prop := ∀ d c x, condW f d c = some x → rankC c = 5 → ∀ lx m : Toks, lx.map Tok.key = keysP x → opLv m ≤ 5 → ∃ n, m.length + 1 ≤ n ∧ gL d 5 (lx ++ m) = sumL (gTimes (gUnitD d)) n c m
theorem c6_of {f : Nat} (hP : PC f) (hS : S6 f) : C6 f := by
  intro d c x h lx m hl
  by_cases h6 : rankC c = 6
  · unfold partW at h
    rw [if_pos (by omega)] at h
    exact hS d c x h h6 lx m hl
  · have h7 : partW (condW f) d 7 c = some x := by
      unfold partW at h ⊢
      by_cases hr : 6 ≤ rankC c
      · rw [if_pos hr] at h; rw [if_pos (by omega)]; exact h
      · rw [if_neg hr] at h; rw [if_neg (by omega)]; exact h
    have he : gUnitD d (lx ++ m) = .ok (c, m) := hP d 7 c x h7 (by omega) (by omega) lx m hl (by have := opLv_le m; omega)
    refine ⟨m.length + 1, Nat.le_refl _, ?_⟩
    show gTimes (gUnitD d) (lx ++ m) = _
    unfold gTimes
    rw [he]
theorem c5_of {f : Nat} (hP : PC f) (hS : S5 f) : C5 f := by
  intro d c x h lx m hl hm
  by_cases h5 : rankC c = 5
  · unfold partW at h
    rw [if_pos (by omega)] at h
    exact hS d c x h h5 lx m hl hm
  · have h6 : partW (condW f) d 6 c = some x := by
      unfold partW at h ⊢
      by_cases hr : 5 ≤ rankC c
      · rw [if_pos hr] at h; rw [if_pos (by omega)]; exact h
      · rw [if_neg hr] at h; rw [if_neg (by omega)]; exact h
    have he : gTimes (gUnitD d) (lx ++ m) = .ok (c, m) := hP d 6 c x h6 (by omega) (by omega) lx m hl (by omega)
    refine ⟨m.length + 1, Nat.le_refl _, ?_⟩
    show gSum (gTimes (gUnitD d)) (lx ++ m) = _
    unfold gSum
    rw [he]
/-- what a rank says of a kind -/
theorem rank_kind (c : CT) : (rankC c = 6 → c.kind = 14) ∧ (rankC c = 5 → c.kind = 12 ∨ c.kind = 13) ∧ (rankC c = 3 → c.kind = 6) ∧ (rankC c = 2 → c.kind = 7) ∧ (rankC c = 1 → c.kind = 8) ∧ (rankC c = 7 → ¬ (6 ≤ c.kind ∧ c.kind ≤ 15)) ∧ (rankC c = 4 → c.kind = 9 ∨ c.kind = 10 ∨ c.kind = 11 ∨ c.kind = 15 ∨ (c.kind = 6 ∧ ∃ p, c.parts = [p] ∧ p.kind = 9)) := by
  unfold rankC
  split
  · rename_i h; refine ⟨?_, ?_, ?_, ?_, ?_, ?_, ?_⟩ <;> intro hh <;> omega
  · split
    · rename_i h; refine ⟨?_, ?_, ?_, ?_, ?_, ?_, ?_⟩ <;> intro hh <;> omega
    · split
      · split
        · split
          · rename_i h3 _ p hp h9
            refine ⟨?_, ?_, ?_, ?_, ?_, ?_, ?_⟩ <;> intro hh <;> first | omega | exact .inr (.inr (.inr (.inr ⟨h3, p, hp, h9⟩)))
          · refine ⟨?_, ?_, ?_, ?_, ?_, ?_, ?_⟩ <;> intro hh <;> omega
        · refine ⟨?_, ?_, ?_, ?_, ?_, ?_, ?_⟩ <;> intro hh <;> omega
      · split
        · rename_i h
          refine ⟨?_, ?_, ?_, ?_, ?_, ?_, ?_⟩ <;> intro hh <;> first | omega | exact h.elim .inl fun h => h.elim (fun h => .inr (.inl h)) fun h => h.elim (fun h => .inr (.inr (.inl h))) fun h => .inr (.inr (.inr (.inl h)))
        · split
          · rename_i h; refine ⟨?_, ?_, ?_, ?_, ?_, ?_, ?_⟩ <;> intro hh <;> first | omega | exact h
          · split
            · rename_i h; refine ⟨?_, ?_, ?_, ?_, ?_, ?_, ?_⟩ <;> intro hh <;> first | omega | exact h
            · refine ⟨?_, ?_, ?_, ?_, ?_, ?_, ?_⟩ <;> intro hh <;> omega
theorem s6_step {f : Nat} (hP : PC f) (hC : C6 f) : S6 (f + 1) := by
  intro d c x h h6 lx m hl
  have hk := (rank_kind c).1 h6
  obtain ⟨k, n, s, ps⟩ := c
  obtain rfl : k = 14 := hk
  have h : stepW (condW f) d (.node 14 n s ps) = some x := h
  have hr := right_of h
  obtain ⟨rfl, rfl, hlen⟩ := right_two hr (by decide)
  have h2 : twoW (condW f) d 6 7 (spc (mk [42])) ps = some x := by
    rw [← h]; unfold stepW; simp [hr, unlikeC, CT.kind, CT.parts]
  obtain ⟨a, b, xa, xb, rfl, ha, hb, rfl⟩ := two_inv h2
  obtain ⟨la, t, lb, rfl, h1, h3, h4⟩ := split3 (a := (2, [42], false)) hl
  exact times_read hC hP ha hb h1 h3 h4
theorem s5_step {f : Nat} (hP : PC f) (hC : C5 f) : S5 (f + 1) := by
  intro d c x h h6 lx m hl hm
  have hk := (rank_kind c).2.1 h6
  obtain ⟨k, n, s, ps⟩ := c
  rcases (show k = 12 ∨ k = 13 from hk) with rfl | rfl
  · have h : stepW (condW f) d (.node 12 n s ps) = some x := h
    have hr := right_of h
    obtain ⟨rfl, rfl, hlen⟩ := right_two hr (by decide)
    have h2 : twoW (condW f) d 5 6 (spc (mk [43])) ps = some x := by
      rw [← h]; unfold stepW; simp [hr, unlikeC, CT.kind, CT.parts]
    obtain ⟨a, b, xa, xb, rfl, ha, hb, rfl⟩ := two_inv h2
    obtain ⟨la, t, lb, rfl, h1, h3, h4⟩ := split3 (a := (2, [43], false)) hl
    exact sum_read hC hP 12 [43] (.inl ⟨rfl, rfl⟩) ha hb h1 h3 h4 hm
  · have h : stepW (condW f) d (.node 13 n s ps) = some x := h
    have hr := right_of h
    obtain ⟨rfl, rfl, hlen⟩ := right_two hr (by decide)
    have h2 : twoW (condW f) d 5 6 (spc (mk minusL)) ps = some x := by
      rw [← h]; unfold stepW; simp [hr, unlikeC, CT.kind, CT.parts]
    obtain ⟨a, b, xa, xb, rfl, ha, hb, rfl⟩ := two_inv h2
    obtain ⟨la, t, lb, rfl, h1, h3, h4⟩ := split3 (a := (2, minusL, false)) hl
    exact sum_read hC hP 13 [45] (.inr ⟨rfl, rfl⟩) ha hb h1 h3 h4 hm
end Go.Proofs.YtfhdecdlkmibmaaDoor
