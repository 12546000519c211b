/- What is written is read as it is: by the size of a condition. No program in sight. -/
import Derived.Test.YtfhdecdlkmibmaaDoorC4
namespace Go.Proofs.YtfhdecdlkmibmaaDoor
theorem step_leaf {cond : Wr} {d : Nat} {k n : Int} {s : List UInt8} {x : List Piece} (h : stepW cond d (.node k n s []) = some x) : rightC (.node k n s []) = true ∧ (k = 1 → x = [wd trueL]) ∧ (k = 2 → x = [wd falseL]) ∧ (k = 3 → x = numP n) ∧ (k = 4 → x = [some (5, s, false)]) ∧ (k = 5 → x = [wd s]) := by
  unfold stepW at h
  by_cases hr : rightC (.node k n s []) = false
  · rw [if_pos hr] at h; cases h
  rw [if_neg hr] at h
  have hun : unlikeC (.node k n s []) = false := by simp [unlikeC, CT.parts]
  rw [if_neg (by rw [hun]; decide)] at h
  refine ⟨by simpa using hr, ?_, ?_, ?_, ?_, ?_⟩ <;>
  · rintro rfl
    simp [CT.kind, CT.num, CT.str] at h
    exact h.symm
theorem right_none (k n : Int) (s : List UInt8) (ps : List CT) (h : ¬ (1 ≤ k ∧ k ≤ 15)) : ¬ rightC (.node k n s ps) = true := by
  have h1 : ¬ (k = 1 ∨ k = 2) := by omega
  have h2 : ¬ k = 3 := by omega
  have h3 : ¬ k = 4 := by omega
  have h4 : ¬ k = 5 := by omega
  have h5 : ¬ k = 6 := by omega
  have h6 : ¬ (k = 7 ∨ k = 8) := by omega
  have h7 : ¬ k = 15 := by omega
  have h8 : ¬ (9 ≤ k ∧ k ≤ 14) := by omega
  unfold rightC
  show ¬ (if k = 1 ∨ k = 2 then _ else if k = 3 then _ else if k = 4 then _ else if k = 5 then _ else if k = 6 then _ else if k = 7 ∨ k = 8 then _ else if k = 15 then _ else if 9 ≤ k ∧ k ≤ 14 then _ else false) = true
  rw [if_neg h1, if_neg h2, if_neg h3, if_neg h4, if_neg h5, if_neg h6, if_neg h7, if_neg h8]
  decide
section
variable {f d : Nat} {c : CT}
/-- a leaf -/
theorem leaf_read {x : List Piece} {k n : Int} {s : List UInt8} (hnum : ∀ n : Nat, n ≤ mostN → numG (decL n) 0 = some n ∧ (1 ≤ n → numG (decL n) 1 = some n)) (h : stepW (condW f) d (.node k n s []) = some x) (hk : k ≠ 6) (hk9 : ¬ (7 ≤ k ∧ k ≤ 15)) (lx m : Toks) (hl : lx.map Tok.key = keysP x) : gL d 7 (lx ++ m) = .ok (.node k n s [], m) := by
  have hu : ∀ sub, gUnit sub (lx ++ m) = .ok (.node k n s [], m) := by
    intro sub
    obtain ⟨hr, i1, i2, i3, i4, i5⟩ := step_leaf h
    by_cases h1 : k = 1
    · subst h1
      obtain rfl := i1 rfl
      obtain ⟨t, r, rfl, ht, hr2⟩ := keys_head hl
      obtain rfl : r = [] := by simpa using hr2
      obtain ⟨k1, k2, k3⟩ := key_is ht
      have hp : n = 0 ∧ s = [] := by simpa [rightC, plainC, CT.kind, CT.num, CT.str, CT.parts] using hr
      rw [hp.1, hp.2]
      simp [gUnit, k1, isT_key ht (.inr rfl), leaf]
    by_cases h2 : k = 2
    · subst h2
      obtain rfl := i2 rfl
      obtain ⟨t, r, rfl, ht, hr2⟩ := keys_head hl
      obtain rfl : r = [] := by simpa using hr2
      obtain ⟨k1, k2, k3⟩ := key_is ht
      have hp : n = 0 ∧ s = [] := by simpa [rightC, plainC, CT.kind, CT.num, CT.str, CT.parts] using hr
      rw [hp.1, hp.2]
      simp [gUnit, k1, isT_key ht (.inr rfl), isT_ne ht (show falseL ≠ trueL by decide), leaf]
    by_cases h3 : k = 3
    · subst h3
      obtain rfl := i3 rfl
      have hp : s = [] ∧ -1000000000000000 ≤ n ∧ n ≤ 1000000000000000 := by
        have this : (([] : List CT).isEmpty && s.isEmpty && decide (-1000000000000000 ≤ n) && decide (n ≤ 1000000000000000)) = true := hr
        rw [Bool.and_eq_true, Bool.and_eq_true, Bool.and_eq_true] at this
        exact ⟨List.isEmpty_iff.1 this.1.1.2, of_decide_eq_true this.1.2, of_decide_eq_true this.2⟩
      obtain ⟨rfl, p1, p2⟩ := hp
      unfold numP at hl
      by_cases hn : n < 0
      · rw [if_pos hn] at hl
        obtain ⟨t, r, rfl, ht, hr2⟩ := keys_head hl
        obtain ⟨t2, r2, rfl, ht2, hr3⟩ := keys_head hr2
        obtain rfl : r2 = [] := by simpa using hr3
        obtain ⟨k1, k2, k3⟩ := key_is ht
        obtain ⟨j1, j2, j3⟩ := key_is ht2
        have hq := (hnum n.natAbs (by unfold mostN; omega)).2 (by omega)
        have hv : -((n.natAbs : Nat) : Int) = n := by omega
        simp [gUnit, k1, k2, k3, j2, hq, leaf, hv]
      · rw [if_neg hn] at hl
        obtain ⟨t, r, rfl, ht, hr2⟩ := keys_head hl
        obtain rfl : r = [] := by simpa using hr2
        obtain ⟨k1, k2, k3⟩ := key_is ht
        have hq := (hnum n.natAbs (by unfold mostN; omega)).1
        have hv : ((n.natAbs : Nat) : Int) = n := by omega
        simp [gUnit, k1, k2, hq, leaf, hv]
    by_cases h4 : k = 4
    · subst h4
      obtain rfl := i4 rfl
      obtain ⟨t, r, rfl, ht, hr2⟩ := keys_head hl
      obtain rfl : r = [] := by simpa using hr2
      obtain ⟨k1, k2, k3⟩ := key_is ht
      have hp : n = 0 := by
        have : n = 0 ∧ s.all isQuo = true := by simpa [rightC, CT.kind, CT.num, CT.str, CT.parts] using hr
        exact this.1
      rw [hp]
      simp [gUnit, k1, k2, leaf]
    by_cases h5 : k = 5
    · subst h5
      obtain rfl := i5 rfl
      obtain ⟨t, r, rfl, ht, hr2⟩ := keys_head hl
      obtain rfl : r = [] := by simpa using hr2
      obtain ⟨k1, k2, k3⟩ := key_is ht
      have hp : n = 0 ∧ isNameC s = true := by simpa [rightC, CT.kind, CT.num, CT.str, CT.parts] using hr
      have ht1 : s ≠ trueL := fun e => by rw [e] at hp; exact absurd hp.2 (by decide)
      have ht2 : s ≠ falseL := fun e => by rw [e] at hp; exact absurd hp.2 (by decide)
      rw [hp.1]
      simp [gUnit, k1, k2, isT_ne ht ht1, isT_ne ht ht2, hp.2, leaf]
    · exfalso
      exact right_none k n s [] (by omega) hr
  cases d with
  | zero => exact hu none
  | succ d => exact hu (some _)
end
/-- a part, from what its level reads -/
theorem part_of {f : Nat} (hU : ∀ d c x, condW f d c = some x → ∀ lx m : Toks, lx.map Tok.key = keysP x → opLv m < rankC c → gL d (rankC c) (lx ++ m) = .ok (c, m)) : PC f := by
  intro d least c x h h1 h7 lx m hl hm
  unfold partW at h
  by_cases hr : least ≤ rankC c
  · rw [if_pos hr] at h
    exact down (hU d c x h lx m hl (by omega)) (rank_pos c).2 hr h1 hm
  · rw [if_neg hr] at h
    cases d with
    | zero => cases h
    | succ d =>
      obtain ⟨y, hy, rfl⟩ := Option.map_eq_some_iff.1 h
      obtain ⟨t, r, rfl, ht, hr2⟩ := keys_head (a := (2, openL, false)) (b := keysP y ++ [(2, closeL, false)]) (by rw [hl]; simp [keysP, mk])
      obtain ⟨l1, l2, rfl, hl1, hl2⟩ := keys_split hr2
      obtain ⟨t2, r2, rfl, ht2, hr3⟩ := keys_head hl2
      obtain rfl : r2 = [] := by simpa using hr3
      have hc : opLv (t2 :: m) < 1 := by
        simp [opLv, isT_ne ht2 (show closeL ≠ [42] by decide), isT_ne ht2 (show closeL ≠ [43] by decide), isT_ne ht2 (show closeL ≠ [45] by decide), isT_ne ht2 (show closeL ≠ [61] by decide), isT_ne ht2 (show closeL ≠ [33, 61] by decide), isT_ne ht2 (show closeL ≠ [60] by decide), isT_ne ht2 (show closeL ≠ [60, 61] by decide), isT_ne ht2 (show closeL ≠ [62] by decide), isT_ne ht2 (show closeL ≠ [62, 61] by decide), isT_ne ht2 (show closeL ≠ inL by decide), isT_ne ht2 (show closeL ≠ andL by decide), isT_ne ht2 (show closeL ≠ orL by decide)]
      have h2 := down (hU d c y hy l1 (t2 :: m) hl1 (by have := (rank_pos c).1; omega)) (rank_pos c).2 (rank_pos c).1 (Nat.le_refl _) hc
      have h3 := bracket ht ht2 h2
      have e : t :: (l1 ++ [t2]) ++ m = t :: (l1 ++ t2 :: m) := by simp
      rw [e]
      exact down h3 (Nat.le_refl _) h7 h1 hm
end Go.Proofs.YtfhdecdlkmibmaaDoor
