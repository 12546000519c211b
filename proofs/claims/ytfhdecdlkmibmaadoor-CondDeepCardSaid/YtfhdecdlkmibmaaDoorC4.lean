/- A condition's tokens, as it is written, say that condition: each form. No program in sight. -/
import Derived.Test.YtfhdecdlkmibmaaDoorC3
namespace Go.Proofs.YtfhdecdlkmibmaaDoor
theorem keysP_app (a b : List Piece) : keysP (a ++ b) = keysP a ++ keysP b := by unfold keysP; rw [List.filterMap_append]
theorem keys_split {lx : Toks} {a b : List Key} (h : lx.map Tok.key = a ++ b) : ∃ l1 l2, lx = l1 ++ l2 ∧ l1.map Tok.key = a ∧ l2.map Tok.key = b := List.map_eq_append_iff.1 h
theorem keys_head {lx : Toks} {a : Key} {b : List Key} (h : lx.map Tok.key = a :: b) : ∃ t r, lx = t :: r ∧ t.key = a ∧ r.map Tok.key = b := by
  cases lx with
  | nil => cases h
  | cons t r => injection h with h1 h2; exact ⟨t, r, rfl, h1, h2⟩
theorem key_is {t : Tok} {k : Nat} {x : List UInt8} {b : Bool} (h : t.key = (k, x, b)) : t.sort = k ∧ t.text = x ∧ t.dig = b := by
  unfold Tok.key at h
  injection h with h1 h
  injection h with h2 h3
  exact ⟨h1, h2, h3⟩
theorem isT_key {t : Tok} {r : Toks} {k : Nat} {x : List UInt8} {b : Bool} (h : t.key = (k, x, b)) (hk : k = 2 ∨ k = 3) : isT (t :: r) x = true := by
  obtain ⟨h1, h2, _⟩ := key_is h
  rcases hk with rfl | rfl <;> simp [isT, h1, h2]
theorem isT_ne {t : Tok} {r : Toks} {k : Nat} {x y : List UInt8} {b : Bool} (h : t.key = (k, x, b)) (hy : x ≠ y) : isT (t :: r) y = false := by
  obtain ⟨h1, h2, _⟩ := key_is h
  simp [isT, h2, hy]
theorem isT_no {t : Tok} {r : Toks} {k : Nat} {x y : List UInt8} {b : Bool} (h : t.key = (k, x, b)) (hk : k ≠ 2 ∧ k ≠ 3) : isT (t :: r) y = false := by
  obtain ⟨h1, _, _⟩ := key_is h
  simp [isT, h1, hk.1, hk.2]
theorem opLv_key {t : Tok} {r : Toks} {k : Nat} {x : List UInt8} {b : Bool} (h : t.key = (k, x, b)) (r' : Toks) (t' : Tok) (h' : t'.key = (k, x, b)) : opLv (t :: r) = opLv (t' :: r') := by
  obtain ⟨h1, h2, _⟩ := key_is h
  obtain ⟨h3, h4, _⟩ := key_is h'
  have : ∀ s, isT (t :: r) s = isT (t' :: r') s := fun s => by simp [isT, h1, h2, h3, h4]
  simp only [opLv, this]
theorem opLv_le (m : Toks) : opLv m ≤ 6 := by
  unfold opLv
  split
  · omega
  · split
    · omega
    · split
      · omega
      · split
        · omega
        · split <;> omega
/-- what a not may not begin -/
theorem unit_not {l : Toks} (h : isT l notL = true) : ∀ d, ∃ e, gUnitD d l = .error e := by
  obtain ⟨t, r, rfl, h1, h2⟩ := isT_text h
  intro d
  have e1 : ¬ t.sort = 4 := by rcases h1 with h1 | h1 <;> rw [h1] <;> decide
  have e2 : ¬ t.sort = 5 := by rcases h1 with h1 | h1 <;> rw [h1] <;> decide
  have e3 : ¬ (t.sort = 2 ∧ t.text = minusL ∧ t.dig = true) := by rw [h2]; rintro ⟨_, e, _⟩; exact absurd e (by decide)
  have e4 := isT_one h (show trueL ≠ notL by decide)
  have e5 := isT_one h (show falseL ≠ notL by decide)
  have e6 : ¬ (t.sort = 3 ∧ isNameC t.text = true) := by rw [h2]; rintro ⟨_, e⟩; exact absurd e (by decide)
  have e7 := isT_one h (show openL ≠ notL by decide)
  cases d with
  | zero => exact ⟨t.pos, by show gUnit none (t :: r) = _; unfold gUnit; simp [e1, e2, e3, e4, e5, e6]⟩
  | succ d => exact ⟨t.pos, by show gUnit (some _) (t :: r) = _; unfold gUnit; simp [e1, e2, e3, e4, e5, e6, e7]⟩
theorem not_head {d j : Nat} {l m : Toks} {c : CT} (hj : 4 ≤ j) (hj7 : j ≤ 7) (h : gL d j l = .ok (c, m)) : isT l notL = false := by
  cases hc : isT l notL
  · rfl
  · exfalso
    obtain ⟨e, he⟩ := unit_not hc d
    have h6 : gTimes (gUnitD d) l = .error e := by unfold gTimes; rw [he]
    have h5 : gSum (gTimes (gUnitD d)) l = .error e := by unfold gSum; rw [h6]
    have h4 : gHeld (gSum (gTimes (gUnitD d))) l = .error e := by unfold gHeld; rw [h5]
    rcases j with _ | _ | _ | _ | _ | _ | _ | _ | j
    · omega
    · omega
    · omega
    · omega
    · rw [show gL d 4 l = _ from h4] at h; cases h
    · rw [show gL d 5 l = _ from h5] at h; cases h
    · rw [show gL d 6 l = _ from h6] at h; cases h
    · rw [show gL d 7 l = _ from he] at h; cases h
    · omega
/-- down from a level at which it is read -/
theorem down {d r j : Nat} {l m : Toks} {c : CT} (h : gL d r l = .ok (c, m)) (hr : r ≤ 7) (hj : j ≤ r) (hj1 : 1 ≤ j) (hm : opLv m < j) : gL d j l = .ok (c, m) := by
  by_cases h4 : 4 ≤ r
  · exact up_to (not_head h4 hr h) (r - j) j (by omega) hj1 (by rw [show j + (r - j) = r by omega]; exact h) hm
  · exact up_low (r - j) j (by omega) hj1 (by rw [show j + (r - j) = r by omega]; exact h) hm
/-- each part that a writer writes with f is read as it is -/
def PC (f : Nat) : Prop := ∀ (d least : Nat) (c : CT) (x : List Piece), partW (condW f) d least c = some x → 1 ≤ least → least ≤ 7 → ∀ (lx m : Toks), lx.map Tok.key = keysP x → opLv m < least → gL d least (lx ++ m) = .ok (c, m)
/-- a product's first part, whatever follows -/
def C6 (f : Nat) : Prop := ∀ (d : Nat) (c : CT) (x : List Piece), partW (condW f) d 6 c = some x → ∀ (lx m : Toks), lx.map Tok.key = keysP x → ∃ n, m.length + 1 ≤ n ∧ gL d 6 (lx ++ m) = timesL (gUnitD d) n c m
def C5 (f : Nat) : Prop := ∀ (d : Nat) (c : CT) (x : List Piece), partW (condW f) d 5 c = some x → ∀ (lx m : Toks), lx.map Tok.key = keysP x → opLv m ≤ 5 → ∃ n, m.length + 1 ≤ n ∧ gL d 5 (lx ++ m) = sumL (gTimes (gUnitD d)) n c m
theorem rank_pos (c : CT) : 1 ≤ rankC c ∧ rankC c ≤ 7 := by
  unfold rankC
  split
  · omega
  · split
    · omega
    · split
      · split
        · split <;> omega
        · omega
      · split
        · omega
        · split
          · omega
          · split <;> omega
/-- brackets -/
theorem bracket {d : Nat} {c : CT} {t t2 : Tok} {lx m : Toks} (ht : t.key = (2, openL, false)) (ht2 : t2.key = (2, closeL, false)) (h : gL d 1 (lx ++ t2 :: m) = .ok (c, t2 :: m)) : gL (d + 1) 7 (t :: (lx ++ t2 :: m)) = .ok (c, m) := by
  obtain ⟨h1, h2, h3⟩ := key_is ht
  show gUnit (some (gCondOf (gUnitD d))) (t :: (lx ++ t2 :: m)) = _
  have h' : gCondOf (gUnitD d) (lx ++ t2 :: m) = .ok (c, t2 :: m) := h
  unfold gUnit
  simp only [h1, h3, isT_ne ht (show openL ≠ trueL by decide), isT_ne ht (show openL ≠ falseL by decide), isT_key ht (.inl rfl), h', isT_key ht2 (.inl rfl)]
  simp
end Go.Proofs.YtfhdecdlkmibmaaDoor
