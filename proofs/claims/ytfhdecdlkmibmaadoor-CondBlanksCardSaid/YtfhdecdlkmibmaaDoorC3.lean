/- A condition's tokens, as it is written, say that condition. No program in sight. -/
import Derived.Test.YtfhdecdlkmibmaaDoorC2
namespace Go.Proofs.YtfhdecdlkmibmaaDoor
/-- the levels of the parser -/
def gL (d : Nat) : Nat → Toks → Res
  | 7 => gUnitD d
  | 6 => gTimes (gUnitD d)
  | 5 => gSum (gTimes (gUnitD d))
  | 4 => gHeld (gSum (gTimes (gUnitD d)))
  | 3 => fun l => gNo (gHeld (gSum (gTimes (gUnitD d)))) l.length l
  | 2 => gRow (fun l => gNo (gHeld (gSum (gTimes (gUnitD d)))) l.length l) andL 7
  | _ => gCond d
/-- how closely the sign at the head holds together, if it is one that stands between -/
def opLv (m : Toks) : Nat :=
  if isT m [42] then 6 else if isT m [43] || isT m [45] then 5
  else if isT m [61] || isT m [33, 61] || isT m [60] || isT m [60, 61] || isT m [62] || isT m [62, 61] || isT m inL then 4
  else if isT m andL then 2 else if isT m orL then 1 else 0
theorem isT_text {m : Toks} {s : List UInt8} (h : isT m s = true) : ∃ t r, m = t :: r ∧ (t.sort = 2 ∨ t.sort = 3) ∧ t.text = s := by
  cases m with
  | nil => cases h
  | cons t r =>
    simp only [isT, Bool.and_eq_true, Bool.or_eq_true, beq_iff_eq] at h
    exact ⟨t, r, rfl, h.1, h.2⟩
theorem isT_one {m : Toks} {s s' : List UInt8} (h : isT m s = true) (hne : s' ≠ s) : isT m s' = false := by
  obtain ⟨t, r, rfl, _, h2⟩ := isT_text h
  simp only [isT, h2]
  rw [show (s == s') = false from beq_false_of_ne (Ne.symm hne)]
  simp
theorem isW_T {m : Toks} {s : List UInt8} (h : isW m s = true) : isT m s = true := by
  cases m with
  | nil => cases h
  | cons t r =>
    simp only [isW, Bool.and_eq_true, beq_iff_eq] at h
    simp [isT, h.1, h.2]
theorem op_lt6 {m : Toks} (h : opLv m < 6) : isT m [42] = false := by
  unfold opLv at h
  cases hc : isT m [42]
  · rfl
  · rw [hc] at h; simp at h
theorem op_lt5 {m : Toks} (h : opLv m < 5) : isT m [42] = false ∧ isT m [43] = false ∧ isT m [45] = false := by
  refine ⟨op_lt6 (by omega), ?_, ?_⟩
  · cases hc : isT m [43]
    · rfl
    · unfold opLv at h; rw [hc, op_lt6 (by unfold opLv; rw [hc, isT_one hc (by decide)]; simp)] at h; simp at h
  · cases hc : isT m [45]
    · rfl
    · unfold opLv at h; rw [hc, op_lt6 (by unfold opLv; rw [hc, isT_one hc (by decide)]; simp)] at h; simp at h
theorem op_lt4 {m : Toks} (h : opLv m < 4) : isT m [61] = false ∧ isT m [33, 61] = false ∧ isT m [60] = false ∧ isT m [60, 61] = false ∧ isT m [62] = false ∧ isT m [62, 61] = false ∧ isT m inL = false := by
  obtain ⟨h1, h2, h3⟩ := op_lt5 (Nat.lt_succ_of_lt h)
  unfold opLv at h
  rw [h1, h2, h3] at h
  simp only [Bool.false_eq_true, if_false, Bool.or_self] at h
  split at h
  · omega
  · rename_i hh
    simpa [Bool.or_eq_true, not_or, Bool.not_eq_true, and_assoc] using hh
theorem op_lt2 {m : Toks} (h : opLv m < 2) : isT m andL = false := by
  cases hc : isT m andL
  · rfl
  · unfold opLv at h
    rw [hc, isT_one hc (by decide), isT_one hc (by decide), isT_one hc (by decide), isT_one hc (by decide), isT_one hc (by decide), isT_one hc (by decide), isT_one hc (by decide), isT_one hc (by decide), isT_one hc (by decide), isT_one hc (by decide)] at h
    simp at h
theorem op_lt1 {m : Toks} (h : opLv m < 1) : isT m orL = false := by
  cases hc : isT m orL
  · rfl
  · unfold opLv at h
    rw [hc, isT_one hc (by decide), isT_one hc (by decide), isT_one hc (by decide), isT_one hc (by decide), isT_one hc (by decide), isT_one hc (by decide), isT_one hc (by decide), isT_one hc (by decide), isT_one hc (by decide), isT_one hc (by decide), isT_one hc (by decide)] at h
    simp at h
theorem noW {m : Toks} {s : List UInt8} (h : isT m s = false) : isW m s = false := by
  cases hc : isW m s
  · rfl
  · rw [isW_T hc] at h; cases h
/-- a level down, where no sign of that level follows -/
theorem up6 {d : Nat} {l m : Toks} {c : CT} (h : gL d 7 l = .ok (c, m)) (hm : opLv m < 6) : gL d 6 l = .ok (c, m) := by
  show gTimes (gUnitD d) l = _
  unfold gTimes
  rw [show gUnitD d l = .ok (c, m) from h]
  show timesL (gUnitD d) (m.length + 1) c m = _
  unfold timesL
  rw [op_lt6 hm]; rfl
theorem up5 {d : Nat} {l m : Toks} {c : CT} (h : gL d 6 l = .ok (c, m)) (hm : opLv m < 5) : gL d 5 l = .ok (c, m) := by
  show gSum (gTimes (gUnitD d)) l = _
  unfold gSum
  rw [show gTimes (gUnitD d) l = .ok (c, m) from h]
  show sumL _ (m.length + 1) c m = _
  unfold sumL
  rw [(op_lt5 hm).2.1, (op_lt5 hm).2.2]; rfl
theorem up4 {d : Nat} {l m : Toks} {c : CT} (h : gL d 5 l = .ok (c, m)) (hm : opLv m < 4) : gL d 4 l = .ok (c, m) := by
  show gHeld (gSum (gTimes (gUnitD d))) l = _
  unfold gHeld
  rw [show gSum (gTimes (gUnitD d)) l = .ok (c, m) from h]
  obtain ⟨h1, h2, h3, h4, h5, h6, h7⟩ := op_lt4 hm
  simp only [h1, h2, h3, h4, h5, h6, h7, Bool.false_eq_true, if_false]
theorem up3 {d : Nat} {l m : Toks} {c : CT} (h : gL d 4 l = .ok (c, m)) (hl : isT l notL = false) : gL d 3 l = .ok (c, m) := by
  show gNo (gHeld (gSum (gTimes (gUnitD d)))) l.length l = _
  cases l.length with
  | zero => exact h
  | succ n => unfold gNo; rw [hl]; exact h
theorem up2 {d : Nat} {l m : Toks} {c : CT} (h : gL d 3 l = .ok (c, m)) (hm : opLv m < 2) : gL d 2 l = .ok (c, m) := by
  show gRow (gL d 3) andL 7 l = _
  unfold gRow
  rw [h]
  show (if isW m andL = true then _ else _) = _
  rw [noW (op_lt2 hm)]; rfl
theorem up1 {d : Nat} {l m : Toks} {c : CT} (h : gL d 2 l = .ok (c, m)) (hm : opLv m < 1) : gL d 1 l = .ok (c, m) := by
  show gRow (gL d 2) orL 8 l = _
  unfold gRow
  rw [h]
  show (if isW m orL = true then _ else _) = _
  rw [noW (op_lt1 hm)]; rfl
theorem up_to {d : Nat} {l m : Toks} {c : CT} (hl : isT l notL = false) : ∀ (i j : Nat), j + i ≤ 7 → 1 ≤ j → gL d (j + i) l = .ok (c, m) → opLv m < j → gL d j l = .ok (c, m)
  | 0, _, _, _, h, _ => h
  | i + 1, j, hij, hj, h, hm => by
    have h2 := up_to hl i (j + 1) (by omega) (by omega) (by rw [show j + 1 + i = j + (i + 1) by omega]; exact h) (by omega)
    rcases j with _ | _ | _ | _ | _ | _ | _ | j
    · omega
    · exact up1 h2 hm
    · exact up2 h2 hm
    · exact up3 h2 hl
    · exact up4 h2 hm
    · exact up5 h2 hm
    · exact up6 h2 hm
    · omega
/-- as up_to, but no further down than to a Not -/
theorem up_low {d : Nat} {l m : Toks} {c : CT} : ∀ (i j : Nat), j + i ≤ 3 → 1 ≤ j → gL d (j + i) l = .ok (c, m) → opLv m < j → gL d j l = .ok (c, m)
  | 0, _, _, _, h, _ => h
  | i + 1, j, hij, hj, h, hm => by
    have h2 := up_low i (j + 1) (by omega) (by omega) (by rw [show j + 1 + i = j + (i + 1) by omega]; exact h) (by omega)
    rcases j with _ | _ | _ | j
    · omega
    · exact up1 h2 hm
    · exact up2 h2 hm
    · omega
end Go.Proofs.YtfhdecdlkmibmaaDoor
