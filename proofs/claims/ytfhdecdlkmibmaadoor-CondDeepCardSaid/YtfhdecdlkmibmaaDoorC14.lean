/- What is parsed can be written: comparisons, rows, whole conditions; the tokens of a text. No program in sight. -/
import Derived.Test.YtfhdecdlkmibmaaDoorC13
namespace Go.Proofs.YtfhdecdlkmibmaaDoor
section
variable {d : Nat}
theorem heldB_cl {sum : Toks → Res} (hU : CL d 5 sum) {l : Toks} {f : CT → CT} {c : CT} {m : Toks} {n g : Nat} (hw : WF l) (h : heldB sum l f = .ok (c, m)) (hf : ∀ k b, Pr d 5 k b → Pr d 4 (n + g + k) (f b)) : WF m ∧ ∃ k, k + W m = W l ∧ Pr d 4 (n + g + 3 * k) c := by
  unfold heldB at h
  cases hu : sum l with
  | error e => rw [hu] at h; cases h
  | ok q =>
    obtain ⟨b, m1⟩ := q
    rw [hu] at h
    injection h with h; injection h with h1 h2
    subst h1 h2
    obtain ⟨g1, k, g2, g3⟩ := hU l b m1 hw hu
    exact ⟨g1, k, g2, hf _ b g3⟩
theorem held_cl {sum : Toks → Res} (hU : CL d 5 sum) : CL d 4 (gHeld sum) := by
  intro l c m hw h
  unfold gHeld at h
  cases hu : sum l with
  | error e => rw [hu] at h; cases h
  | ok q =>
    obtain ⟨a, m1⟩ := q
    rw [hu] at h
    simp only at h
    obtain ⟨g1, k, g2, g3⟩ := hU l a m1 hw hu
    have fin : ∀ {s : List UInt8} {f : CT → CT} {g : Nat}, isT m1 s = true → g ≤ 3 * s.length → heldB sum m1.tail f = .ok (c, m) → (∀ q b, Pr d 5 q b → Pr d 4 (3 * k + g + q) (f b)) → WF m ∧ ∃ k, k + W m = W l ∧ Pr d 4 (3 * k) c := by
      intro s f g ht hg hh hf
      obtain ⟨k1, k2⟩ := took ht g1
      obtain ⟨i1, k', i2, i3⟩ := heldB_cl hU k1 hh hf
      exact ⟨i1, k + s.length + k', by omega, i3.le (by omega)⟩
    by_cases t1 : isT m1 [61] = true
    · rw [if_pos t1] at h
      exact fin (g := 3) t1 (by decide) h fun q b hb => g3.eq hb
    rw [if_neg t1] at h
    by_cases t2 : isT m1 [33, 61] = true
    · rw [if_pos t2] at h
      exact fin (g := 4) t2 (by decide) h fun q b hb => g3.unlike hb
    rw [if_neg t2] at h
    by_cases t3 : isT m1 [60] = true
    · rw [if_pos t3] at h
      exact fin (g := 3) t3 (by decide) h fun q b hb => g3.less hb
    rw [if_neg t3] at h
    by_cases t4 : isT m1 [60, 61] = true
    · rw [if_pos t4] at h
      exact fin (g := 4) t4 (by decide) h fun q b hb => g3.most hb
    rw [if_neg t4] at h
    by_cases t5 : isT m1 [62] = true
    · rw [if_pos t5] at h
      exact fin (g := 3) t5 (by decide) h fun q b hb => (hb.less g3).le (by omega)
    rw [if_neg t5] at h
    by_cases t6 : isT m1 [62, 61] = true
    · rw [if_pos t6] at h
      exact fin (g := 4) t6 (by decide) h fun q b hb => (hb.most g3).le (by omega)
    rw [if_neg t6] at h
    by_cases t7 : isT m1 inL = true
    · rw [if_pos t7] at h
      obtain ⟨k1, k2⟩ := took t7 g1
      by_cases t8 : isT m1.tail [91] = true
      · rw [if_pos t8] at h
        obtain ⟨k3, k4⟩ := took t8 k1
        cases hi : inLp sum (m1.length + 1) [a] m1.tail.tail with
        | error e => rw [hi] at h; cases h
        | ok q =>
          obtain ⟨ps, m2⟩ := q
          rw [hi] at h
          simp only at h
          obtain ⟨qs, rfl, i1, i2, k', i3, i4⟩ := inLp_cl hU _ _ _ _ _ k3 hi
          by_cases t9 : isT m2 [93] = true
          · rw [if_pos t9] at h
            obtain ⟨j1, j2⟩ := took t9 i2
            injection h with h; injection h with h1 h2
            subst h1 h2
            have e1 : inL.length = 2 := rfl
            have e2 : ([91] : List UInt8).length = 1 := rfl
            have e3 : ([93] : List UInt8).length = 1 := rfl
            exact ⟨j1, k + 2 + 1 + k' + 1, by omega, (Pr.list g3 (i4 hi) i1).le (by omega)⟩
          · rw [if_neg t9] at h; cases h
      · rw [if_neg t8] at h; cases h
    · rw [if_neg t7] at h
      injection h with h; injection h with h1 h2
      subst h1 h2
      exact ⟨g1, k, g2, g3.low (by omega)⟩
theorem no_cl {held : Toks → Res} (hU : CL d 4 held) : ∀ f, CL d 3 (gNo held f)
  | 0 => fun l c m hw h => by
    obtain ⟨g1, k, g2, g3⟩ := hU l c m hw h
    exact ⟨g1, k, g2, g3.low (by omega)⟩
  | f + 1 => fun l c m hw h => by
    unfold gNo at h
    by_cases ht : isT l notL = true
    · rw [if_pos ht] at h
      obtain ⟨k1, k2⟩ := took ht hw
      cases hu : gNo held f l.tail with
      | error e => rw [hu] at h; cases h
      | ok q =>
        obtain ⟨b, m1⟩ := q
        rw [hu] at h
        injection h with h; injection h with h1 h2
        subst h1 h2
        obtain ⟨g1, k, g2, g3⟩ := no_cl hU f _ b m1 k1 hu
        have e : notL.length = 3 := rfl
        exact ⟨g1, k + 3, by omega, g3.not.le (by omega)⟩
    · rw [if_neg ht] at h
      obtain ⟨g1, k, g2, g3⟩ := hU l c m hw h
      exact ⟨g1, k, g2, g3.low (by omega)⟩
theorem rowL_cl {one : Toks → Res} {j : Nat} {k : Int} {w : List UInt8} (hkj : (k = 7 ∧ j = 3 ∧ w = andL) ∨ (k = 8 ∧ j = 2 ∧ w = orL)) (hU : CL d j one) :
    ∀ (f n : Nat) (acc : List CT) (l : Toks) (c : CT) (m : Toks), WF l → acc ≠ [] → (∀ p ∈ acc, p.kind ≠ k) → PrL d j (spc (wd w)) n acc → (isT l w = true ∨ 2 ≤ acc.length) → rowL one w k (f + 1) acc l = .ok (c, m) → WF m ∧ ∃ q, q + W m = W l ∧ Pr d (j - 1) (n + 3 * q) c := by
  have fin : ∀ {n : Nat} {acc : List CT}, PrL d j (spc (wd w)) n acc → 2 ≤ acc.length → (∀ p ∈ acc, p.kind ≠ k) → Pr d (j - 1) n (.node k 0 [] acc) := by
    intro n acc h1 h2 h3
    rcases hkj with ⟨rfl, rfl, rfl⟩ | ⟨rfl, rfl, rfl⟩
    · exact Pr.row7 h1 h2 h3
    · exact Pr.row8 h1 h2 h3
  have hsep : (textP (spc (wd w))).length ≤ 3 * w.length := by
    rcases hkj with ⟨rfl, rfl, rfl⟩ | ⟨rfl, rfl, rfl⟩ <;> decide
  intro f
  induction f with
  | zero =>
    intro n acc l c m hw hne hk hp h2 h
    unfold rowL at h
    by_cases ht : isT l w = true
    · rw [if_pos ht] at h
      obtain ⟨k1, k2⟩ := took ht hw
      cases hu : one l.tail with
      | error e => rw [hu] at h; cases h
      | ok q =>
        obtain ⟨b, m1⟩ := q
        rw [hu] at h
        injection h with h; injection h with h1 h2
        subst h1 h2
        obtain ⟨g1, q, g2, g3⟩ := hU _ b m1 k1 hu
        obtain ⟨f1, f2, f3⟩ := PrL.flat hkj g3
        have hl1 : 0 < acc.length := List.length_pos_iff.2 hne
        have hl2 : 0 < (flatC k b).length := List.length_pos_iff.2 f2
        refine ⟨g1, q + w.length, by omega, (fin (hp.app f1 hne f2) (by rw [List.length_append]; omega) ?_).le (by omega)⟩
        intro p hp
        rcases List.mem_append.1 hp with hp | hp
        · exact hk p hp
        · exact f3 p hp
    · rw [if_neg ht] at h
      injection h with h; injection h with h3 h4
      subst h3 h4
      exact ⟨hw, 0, by omega, fin hp (h2.resolve_left ht) hk⟩
  | succ f ih =>
    intro n acc l c m hw hne hk hp h2 h
    unfold rowL at h
    by_cases ht : isT l w = true
    · rw [if_pos ht] at h
      obtain ⟨k1, k2⟩ := took ht hw
      cases hu : one l.tail with
      | error e => rw [hu] at h; cases h
      | ok q =>
        obtain ⟨b, m1⟩ := q
        rw [hu] at h
        obtain ⟨g1, q, g2, g3⟩ := hU _ b m1 k1 hu
        obtain ⟨f1, f2, f3⟩ := PrL.flat hkj g3
        have hl1 : 0 < acc.length := List.length_pos_iff.2 hne
        have hl2 : 0 < (flatC k b).length := List.length_pos_iff.2 f2
        obtain ⟨i1, q', i2, i3⟩ := ih _ (acc ++ flatC k b) m1 c m g1 (by simp [hne]) (fun p hp => by
          rcases List.mem_append.1 hp with hp | hp
          · exact hk p hp
          · exact f3 p hp) (hp.app f1 hne f2) (.inr (by rw [List.length_append]; omega)) h
        exact ⟨i1, q + w.length + q', by omega, i3.le (by omega)⟩
    · rw [if_neg ht] at h
      injection h with h; injection h with h3 h4
      subst h3 h4
      exact ⟨hw, 0, by omega, fin hp (h2.resolve_left ht) hk⟩
theorem row_cl {one : Toks → Res} {j : Nat} {k : Int} {w : List UInt8} (hkj : (k = 7 ∧ j = 3 ∧ w = andL) ∨ (k = 8 ∧ j = 2 ∧ w = orL)) (hU : CL d j one) : CL d (j - 1) (gRow one w k) := by
  intro l c m hw h
  unfold gRow at h
  cases hu : one l with
  | error e => rw [hu] at h; cases h
  | ok q =>
    obtain ⟨b, m1⟩ := q
    rw [hu] at h
    simp only at h
    obtain ⟨g1, q, g2, g3⟩ := hU l b m1 hw hu
    by_cases hW : isW m1 w = true
    · rw [if_pos hW] at h
      obtain ⟨f1, f2, f3⟩ := PrL.flat hkj g3
      obtain ⟨i1, q', i2, i3⟩ := rowL_cl hkj hU _ _ _ m1 c m g1 f2 f3 f1 (.inl (isW_T hW)) h
      exact ⟨i1, q + q', by omega, i3.le (by omega)⟩
    · rw [if_neg hW] at h
      injection h with h; injection h with h1 h2
      subst h1 h2
      exact ⟨g1, q, g2, g3.low (by omega)⟩
theorem condOf_cl {unit : Toks → Res} (hU : CL d 7 unit) : CL d 1 (gCondOf unit) := by
  have h4 := held_cl (sum_cl (times_cl hU))
  have h3 : CL d 3 (fun l => gNo (gHeld (gSum (gTimes unit))) l.length l) := fun l c m hw h => no_cl h4 l.length l c m hw h
  exact row_cl (.inr ⟨rfl, rfl, rfl⟩) (row_cl (.inl ⟨rfl, rfl, rfl⟩) h3)
end
theorem unitD_cl : ∀ d, CL d 7 (gUnitD d)
  | 0 => unit_cl 0 none fun _ h => by cases h
  | d + 1 => unit_cl (d + 1) (some (gCondOf (gUnitD d))) fun G h => ⟨d, rfl, by
      obtain rfl := Option.some.inj h
      exact condOf_cl (unitD_cl d)⟩
theorem cond_cl (d : Nat) : CL d 1 (gCond d) := condOf_cl (unitD_cl d)
/-- the tokens of a text -/
theorem span_le (p : UInt8 → Bool) : ∀ t : List UInt8, spanN p t ≤ t.length := fun t => by
  unfold spanN; exact (List.takeWhile_prefix p).length_le
theorem take_span (p : UInt8 → Bool) (t : List UInt8) : t.take (spanN p t) = t.takeWhile p := by
  unfold spanN
  exact (List.prefix_iff_eq_take.1 (List.takeWhile_prefix p)).symm
theorem all_span (p : UInt8 → Bool) (t : List UInt8) : (t.take (spanN p t)).all p = true := by
  rw [take_span]; exact List.all_takeWhile
/-- a token takes no more than there is, and no less than it weighs -/
theorem tokH_facts (t : List UInt8) : (tokH t).2.2 ≤ t.length ∧ (if (tokH t).1 = 5 then (tokH t).2.1.length + 2 else (tokH t).2.1.length) ≤ (tokH t).2.2 ∧ ((tokH t).1 = 4 → (tokH t).2.1 ≠ [] ∧ (tokH t).2.1.all isDig = true) ∧ ((tokH t).1 = 5 → (tokH t).2.1.all isQuo = true) ∧ (2 ≤ (tokH t).1 → 1 ≤ (tokH t).2.2) := by
  cases t with
  | nil => refine ⟨?_, ?_, ?_, ?_, ?_⟩ <;> decide
  | cons c r =>
    unfold tokH
    simp only
    by_cases h1 : isDig c = true
    · rw [if_pos h1]
      have hs : 1 ≤ spanN isDig (c :: r) := by unfold spanN; rw [List.takeWhile_cons, h1]; simp
      refine ⟨span_le _ _, ?_, fun _ => ⟨?_, all_span _ _⟩, fun e => (by cases e), fun _ => hs⟩
      · exact List.length_take_le _ _
      · intro e
        have := congrArg List.length e
        rw [List.length_take] at this
        simp at this
        omega
    rw [if_neg h1]
    by_cases h2 : isLet c = true
    · rw [if_pos h2]
      have hs : 1 ≤ spanN isWrd (c :: r) := by unfold spanN; rw [List.takeWhile_cons, show isWrd c = true by simp [isWrd, h2]]; simp
      refine ⟨span_le _ _, ?_, fun e => (by cases e), fun e => (by cases e), fun _ => hs⟩
      exact List.length_take_le _ _
    rw [if_neg h2]
    by_cases h3 : (c == 39) = true
    · rw [if_pos h3]
      by_cases h4 : r[spanN isQuo r]? = some 39
      · rw [if_pos h4]
        have hl : spanN isQuo r < r.length := (List.getElem?_eq_some_iff.1 h4).1
        refine ⟨by simp; omega, ?_, fun e => (by cases e), fun _ => all_span _ _, fun _ => by simp⟩
        exact Nat.add_le_add_right (List.length_take_le _ _) 2
      · rw [if_neg h4]
        refine ⟨by simp, by simp, fun e => (by cases e), fun e => (by cases e), fun _ => by simp⟩
    rw [if_neg h3]
    by_cases h5 : two (c :: r) = true
    · rw [if_pos h5]
      have hl : 2 ≤ (c :: r).length := by
        cases r with
        | nil => simp [two] at h5
        | cons b r => simp
      refine ⟨hl, ?_, fun e => (by cases e), fun e => (by cases e), fun _ => by simp⟩
      exact List.length_take_le _ _
    rw [if_neg h5]
    by_cases h6 : marks1.contains c = true
    · rw [if_pos h6]
      refine ⟨by simp, by simp, fun e => (by cases e), fun e => (by cases e), fun _ => by simp⟩
    · rw [if_neg h6]
      refine ⟨by simp, by simp, fun e => (by cases e), fun e => (by cases e), fun _ => by simp⟩
theorem tokN_le (t : List UInt8) : tokN t ≤ t.length := by
  unfold tokN
  have h1 := (tokH_facts (t.drop (blankN t))).1
  have h2 : blankN t ≤ t.length := span_le _ _
  rw [List.length_drop] at h1
  omega
theorem wt_tok (p : Nat) (t : List UInt8) : wt (tokAt p t) ≤ tokN t := by
  have h := (tokH_facts (t.drop (blankN t))).2.1
  unfold tokN
  by_cases h5 : (tokH (t.drop (blankN t))).1 = 5
  · rw [wt_quo (show (tokAt p t).sort = 5 from h5)]
    rw [if_pos h5] at h
    show (tokH (t.drop (blankN t))).2.1.length + 2 ≤ _
    omega
  · rw [wt_text (show (tokAt p t).sort ≠ 5 from h5)]
    rw [if_neg h5] at h
    show (tokH (t.drop (blankN t))).2.1.length ≤ _
    omega
theorem dig_next {p : Nat} {t : List UInt8} (h : digAt t = true) : (tokAt p t).sort = 4 := by
  cases t with
  | nil => cases h
  | cons c r =>
    have hc : isDig c = true := h
    have h32 : (c == 32) = false := by
      cases he : c == 32
      · rfl
      · rw [beq_iff_eq] at he; subst he; exact absurd hc (by decide)
    have hb : blankN (c :: r) = 0 := by
      unfold blankN spanN; rw [List.takeWhile_cons, h32]; rfl
    show (tokH ((c :: r).drop (blankN (c :: r)))).1 = 4
    rw [hb]
    show (tokH (c :: r)).1 = 4
    unfold tokH
    simp only
    rw [if_pos hc]
theorem lexF_facts : ∀ f p (t : List UInt8), t.length < f → WF (lexF f p t) ∧ W (lexF f p t) ≤ t.length
  | 0, _, _, h => by omega
  | f + 1, p, t, h => by
    have hN := tokN_le t
    have hF := tokH_facts (t.drop (blankN t))
    have hwt := wt_tok p t
    show WF (tokAt p t :: if (tokAt p t).sort ≤ 1 then [] else lexF f (p + tokN t) (t.drop (tokN t))) ∧ W (tokAt p t :: if (tokAt p t).sort ≤ 1 then [] else lexF f (p + tokN t) (t.drop (tokN t))) ≤ _
    by_cases h1 : (tokAt p t).sort ≤ 1
    · rw [if_pos h1]
      refine ⟨⟨⟨hF.2.2.1, hF.2.2.2.1⟩, fun hd => ?_, trivial⟩, ?_⟩
      · exfalso
        have : ((tokAt p t).sort == 2 && ((tokH (t.drop (blankN t))).2.1 == minusL) && digAt ((t.drop (blankN t)).drop (tokH (t.drop (blankN t))).2.2)) = true := hd
        simp only [Bool.and_eq_true, beq_iff_eq] at this
        omega
      · show wt (tokAt p t) + 0 ≤ _
        omega
    · rw [if_neg h1]
      have hpos : 1 ≤ tokN t := by
        have := hF.2.2.2.2 (show 2 ≤ (tokAt p t).sort by omega)
        unfold tokN; omega
      have hlen : (t.drop (tokN t)).length < f := by rw [List.length_drop]; omega
      obtain ⟨r1, r2⟩ := lexF_facts f (p + tokN t) (t.drop (tokN t)) hlen
      refine ⟨⟨⟨hF.2.2.1, hF.2.2.2.1⟩, fun hd => ?_, r1⟩, ?_⟩
      · have : ((tokAt p t).sort == 2 && ((tokH (t.drop (blankN t))).2.1 == minusL) && digAt ((t.drop (blankN t)).drop (tokH (t.drop (blankN t))).2.2)) = true := hd
        simp only [Bool.and_eq_true] at this
        have hd2 : digAt (t.drop (tokN t)) = true := by
          unfold tokN
          rw [← List.drop_drop]; exact this.2
        obtain ⟨f, rfl⟩ : ∃ q, f = q + 1 := ⟨f - 1, by omega⟩
        exact ⟨_, _, rfl, dig_next hd2⟩
      · show wt (tokAt p t) + W _ ≤ _
        rw [List.length_drop] at r2
        omega
end Go.Proofs.YtfhdecdlkmibmaaDoor
