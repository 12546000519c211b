/- What is parsed can be written, with no more brackets, at most three times as long. No program in sight. -/
import Derived.Test.YtfhdecdlkmibmaaDoorC12
namespace Go.Proofs.YtfhdecdlkmibmaaDoor
def wt (t : Tok) : Nat := (pieceT (some t.key)).length
def W : Toks → Nat
  | [] => 0
  | t :: r => wt t + W r
def tokWF (t : Tok) : Prop := (t.sort = 4 → t.text ≠ [] ∧ t.text.all isDig = true) ∧ (t.sort = 5 → t.text.all isQuo = true)
def WF : Toks → Prop
  | [] => True
  | t :: r => tokWF t ∧ (t.dig = true → ∃ t2 r2, r = t2 :: r2 ∧ t2.sort = 4) ∧ WF r
def CL (d j : Nat) (G : Toks → Res) : Prop := ∀ l c m, WF l → G l = .ok (c, m) → WF m ∧ ∃ k, k + W m = W l ∧ Pr d j (3 * k) c
theorem wt_text {t : Tok} (h : t.sort ≠ 5) : wt t = t.text.length := by
  show (if t.sort = 5 then 39 :: t.text ++ [39] else t.text).length = _
  rw [if_neg h]
theorem wt_quo {t : Tok} (h : t.sort = 5) : wt t = t.text.length + 2 := by
  show (if t.sort = 5 then 39 :: t.text ++ [39] else t.text).length = _
  rw [if_pos h]; simp
theorem took {l : Toks} {s : List UInt8} (h : isT l s = true) (hw : WF l) : WF l.tail ∧ W l = s.length + W l.tail := by
  obtain ⟨t, r, rfl, h1, h2⟩ := isT_text h
  refine ⟨hw.2.2, ?_⟩
  show wt t + W r = _
  rw [wt_text (by rcases h1 with h1 | h1 <;> rw [h1] <;> decide), h2]; rfl
theorem leaf_pr {d n : Nat} {c : CT} {x : List Piece} (h7 : rankC c = 7) (h : ∀ cond, stepW cond d c = some x) (hn : (textP x).length ≤ n) : Pr d 7 n c := Pr.mk' (by omega) (fun f _ => h (condW f)) hn
theorem leaf_step {cond : Wr} {d : Nat} {k n : Int} {s : List UInt8} {x : List Piece} (hr : rightC (.node k n s []) = true) (h : (k = 1 ∧ x = [wd trueL]) ∨ (k = 2 ∧ x = [wd falseL]) ∨ (k = 3 ∧ x = numP n) ∨ (k = 4 ∧ x = [some (5, s, false)]) ∨ (k = 5 ∧ x = [wd s])) : stepW cond d (.node k n s []) = some x := by
  rcases h with ⟨rfl, rfl⟩ | ⟨rfl, rfl⟩ | ⟨rfl, rfl⟩ | ⟨rfl, rfl⟩ | ⟨rfl, rfl⟩ <;>
  · unfold stepW; simp [hr, unlikeC, CT.kind, CT.parts, CT.num, CT.str]
theorem num_inv {t : List UInt8} {least n : Nat} (h : numG t least = some n) : least ≤ n ∧ n ≤ mostN ∧ n = decVal t := by
  unfold numG at h
  split at h
  · rename_i hh
    obtain rfl := Option.some.inj h
    exact ⟨hh.1, hh.2.1, rfl⟩
  · cases h
theorem right_num {n : Int} (h1 : -1000000000000000 ≤ n) (h2 : n ≤ 1000000000000000) : rightC (.node 3 n [] []) = true := by
  show (([] : List CT).isEmpty && ([] : List UInt8).isEmpty && decide (-1000000000000000 ≤ n) && decide (n ≤ 1000000000000000)) = true
  rw [decide_eq_true h1, decide_eq_true h2]; rfl
theorem numP_len (n : Nat) : (textP (numP (n : Int))).length = (decL n).length := by
  unfold numP
  rw [if_neg (by omega)]
  simp [textP, pieceT]
theorem numP_neg {n : Nat} (h : 1 ≤ n) : (textP (numP (-(n : Int)))).length = 1 + (decL n).length := by
  unfold numP
  rw [if_pos (by omega)]
  simp [textP, pieceT, minusL]; omega
/-- a unit -/
theorem unit_cl (d : Nat) (sub : Option (Toks → Res)) (hs : ∀ G, sub = some G → ∃ d', d = d' + 1 ∧ CL d' 1 G) : CL d 7 (gUnit sub) := by
  intro l c m hw h
  cases l with
  | nil => cases h
  | cons t r =>
    obtain ⟨ht, hd, hr⟩ := hw
    have hw : WF (t :: r) := ⟨ht, hd, hr⟩
    unfold gUnit at h
    simp only at h
    by_cases h4 : t.sort = 4
    · rw [if_pos h4] at h
      cases hn : numG t.text 0 with
      | none => rw [hn] at h; cases h
      | some n =>
        rw [hn] at h
        injection h with h; injection h with h1 h2
        subst h1 h2
        obtain ⟨_, n2, n3⟩ := num_inv hn
        refine ⟨hr, wt t, rfl, leaf_pr rfl (fun cond => leaf_step (right_num (by unfold mostN at n2; omega) (by unfold mostN at n2; omega)) (.inr (.inr (.inl ⟨rfl, rfl⟩)))) ?_⟩
        have := dd_short (ht.1 h4).2 (ht.1 h4).1
        rw [← n3] at this
        rw [numP_len, wt_text (by omega)]
        unfold decL; omega
    rw [if_neg h4] at h
    by_cases h5 : t.sort = 5
    · rw [if_pos h5] at h
      injection h with h; injection h with h1 h2
      subst h1 h2
      have hrt : rightC (.node 4 0 t.text []) = true := by
        show (([] : List CT).isEmpty && (0 : Int) == 0 && t.text.all isQuo) = true
        rw [ht.2 h5]; rfl
      refine ⟨hr, wt t, rfl, leaf_pr rfl (fun cond => leaf_step hrt (.inr (.inr (.inr (.inl ⟨rfl, rfl⟩))))) ?_⟩
      rw [wt_quo h5]
      simp [textP, pieceT]; omega
    rw [if_neg h5] at h
    by_cases hm : t.sort = 2 ∧ t.text = minusL ∧ t.dig = true
    · rw [if_pos hm] at h
      obtain ⟨t2, r2, rfl, h24⟩ := hd hm.2.2
      simp only [List.headD_cons, List.tail_cons] at h
      cases hn : numG t2.text 1 with
      | none => rw [hn] at h; cases h
      | some n =>
        rw [hn] at h
        injection h with h; injection h with h1 h2
        subst h1 h2
        obtain ⟨n1, n2, n3⟩ := num_inv hn
        refine ⟨hr.2.2, wt t + wt t2, (by show _ = wt t + (wt t2 + W r2); omega), leaf_pr rfl (fun cond => leaf_step (right_num (by unfold mostN at n2; omega) (by unfold mostN at n2; omega)) (.inr (.inr (.inl ⟨rfl, rfl⟩)))) ?_⟩
        have := dd_short (hr.1.1 h24).2 (hr.1.1 h24).1
        rw [← n3] at this
        rw [numP_neg n1, wt_text (by omega), wt_text (by omega), hm.2.1]
        unfold decL
        have e : minusL.length = 1 := rfl
        omega
    rw [if_neg hm] at h
    by_cases hT : isT (t :: r) trueL = true
    · rw [if_pos hT] at h
      injection h with h; injection h with h1 h2
      subst h1 h2
      obtain ⟨k1, k2⟩ := took hT hw
      refine ⟨hr, 4, k2.symm, leaf_pr rfl (fun cond => leaf_step rfl (.inl ⟨rfl, rfl⟩)) (by decide)⟩
    rw [if_neg hT] at h
    by_cases hF : isT (t :: r) falseL = true
    · rw [if_pos hF] at h
      injection h with h; injection h with h1 h2
      subst h1 h2
      obtain ⟨k1, k2⟩ := took hF hw
      refine ⟨hr, 5, k2.symm, leaf_pr rfl (fun cond => leaf_step rfl (.inr (.inl ⟨rfl, rfl⟩))) (by decide)⟩
    rw [if_neg hF] at h
    by_cases hN : t.sort = 3 ∧ isNameC t.text = true
    · rw [if_pos hN] at h
      injection h with h; injection h with h1 h2
      subst h1 h2
      have hrt : rightC (.node 5 0 t.text []) = true := by
        show (([] : List CT).isEmpty && (0 : Int) == 0 && isNameC t.text) = true
        rw [hN.2]; rfl
      refine ⟨hr, wt t, rfl, leaf_pr rfl (fun cond => leaf_step hrt (.inr (.inr (.inr (.inr ⟨rfl, rfl⟩))))) ?_⟩
      rw [wt_text (by omega)]
      simp [textP, pieceT, wd]; omega
    rw [if_neg hN] at h
    cases sub with
    | none => cases h
    | some G =>
      obtain ⟨d', rfl, hG⟩ := hs G rfl
      simp only at h
      by_cases hO : isT (t :: r) openL = true
      · rw [if_pos hO] at h
        cases hg : G r with
        | error e => rw [hg] at h; cases h
        | ok q =>
          obtain ⟨c1, m1⟩ := q
          rw [hg] at h
          simp only at h
          by_cases hc : isT m1 closeL = true
          · rw [if_pos hc] at h
            injection h with h; injection h with h1 h2
            subst h1 h2
            obtain ⟨g1, k, g2, g3⟩ := hG r c1 m1 hr hg
            obtain ⟨k1, k2⟩ := took hO hw
            obtain ⟨j1, j2⟩ := took hc g1
            have e1 : openL.length = 1 := rfl
            have e2 : closeL.length = 1 := rfl
            have e3 : (t :: r).tail = r := rfl
            rw [e3] at k2
            exact ⟨j1, k + 2, by omega, (Pr.paren g3).le (by omega)⟩
          · rw [if_neg hc] at h; cases h
      · rw [if_neg hO] at h; cases h
section
variable {d : Nat}
theorem timesL_cl {unit : Toks → Res} (hU : CL d 7 unit) : ∀ (f n : Nat) (a : CT) (l : Toks) (c : CT) (m : Toks), WF l → Pr d 6 n a → timesL unit f a l = .ok (c, m) → WF m ∧ ∃ k, k + W m = W l ∧ Pr d 6 (n + 3 * k) c
  | 0, n, a, l, c, m, hw, hp, h => by
    injection h with h; injection h with h1 h2
    subst h1 h2
    exact ⟨hw, 0, by omega, hp⟩
  | f + 1, n, a, l, c, m, hw, hp, h => by
    unfold timesL at h
    by_cases ht : isT l [42] = true
    · rw [if_pos ht] at h
      obtain ⟨k1, k2⟩ := took ht hw
      cases hu : unit l.tail with
      | error e => rw [hu] at h; cases h
      | ok q =>
        obtain ⟨b, m1⟩ := q
        rw [hu] at h
        obtain ⟨g1, k, g2, g3⟩ := hU _ b m1 k1 hu
        obtain ⟨i1, k', i2, i3⟩ := timesL_cl hU f _ _ m1 c m g1 (hp.times g3) h
        have e : ([42] : List UInt8).length = 1 := rfl
        exact ⟨i1, k' + k + 1, by omega, i3.le (by omega)⟩
    · rw [if_neg ht] at h
      injection h with h; injection h with h1 h2
      subst h1 h2
      exact ⟨hw, 0, by omega, hp⟩
theorem times_cl {unit : Toks → Res} (hU : CL d 7 unit) : CL d 6 (gTimes unit) := by
  intro l c m hw h
  unfold gTimes at h
  cases hu : unit l with
  | error e => rw [hu] at h; cases h
  | ok q =>
    obtain ⟨a, m1⟩ := q
    rw [hu] at h
    obtain ⟨g1, k, g2, g3⟩ := hU l a m1 hw hu
    obtain ⟨i1, k', i2, i3⟩ := timesL_cl hU _ _ a m1 c m g1 (g3.low (by omega)) h
    exact ⟨i1, k' + k, by omega, i3.le (by omega)⟩
theorem sumL_cl {times : Toks → Res} (hU : CL d 6 times) : ∀ (f n : Nat) (a : CT) (l : Toks) (c : CT) (m : Toks), WF l → Pr d 5 n a → sumL times f a l = .ok (c, m) → WF m ∧ ∃ k, k + W m = W l ∧ Pr d 5 (n + 3 * k) c
  | 0, n, a, l, c, m, hw, hp, h => by
    injection h with h; injection h with h1 h2
    subst h1 h2
    exact ⟨hw, 0, by omega, hp⟩
  | f + 1, n, a, l, c, m, hw, hp, h => by
    unfold sumL at h
    by_cases ht : isT l [43] = true
    · rw [if_pos ht] at h
      obtain ⟨k1, k2⟩ := took ht hw
      cases hu : times l.tail with
      | error e => rw [hu] at h; cases h
      | ok q =>
        obtain ⟨b, m1⟩ := q
        rw [hu] at h
        obtain ⟨g1, k, g2, g3⟩ := hU _ b m1 k1 hu
        obtain ⟨i1, k', i2, i3⟩ := sumL_cl hU f _ _ m1 c m g1 (hp.plus g3) h
        have e : ([43] : List UInt8).length = 1 := rfl
        exact ⟨i1, k' + k + 1, by omega, i3.le (by omega)⟩
    · rw [if_neg ht] at h
      by_cases ht2 : isT l [45] = true
      · rw [if_pos ht2] at h
        obtain ⟨k1, k2⟩ := took ht2 hw
        cases hu : times l.tail with
        | error e => rw [hu] at h; cases h
        | ok q =>
          obtain ⟨b, m1⟩ := q
          rw [hu] at h
          obtain ⟨g1, k, g2, g3⟩ := hU _ b m1 k1 hu
          obtain ⟨i1, k', i2, i3⟩ := sumL_cl hU f _ _ m1 c m g1 (hp.minus g3) h
          have e : ([45] : List UInt8).length = 1 := rfl
          exact ⟨i1, k' + k + 1, by omega, i3.le (by omega)⟩
      · rw [if_neg ht2] at h
        injection h with h; injection h with h1 h2
        subst h1 h2
        exact ⟨hw, 0, by omega, hp⟩
theorem sum_cl {times : Toks → Res} (hU : CL d 6 times) : CL d 5 (gSum times) := by
  intro l c m hw h
  unfold gSum at h
  cases hu : times l with
  | error e => rw [hu] at h; cases h
  | ok q =>
    obtain ⟨a, m1⟩ := q
    rw [hu] at h
    obtain ⟨g1, k, g2, g3⟩ := hU l a m1 hw hu
    obtain ⟨i1, k', i2, i3⟩ := sumL_cl hU _ _ a m1 c m g1 (g3.low (by omega)) h
    exact ⟨i1, k' + k, by omega, i3.le (by omega)⟩
/-- the members of a list, behind those that are read -/
theorem inLp_cl {sum : Toks → Res} (hU : CL d 5 sum) : ∀ (f : Nat) (acc : List CT) (l : Toks) (ps : List CT) (m : Toks), WF l → inLp sum (f + 1) acc l = .ok (ps, m) → ∃ qs, ps = acc ++ qs ∧ qs ≠ [] ∧ WF m ∧ ∃ k, k + W m = W l ∧ (inLp sum (f + 1) acc l = .ok (ps, m) → PrL d 5 [mk [44], none] (3 * k) qs)
  | 0, acc, l, ps, m, hw, h => by
    unfold inLp at h
    cases hu : sum l with
    | error e => rw [hu] at h; cases h
    | ok q =>
      obtain ⟨b, m1⟩ := q
      rw [hu] at h
      simp only at h
      obtain ⟨g1, k, g2, g3⟩ := hU l b m1 hw hu
      by_cases ht : isT m1 [44] = true
      · rw [if_pos ht] at h
        obtain ⟨k1, k2⟩ := took ht g1
        injection h with h; injection h with h1 h2
        subst h1 h2
        have e : ([44] : List UInt8).length = 1 := rfl
        exact ⟨[b], rfl, by simp, k1, k + 1, by omega, fun _ => (PrL.one g3).le (by omega)⟩
      · rw [if_neg ht] at h
        injection h with h; injection h with h1 h2
        subst h1 h2
        exact ⟨[b], rfl, by simp, g1, k, g2, fun _ => PrL.one g3⟩
  | f + 1, acc, l, ps, m, hw, h => by
    unfold inLp at h
    cases hu : sum l with
    | error e => rw [hu] at h; cases h
    | ok q =>
      obtain ⟨b, m1⟩ := q
      rw [hu] at h
      simp only at h
      obtain ⟨g1, k, g2, g3⟩ := hU l b m1 hw hu
      by_cases ht : isT m1 [44] = true
      · rw [if_pos ht] at h
        obtain ⟨k1, k2⟩ := took ht g1
        obtain ⟨qs, rfl, i1, i2, k', i3, i4⟩ := inLp_cl hU f (acc ++ [b]) m1.tail ps m k1 h
        have e : ([44] : List UInt8).length = 1 := rfl
        have e2 : (textP [mk [44], none]).length = 2 := rfl
        exact ⟨b :: qs, by simp, by simp, i2, k + 1 + k', by omega, fun _ => (PrL.cons g3 (i4 h) i1).le (by omega)⟩
      · rw [if_neg ht] at h
        injection h with h; injection h with h1 h2
        subst h1 h2
        exact ⟨[b], rfl, by simp, g1, k, g2, fun _ => PrL.one g3⟩
end
end Go.Proofs.YtfhdecdlkmibmaaDoor
