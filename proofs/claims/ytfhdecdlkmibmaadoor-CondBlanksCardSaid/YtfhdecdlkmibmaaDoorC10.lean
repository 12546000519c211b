/- What is written stands well: its tokens are split as they were meant, with more blanks, too. No program in sight. -/
import Derived.Test.YtfhdecdlkmibmaaDoorC9
namespace Go.Proofs.YtfhdecdlkmibmaaDoor
def safeB (o : Option UInt8) : Prop := o = none ∨ o = some 32 ∨ o = some 41 ∨ o = some 44 ∨ o = some 93
theorem safe_ne {o : Option UInt8} (h : safeB o) : o ≠ some 61 := by rcases h with rfl | rfl | rfl | rfl | rfl <;> decide
theorem safe_wrd {o : Option UInt8} (h : safeB o) : ∀ c, o = some c → isWrd c = false := by
  intro c e
  rcases h with rfl | rfl | rfl | rfl | rfl <;> first | (cases e; rfl) | cases e
theorem safe_dig {o : Option UInt8} (h : safeB o) : ∀ c, o = some c → isDig c = false := by
  intro c e
  rcases h with rfl | rfl | rfl | rfl | rfl <;> first | (cases e; rfl) | cases e
def Good (x : List Piece) : Prop := (∀ q, safeB (textP q).head? → goodP q → goodP (x ++ q)) ∧ ∃ a r, textP x = a :: r ∧ a ≠ 61
theorem textP_app (a b : List Piece) : textP (a ++ b) = textP a ++ textP b := by unfold textP; rw [List.flatMap_append]
theorem name_word {s : List UInt8} (h : isNameC s = true) : ∃ c y, s = c :: y ∧ isLet c = true ∧ y.all isWrd = true := by
  unfold isNameC at h
  simp only [Bool.and_eq_true, Bool.not_eq_true'] at h
  obtain ⟨⟨⟨h1, h2⟩, h3⟩, _⟩ := h
  unfold isName at h1
  simp only [Bool.and_eq_true, decide_eq_true_eq, List.all_eq_true] at h1
  have hc : ∀ c ∈ s, isWrd c = true := by
    intro c hc
    have n1 := h1.1.1 c hc
    have n2 : c ≠ 45 := fun e => by
      rw [e] at hc
      rw [List.contains_iff_mem.2 hc] at h3; cases h3
    simp only [nameByte, Bool.or_eq_true, Bool.and_eq_true, decide_eq_true_eq, beq_iff_eq] at n1
    simp only [isWrd, isDig, isLet, Bool.or_eq_true, Bool.and_eq_true, decide_eq_true_eq, beq_iff_eq]
    rcases n1 with ((n | n) | n) | n
    · exact .inr (.inr n)
    · exact .inl n
    · exact .inr (.inl n)
    · exact absurd n n2
  cases s with
  | nil => simp at h1
  | cons c y =>
    refine ⟨c, y, rfl, ?_, ?_⟩
    · have := hc c (by simp)
      unfold isWrd at this
      rw [show isDig c = false from h2] at this
      simpa using this
    · rw [List.all_eq_true]; exact fun d hd => hc d (List.mem_cons_of_mem _ hd)
/-- one token that ends as a word ends -/
theorem good_word {x : List UInt8} (h : ∃ c y, x = c :: y ∧ isLet c = true ∧ y.all isWrd = true) : Good [wd x] := by
  refine ⟨fun q hq hg => ⟨.inr (.inl ⟨rfl, h, rfl, safe_wrd hq⟩), hg⟩, ?_⟩
  obtain ⟨c, y, rfl, hc, _⟩ := h
  exact ⟨c, y, by simp [textP, wd, pieceT], fun e => by rw [e] at hc; exact absurd hc (by decide)⟩
theorem dig_cons (n : Nat) : ∃ c r, decL n = c :: r ∧ isDig c = true := by
  cases hd : decL n with
  | nil => exact absurd hd (dd_ne n)
  | cons c r =>
    have := dd_dig n n (Nat.le_refl _)
    rw [show Lib.decDigits n = c :: r from hd] at this
    simp only [List.all_cons, Bool.and_eq_true] at this
    exact ⟨c, r, rfl, this.1⟩
theorem good_num (n : Int) : Good (numP n) := by
  obtain ⟨c, r, hc, hd⟩ := dig_cons n.natAbs
  have h1 : Good [some (4, decL n.natAbs, false)] := by
    refine ⟨fun q hq hg => ⟨.inl ⟨rfl, dd_ne _, dd_dig _ _ (Nat.le_refl _), rfl, safe_dig hq⟩, hg⟩, c, r, ?_, fun e => ?_⟩
    · simp [textP, pieceT, hc]
    · rw [e] at hd; exact absurd hd (by decide)
  unfold numP
  split
  · refine ⟨fun q hq hg => ⟨.inr (.inr (.inr (.inr ⟨rfl, ⟨45, by decide, rfl⟩, ?_, ?_⟩))), h1.1 q hq hg⟩, 45, decL n.natAbs, ?_, by decide⟩
    · rw [show (List.append [some (4, decL n.natAbs, false)] q : List Piece) = some (4, decL n.natAbs, false) :: q from rfl, textP_cons]
      simp only [pieceT]
      rw [if_neg (by decide), hc]
      intro e
      obtain rfl := Option.some.inj e
      exact absurd hd (by decide)
    · rw [show (List.append [some (4, decL n.natAbs, false)] q : List Piece) = some (4, decL n.natAbs, false) :: q from rfl, textP_cons]
      simp only [pieceT]
      rw [if_neg (by decide), hc]
      simp [nextD, hd]
    · simp [textP, pieceT, minusL]
  · exact h1
theorem good_text {s : List UInt8} (h : s.all isQuo = true) : Good [some (5, s, false)] :=
  ⟨fun _ _ hg => ⟨.inr (.inr (.inl ⟨rfl, h, rfl⟩)), hg⟩, 39, s ++ [39], by simp [textP, pieceT], by decide⟩
/-- what may stand between parts -/
def Sep (sep : List Piece) : Prop := ∀ q, (textP q).head? ≠ some 61 → goodP q → goodP (sep ++ q) ∧ safeB (textP (sep ++ q)).head?
theorem sep_two {x : List UInt8} (h : x ∈ twosL) : Sep (spc (mk x)) := fun _ _ hg => ⟨⟨.inr (.inr (.inr (.inl ⟨rfl, h, rfl⟩))), hg⟩, .inr (.inl rfl)⟩
theorem sep_mark {c : UInt8} (h : c ∈ marks1) : Sep (spc (mk [c])) := fun _ _ hg => ⟨⟨.inr (.inr (.inr (.inr ⟨rfl, ⟨c, h, rfl⟩, by simp [textP, pieceT], by simp [textP, pieceT, nextD, isDig]⟩))), hg⟩, .inr (.inl rfl)⟩
theorem blank_wrd (q : List Piece) : ∀ c, (textP (none :: q)).head? = some c → isWrd c = false := fun c e => by
  have e2 : some (32 : UInt8) = some c := e
  cases e2; rfl
theorem sep_word {x : List UInt8} (h : ∃ c y, x = c :: y ∧ isLet c = true ∧ y.all isWrd = true) : Sep (spc (wd x)) := fun _ _ hg => ⟨⟨.inr (.inl ⟨rfl, h, rfl, blank_wrd _⟩), hg⟩, .inr (.inl rfl)⟩
theorem sep_comma : Sep [mk [44], none] := fun _ _ hg => ⟨⟨.inr (.inr (.inr (.inr ⟨rfl, ⟨44, by decide, rfl⟩, by simp [textP, pieceT], by simp [minusL]⟩))), hg⟩, .inr (.inr (.inr (.inl rfl)))⟩
theorem good_app {x sep y : List Piece} (hx : Good x) (hs : Sep sep) (hy : Good y) : Good (x ++ sep ++ y) := by
  obtain ⟨a, r, e1, e2⟩ := hx.2
  obtain ⟨b, t, e3, e4⟩ := hy.2
  refine ⟨fun q hq hg => ?_, a, r ++ textP sep ++ textP y, by rw [textP_app, textP_app, e1]; rfl, e2⟩
  have h1 := hy.1 q hq hg
  have h2 := hs (y ++ q) (by rw [textP_app, e3]; intro e; exact e4 (Option.some.inj e)) h1
  rw [List.append_assoc, List.append_assoc]
  exact hx.1 (sep ++ (y ++ q)) h2.2 h2.1
/-- a mark ahead, a mark behind -/
theorem good_ahead {c : UInt8} (h : c ∈ marks1) (hc : c ≠ 61 ∧ c ≠ 45) {x : List Piece} (hx : Good x) : Good (mk [c] :: x) := by
  obtain ⟨a, r, e1, e2⟩ := hx.2
  refine ⟨fun q hq hg => ⟨.inr (.inr (.inr (.inr ⟨rfl, ⟨c, h, rfl⟩, ?_, by simp [minusL, hc.2]⟩))), hx.1 q hq hg⟩, c, textP x, by simp [textP, mk, pieceT], hc.1⟩
  show (textP (x ++ q)).head? ≠ _
  rw [textP_app, e1]
  intro e
  exact e2 (Option.some.inj e)
theorem good_behind {c : UInt8} (h : c = 41 ∨ c = 93) {x : List Piece} (hx : Good x) : Good (x ++ [mk [c]]) := by
  obtain ⟨a, r, e1, e2⟩ := hx.2
  refine ⟨fun q hq hg => ?_, a, r ++ textP [mk [c]], by rw [textP_app, e1]; rfl, e2⟩
  rw [List.append_assoc]
  refine hx.1 _ ?_ ⟨.inr (.inr (.inr (.inr ⟨rfl, ⟨c, ?_, rfl⟩, safe_ne hq, ?_⟩))), hg⟩
  · rcases h with rfl | rfl
    · exact .inr (.inr (.inl rfl))
    · exact .inr (.inr (.inr (.inr rfl)))
  · rcases h with rfl | rfl <;> decide
  · rcases h with rfl | rfl <;> simp [minusL]
theorem in_inv {cond : Wr} {d : Nat} {n : Int} {s : List UInt8} {a b : CT} {ps : List CT} {x : List Piece} (h : stepW cond d (.node 15 n s (a :: b :: ps)) = some x) (hr : rightC (.node 15 n s (a :: b :: ps)) = true) : ∃ xa y, partW cond d 5 a = some xa ∧ partsW cond d 5 [mk [44], none] (b :: ps) = some y ∧ x = xa ++ [none, wd inL, none, mk [91]] ++ y ++ [mk [93]] := by
  have h2 : (match partW cond d 5 a with | none => none | some x => (partsW cond d 5 [mk [44], none] (b :: ps)).map fun y => x ++ [none, wd inL, none, mk [91]] ++ y ++ [mk [93]]) = some x := by
    rw [← h]; unfold stepW; simp [hr, unlikeC, CT.kind, CT.parts]
    cases partW cond d 5 a <;> rfl
  cases ha : partW cond d 5 a with
  | none => rw [ha] at h2; cases h2
  | some xa =>
    rw [ha] at h2
    obtain ⟨y, hy, rfl⟩ := Option.map_eq_some_iff.1 h2
    exact ⟨xa, y, rfl, hy, rfl⟩
section
variable {cond : Wr} (hC : ∀ d c x, cond d c = some x → Good x)
include hC
theorem good_part {d least : Nat} {c : CT} {x : List Piece} (h : partW cond d least c = some x) : Good x := by
  unfold partW at h
  split at h
  · exact hC d c x h
  · cases d with
    | zero => cases h
    | succ d =>
      obtain ⟨y, hy, rfl⟩ := Option.map_eq_some_iff.1 h
      exact good_behind (.inl rfl) (good_ahead (by decide) (by decide) (hC d c y hy))
theorem good_parts {d least : Nat} {sep : List Piece} (hs : Sep sep) : ∀ (ps : List CT) (x : List Piece), ps ≠ [] → partsW cond d least sep ps = some x → Good x
  | [], _, h, _ => absurd rfl h
  | [c], x, _, h => good_part hC h
  | c :: c2 :: ps, x, _, h => by
    obtain ⟨xc, y, hc, hy, rfl⟩ := parts_cons h
    exact good_app (good_part hC hc) hs (good_parts hs (c2 :: ps) y (by simp) hy)
theorem good_step {d : Nat} {c : CT} {x : List Piece} (h : stepW cond d c = some x) : Good x := by
  have hr := right_of h
  have word_not : ∃ c y, notL = c :: y ∧ isLet c = true ∧ y.all isWrd = true := ⟨110, [111, 116], rfl, rfl, rfl⟩
  have word_or : ∃ c y, orL = c :: y ∧ isLet c = true ∧ y.all isWrd = true := ⟨111, [114], rfl, rfl, rfl⟩
  have word_and : ∃ c y, andL = c :: y ∧ isLet c = true ∧ y.all isWrd = true := ⟨97, [110, 100], rfl, rfl, rfl⟩
  have word_in : ∃ c y, inL = c :: y ∧ isLet c = true ∧ y.all isWrd = true := ⟨105, [110], rfl, rfl, rfl⟩
  have two_good : ∀ {l1 l2 s ps x}, Sep (spc s) → twoW cond d l1 l2 (spc s) ps = some x → Good x := by
    intro l1 l2 s ps x hs h
    obtain ⟨a, b, xa, xb, rfl, ha, hb, rfl⟩ := two_inv h
    exact good_app (good_part hC ha) hs (good_part hC hb)
  obtain ⟨k, n, s, ps⟩ := c
  have hk : 1 ≤ k ∧ k ≤ 15 := by
    by_cases hh : 1 ≤ k ∧ k ≤ 15
    · exact hh
    · exact absurd hr (right_none k n s ps hh)
  have two_ne : ∀ {k n : Int} {s : List UInt8} {ps : List CT}, rightC (.node k n s ps) = true → 9 ≤ k ∧ k ≤ 14 → ps ≠ [] := fun hr hk e => by
    have := (right_two hr hk).2.2
    rw [e] at this; cases this
  by_cases h5 : k ≤ 5
  · obtain rfl := right_leaf hr (by omega)
    obtain ⟨_, i1, i2, i3, i4, i5⟩ := step_leaf h
    have : k = 1 ∨ k = 2 ∨ k = 3 ∨ k = 4 ∨ k = 5 := by omega
    rcases this with rfl | rfl | rfl | rfl | rfl
    · rw [i1 rfl]; exact good_word ⟨116, [114, 117, 101], rfl, rfl, rfl⟩
    · rw [i2 rfl]; exact good_word ⟨102, [97, 108, 115, 101], rfl, rfl, rfl⟩
    · rw [i3 rfl]; exact good_num _
    · rw [i4 rfl]
      have this : (n == 0 && s.all isQuo) = true := hr
      simp only [Bool.and_eq_true] at this
      exact good_text this.2
    · rw [i5 rfl]
      have this : (n == 0 && isNameC s) = true := hr
      simp only [Bool.and_eq_true] at this
      exact good_word (name_word this.2)
  have : k = 6 ∨ k = 7 ∨ k = 8 ∨ k = 9 ∨ k = 10 ∨ k = 11 ∨ k = 12 ∨ k = 13 ∨ k = 14 ∨ k = 15 := by omega
  rcases this with rfl | rfl | rfl | rfl | rfl | rfl | rfl | rfl | rfl | rfl
  · by_cases hu : unlikeC (.node 6 n s ps) = true
    · have h2 : partsW cond d 5 (spc (mk [33, 61])) ((ps.headD (leaf 0 0 [])).parts) = some x := by
        rw [← h]; unfold stepW; rw [if_neg (by rw [hr]; decide), if_pos hu]; rfl
      match ps, h2, hu with
      | [.node k2 n2 s2 ps2], h2, hu =>
        have this : (((6 : Int) == 6) && (k2 == 9 && decide (ps2.length = 2) && (n2 == 0 && s2.isEmpty))) = true := hu
        simp only [Bool.and_eq_true, decide_eq_true_eq] at this
        refine good_parts hC (sep_two (by decide)) ps2 x (fun e => ?_) h2
        have t := this.2.1.2
        rw [e] at t; cases t
      | [], _, hu => cases hu
      | _ :: _ :: _, _, hu => cases hu
    · have h2 : (partW cond d 3 (ps.headD (leaf 0 0 []))).map (fun x => wd notL :: none :: x) = some x := by
        rw [← h]; unfold stepW; rw [if_neg (by rw [hr]; decide), if_neg hu]; simp [CT.kind, CT.parts]
      obtain ⟨y, hy, rfl⟩ := Option.map_eq_some_iff.1 h2
      obtain ⟨g1, a, r, e1, e2⟩ := good_part hC hy
      exact ⟨fun q hq hg => ⟨.inr (.inl ⟨rfl, word_not, rfl, blank_wrd _⟩), g1 q hq hg⟩, 110, [111, 116, 32] ++ textP y, by simp [textP, pieceT, wd, notL], by decide⟩
  · have hl := (right_row hr (.inl rfl)).2.2.1
    have h2 : partsW cond d 3 (spc (wd andL)) ps = some x := by
      rw [← h]; unfold stepW; simp [hr, unlikeC, CT.kind, CT.parts]
    exact good_parts hC (sep_word word_and) ps x (fun e => by rw [e] at hl; simp at hl) h2
  · have hl := (right_row hr (.inr rfl)).2.2.1
    have h2 : partsW cond d 2 (spc (wd orL)) ps = some x := by
      rw [← h]; unfold stepW; simp [hr, unlikeC, CT.kind, CT.parts]
    exact good_parts hC (sep_word word_or) ps x (fun e => by rw [e] at hl; simp at hl) h2
  · have h2 : partsW cond d 5 (spc (mk [61])) ps = some x := by
      rw [← h]; unfold stepW; simp [hr, unlikeC, CT.kind, CT.parts]
    exact good_parts hC (sep_mark (by decide)) ps x (two_ne hr (by decide)) h2
  · have h2 : partsW cond d 5 (spc (mk [60])) ps = some x := by
      rw [← h]; unfold stepW; simp [hr, unlikeC, CT.kind, CT.parts]
    exact good_parts hC (sep_mark (by decide)) ps x (two_ne hr (by decide)) h2
  · have h2 : partsW cond d 5 (spc (mk [60, 61])) ps = some x := by
      rw [← h]; unfold stepW; simp [hr, unlikeC, CT.kind, CT.parts]
    exact good_parts hC (sep_two (by decide)) ps x (two_ne hr (by decide)) h2
  · have h2 : twoW cond d 5 6 (spc (mk [43])) ps = some x := by
      rw [← h]; unfold stepW; simp [hr, unlikeC, CT.kind, CT.parts]
    exact two_good (sep_mark (by decide)) h2
  · have h2 : twoW cond d 5 6 (spc (mk minusL)) ps = some x := by
      rw [← h]; unfold stepW; simp [hr, unlikeC, CT.kind, CT.parts]
    exact two_good (sep_mark (by decide)) h2
  · have h2 : twoW cond d 6 7 (spc (mk [42])) ps = some x := by
      rw [← h]; unfold stepW; simp [hr, unlikeC, CT.kind, CT.parts]
    exact two_good (sep_mark (by decide)) h2
  · have hl := (right_list hr).2.2
    match ps, hl, h, hr with
    | a :: b :: ps, _, h, hr =>
      obtain ⟨xa, y, ha, hy, rfl⟩ := in_inv h hr
      have gy := good_behind (.inr rfl) (good_parts hC sep_comma (b :: ps) y (by simp) hy)
      have g2 := good_app (good_part hC ha) (sep_word word_in) (good_ahead (c := 91) (by decide) (by decide) gy)
      have e : xa ++ [none, wd inL, none, mk [91]] ++ y ++ [mk [93]] = xa ++ spc (wd inL) ++ (mk [91] :: (y ++ [mk [93]])) := by simp [spc]
      rw [e]; exact g2
end
theorem good_cond : ∀ f d c x, condW f d c = some x → Good x
  | 0, _, _, _, h => by cases h
  | f + 1, _, _, _, h => good_step (good_cond f) h
theorem good_print {c : CT} {x : List Piece} (h : printP c = some x) : goodP x := by
  have := (good_part (good_cond c.size) h).1 [] (.inl rfl) trivial
  rwa [List.append_nil] at this
/-- more blanks -/
def wide (n : Nat) : List Piece → List Piece
  | [] => []
  | none :: r => none :: (List.replicate n none ++ wide n r)
  | some a :: r => some a :: wide n r
theorem wide_head (n : Nat) : ∀ l : List Piece, (textP (wide n l)).head? = (textP l).head?
  | [] => rfl
  | none :: r => rfl
  | some a :: r => by
    show (pieceT (some a) ++ textP (wide n r)).head? = (pieceT (some a) ++ textP r).head?
    cases h : pieceT (some a) with
    | nil => exact wide_head n r
    | cons b t => rfl
theorem good_blanks (n : Nat) (q : List Piece) (h : goodP q) : goodP (List.replicate n none ++ q) := by
  induction n with
  | zero => exact h
  | succ n ih => rw [List.replicate_succ]; exact ih
theorem wide_good (n : Nat) : ∀ l : List Piece, goodP l → goodP (wide n l)
  | [], _ => trivial
  | none :: r, h => good_blanks n _ (wide_good n r h)
  | some (k, x, b) :: r, h => ⟨by rw [wide_head]; exact h.1, wide_good n r h.2⟩
theorem keys_blanks (n : Nat) (q : List Piece) : keysP (List.replicate n none ++ q) = keysP q := by
  induction n with
  | zero => rfl
  | succ n ih => rw [List.replicate_succ]; exact ih
theorem wide_keys (n : Nat) : ∀ l : List Piece, keysP (wide n l) = keysP l
  | [] => rfl
  | none :: r => by
    show keysP (List.replicate n none ++ wide n r) = keysP r
    rw [keys_blanks, wide_keys n r]
  | some a :: r => by
    show a :: keysP (wide n r) = a :: keysP r
    rw [wide_keys n r]
end Go.Proofs.YtfhdecdlkmibmaaDoor
