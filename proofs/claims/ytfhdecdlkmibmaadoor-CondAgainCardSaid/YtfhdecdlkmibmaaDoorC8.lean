/- What is written is read as it is: the induction. No program in sight. -/
import Derived.Test.YtfhdecdlkmibmaaDoorC7
namespace Go.Proofs.YtfhdecdlkmibmaaDoor
section
variable {f d : Nat} {x : List Piece} {lx m : Toks}
theorem row_cond (hP : PC f) {lst : Nat} (hl1 : 1 ≤ lst) (hl7 : lst ≤ 7) {w : List UInt8} {k : Int} {ps : List CT} (h : partsW (condW f) d lst (spc (wd w)) ps = some x) (h2 : 2 ≤ ps.length) (hk : ∀ p ∈ ps, p.kind ≠ k) (hl : lx.map Tok.key = keysP x) (hw : opLv [(⟨3, w, 0, false⟩ : Tok)] < lst) (hm : opLv m < lst) (hmw : isT m w = false) : gRow (gL d lst) w k (lx ++ m) = .ok (.node k 0 [] ps, m) := by
  have hone : ∀ c x, partW (condW f) d lst c = some x → ∀ (lx m : Toks), lx.map Tok.key = keysP x → opLv m < lst → gL d lst (lx ++ m) = .ok (c, m) := fun c x h lx m hl hm => hP d lst c x h hl1 hl7 lx m hl hm
  match ps, h2, h, hk with
  | c :: c2 :: ps, _, h, hk =>
    obtain ⟨xc, y, hc, hy, rfl⟩ := parts_cons h
    · obtain ⟨lc, t2, lb, rfl, h1, h3, h4⟩ := split3 (a := (3, w, false)) hl
      have hop : opLv (t2 :: (lb ++ m)) < lst := by rw [lv_of h3 []]; exact hw
      have h5 := hone c xc hc lc (t2 :: (lb ++ m)) h1 hop
      have hk1 := hk c (by simp)
      have hW : isW (t2 :: (lb ++ m)) w = true := by
        obtain ⟨e1, e2, _⟩ := key_is h3
        simp [isW, e1, e2]
      unfold gRow
      rw [show lc ++ t2 :: lb ++ m = lc ++ t2 :: (lb ++ m) by simp, h5]
      show (if isW (t2 :: (lb ++ m)) w = true then _ else _) = _
      rw [if_pos hW, row_read hone hw hm hmw (c2 :: ps) y t2 lb (flatC k c) _ hy (by simp) (fun p hp => hk p (List.mem_cons_of_mem _ hp)) h3 h4 (by simp)]
      simp [flatC, hk1]
theorem one2 : (fun l : Toks => gNo (gHeld (gSum (gTimes (gUnitD d)))) l.length l) = gL d 3 := rfl
theorem gl2 : gL d 2 = gRow (gL d 3) andL 7 := rfl
theorem gl1 : gL d 1 = gRow (gL d 2) orL 8 := rfl
/-- a list that something stands in -/
theorem in_read (hP : PC f) {n : Int} {s : List UInt8} {ps : List CT} (h : stepW (condW f) d (.node 15 n s ps) = some x) (hl : lx.map Tok.key = keysP x) : gL d 4 (lx ++ m) = .ok (.node 15 n s ps, m) := by
  have hr := right_of h
  obtain ⟨rfl, rfl, hlen⟩ := right_list hr
  match ps, hlen, h, hr with
  | a :: b :: ps, _, h, hr =>
    unfold stepW at h
    simp only [hr, Bool.true_eq_false, if_false] at h
    simp [unlikeC, CT.kind, CT.parts] at h
    cases ha : partW (condW f) d 5 a with
    | none => rw [ha] at h; cases h
    | some xa =>
      rw [ha] at h
      obtain ⟨y, hy, rfl⟩ : ∃ y, partsW (condW f) d 5 [mk [44], none] (b :: ps) = some y ∧ xa ++ ([none, wd inL, none, mk [91]] ++ (y ++ [mk [93]])) = x := by
        cases hy : partsW (condW f) d 5 [mk [44], none] (b :: ps) with
        | none => rw [hy] at h; simp at h
        | some y => rw [hy] at h; exact ⟨y, rfl, by simpa using h⟩
      have hl2 : lx.map Tok.key = keysP xa ++ ((3, inL, false) :: (2, [91], false) :: (keysP y ++ [(2, [93], false)])) := by
        rw [hl, keysP_app]; simp [keysP, wd, mk]
      obtain ⟨la, l2, rfl, h1, h2⟩ := keys_split hl2
      obtain ⟨t1, l3, rfl, h3, h4⟩ := keys_head h2
      obtain ⟨t2, l4, rfl, h5, h6⟩ := keys_head h4
      obtain ⟨lb, l5, rfl, h7, h8⟩ := keys_split h6
      obtain ⟨t3, l6, rfl, h9, h10⟩ := keys_head h8
      obtain rfl : l6 = [] := by simpa using h10
      have hop : opLv (t1 :: t2 :: (lb ++ t3 :: m)) < 5 := by rw [lv_of h3 []]; decide
      have h11 : gSum (gTimes (gUnitD d)) (la ++ t1 :: t2 :: (lb ++ t3 :: m)) = .ok (a, t1 :: t2 :: (lb ++ t3 :: m)) := hP d 5 a xa ha (by omega) (by omega) la _ h1 hop
      have hop3 : opLv (t3 :: m) < 5 := by rw [lv_of h9 []]; decide
      have h12 := list_read (d := d) (m := t3 :: m) hP (b :: ps) y lb [a] (t1 :: t2 :: (lb ++ t3 :: m)).length hy (by simp) h7 hop3 (isT_ne h9 (by decide)) (by simp; omega)
      show gHeld (gSum (gTimes (gUnitD d))) _ = _
      rw [show la ++ t1 :: t2 :: (lb ++ [t3]) ++ m = la ++ t1 :: t2 :: (lb ++ t3 :: m) by simp]
      unfold gHeld
      rw [h11]
      simp only [isT_ne h3 (show inL ≠ [61] by decide), isT_ne h3 (show inL ≠ [33, 61] by decide), isT_ne h3 (show inL ≠ [60] by decide), isT_ne h3 (show inL ≠ [60, 61] by decide), isT_ne h3 (show inL ≠ [62] by decide), isT_ne h3 (show inL ≠ [62, 61] by decide), isT_key h3 (.inr rfl), List.tail_cons, isT_key h5 (.inl rfl), if_true, Bool.false_eq_true, if_false]
      rw [h12]
      simp [isT_key h9 (.inl rfl)]
/-- a condition that holds at the level of comparisons -/
theorem held4 (hP : PC f) {c : CT} (h : stepW (condW f) d c = some x) (h4 : rankC c = 4) (hl : lx.map Tok.key = keysP x) (hm : opLv m < 4) : gL d 4 (lx ++ m) = .ok (c, m) := by
  have hk := (rank_kind c).2.2.2.2.2.2 h4
  obtain ⟨k, n, s, ps⟩ := c
  have hr := right_of h
  rcases (show k = 9 ∨ k = 10 ∨ k = 11 ∨ k = 15 ∨ (k = 6 ∧ ∃ p, ps = [p] ∧ p.kind = 9) from hk) with rfl | rfl | rfl | rfl | ⟨rfl, p, rfl, hp9⟩
  · obtain ⟨rfl, rfl, hlen⟩ := right_two hr (by decide)
    have h2 : partsW (condW f) d 5 (spc (mk [61])) ps = some x := by
      rw [← h]; unfold stepW; simp [hr, unlikeC, CT.kind, CT.parts]
    obtain ⟨a, b, xa, xb, rfl, ha, hb, rfl⟩ := parts2_inv hlen h2
    obtain ⟨la, t, lb, rfl, h1, h3, h5⟩ := split3 (a := (2, [61], false)) hl
    exact held_read hP ha hb h1 h3 h5 hm _ (.inl ⟨rfl, rfl⟩)
  · obtain ⟨rfl, rfl, hlen⟩ := right_two hr (by decide)
    have h2 : partsW (condW f) d 5 (spc (mk [60])) ps = some x := by
      rw [← h]; unfold stepW; simp [hr, unlikeC, CT.kind, CT.parts]
    obtain ⟨a, b, xa, xb, rfl, ha, hb, rfl⟩ := parts2_inv hlen h2
    obtain ⟨la, t, lb, rfl, h1, h3, h5⟩ := split3 (a := (2, [60], false)) hl
    exact held_read hP ha hb h1 h3 h5 hm _ (.inr (.inr (.inl ⟨rfl, rfl⟩)))
  · obtain ⟨rfl, rfl, hlen⟩ := right_two hr (by decide)
    have h2 : partsW (condW f) d 5 (spc (mk [60, 61])) ps = some x := by
      rw [← h]; unfold stepW; simp [hr, unlikeC, CT.kind, CT.parts]
    obtain ⟨a, b, xa, xb, rfl, ha, hb, rfl⟩ := parts2_inv hlen h2
    obtain ⟨la, t, lb, rfl, h1, h3, h5⟩ := split3 (a := (2, [60, 61], false)) hl
    exact held_read hP ha hb h1 h3 h5 hm _ (.inr (.inr (.inr ⟨rfl, rfl⟩)))
  · exact in_read hP h hl
  · obtain ⟨rfl, rfl, _⟩ := right_not hr
    obtain ⟨k2, n2, s2, ps2⟩ := p
    obtain rfl : k2 = 9 := hp9
    cases hu : unlikeC (.node 6 0 [] [.node 9 n2 s2 ps2])
    · exfalso
      have h2 : (partW (condW f) d 3 (.node 9 n2 s2 ps2)).map (fun x => wd notL :: none :: x) = some x := by
        rw [← h]; unfold stepW; rw [if_neg (by rw [hr]; decide), if_neg (by rw [hu]; decide)]; simp [CT.kind, CT.parts]
      obtain ⟨y, hy, _⟩ := Option.map_eq_some_iff.1 h2
      unfold partW at hy
      rw [if_pos (by show 3 ≤ rankC (.node 9 n2 s2 ps2); simp [rankC, CT.kind])] at hy
      cases f with
      | zero => cases hy
      | succ f =>
        have := right_two (right_of (show stepW (condW f) d (.node 9 n2 s2 ps2) = some y from hy)) (by decide)
        simp [unlikeC, CT.kind, CT.parts, plainC, CT.num, CT.str, this.1, this.2.1, this.2.2] at hu
    · have hq : ps2.length = 2 ∧ n2 = 0 ∧ s2 = [] := by
        have this : (decide (ps2.length = 2) && (n2 == 0 && s2.isEmpty)) = true := hu
        simpa only [Bool.and_eq_true, decide_eq_true_eq, beq_iff_eq, List.isEmpty_iff] using this
      obtain ⟨hlen, rfl, rfl⟩ := hq
      have h2 : partsW (condW f) d 5 (spc (mk [33, 61])) ps2 = some x := by
        rw [← h]; unfold stepW; rw [if_neg (by rw [hr]; decide), if_pos hu]; rfl
      obtain ⟨a, b, xa, xb, rfl, ha, hb, rfl⟩ := parts2_inv hlen h2
      obtain ⟨la, t, lb, rfl, h1, h3, h5⟩ := split3 (a := (2, [33, 61], false)) hl
      exact held_read hP ha hb h1 h3 h5 hm _ (.inr (.inl ⟨rfl, rfl⟩))
end
def NumOk : Prop := ∀ n : Nat, n ≤ mostN → numG (decL n) 0 = some n ∧ (1 ≤ n → numG (decL n) 1 = some n)
theorem u_step (hnum : NumOk) {f : Nat} (hP : PC f) (hS6 : S6 (f + 1)) (hS5 : S5 (f + 1)) : U (f + 1) := by
  intro d c x h lx m hl hm
  have hs : stepW (condW f) d c = some x := h
  have hr := right_of hs
  obtain ⟨k6, k5, k3, k2, k1, k7, k4⟩ := rank_kind c
  obtain ⟨r1, r7⟩ := rank_pos c
  have hall : rankC c = 1 ∨ rankC c = 2 ∨ rankC c = 3 ∨ rankC c = 4 ∨ rankC c = 5 ∨ rankC c = 6 ∨ rankC c = 7 := by omega
  rcases hall with e | e | e | e | e | e | e
  · obtain ⟨k, n, s, ps⟩ := c
    obtain rfl : k = 8 := k1 e
    obtain ⟨rfl, rfl, hlen, hk⟩ := right_row hr (.inr rfl)
    have h2 : partsW (condW f) d 2 (spc (wd orL)) ps = some x := by
      rw [← hs]; unfold stepW; simp [hr, unlikeC, CT.kind, CT.parts]
    rw [e] at hm ⊢
    rw [gl1]
    exact row_cond hP (by omega) (by omega) h2 hlen hk hl (by decide) (by omega) (op_lt1 hm)
  · obtain ⟨k, n, s, ps⟩ := c
    obtain rfl : k = 7 := k2 e
    obtain ⟨rfl, rfl, hlen, hk⟩ := right_row hr (.inl rfl)
    have h2 : partsW (condW f) d 3 (spc (wd andL)) ps = some x := by
      rw [← hs]; unfold stepW; simp [hr, unlikeC, CT.kind, CT.parts]
    rw [e] at hm ⊢
    rw [gl2]
    exact row_cond hP (by omega) (by omega) h2 hlen hk hl (by decide) (by omega) (op_lt2 hm)
  · obtain ⟨k, n, s, ps⟩ := c
    obtain rfl : k = 6 := k3 e
    obtain ⟨rfl, rfl, hlen⟩ := right_not hr
    match ps, hlen with
    | [p], _ =>
      have hp9 : p.kind ≠ 9 := fun h9 => by
        have this : rankC (.node 6 0 [] [p]) = if p.kind = 9 then 4 else 3 := rfl
        rw [this, if_pos h9] at e; omega
      have hu : unlikeC (.node 6 0 [] [p]) = false := by simp [unlikeC, CT.kind, CT.parts]; intro h9; exact absurd h9 hp9
      have h2 : (partW (condW f) d 3 p).map (fun x => wd notL :: none :: x) = some x := by
        rw [← hs]; unfold stepW; rw [if_neg (by rw [hr]; decide), if_neg (by rw [hu]; decide)]; simp [CT.kind, CT.parts]
      obtain ⟨y, hy, rfl⟩ := Option.map_eq_some_iff.1 h2
      obtain ⟨t, r, rfl, ht, hr2⟩ := keys_head (a := (3, notL, false)) (b := keysP y) hl
      rw [e] at hm ⊢
      have h3 : gNo (gHeld (gSum (gTimes (gUnitD d)))) (r ++ m).length (r ++ m) = .ok (p, m) := hP d 3 p y hy (by omega) (by omega) r m hr2 hm
      show gNo (gHeld (gSum (gTimes (gUnitD d)))) (t :: r ++ m).length (t :: r ++ m) = _
      rw [show (t :: r ++ m).length = (r ++ m).length + 1 from rfl]
      unfold gNo
      rw [show t :: r ++ m = t :: (r ++ m) from rfl, isT_key ht (.inr rfl)]
      simp only [if_true, List.tail_cons]
      rw [h3]
      rfl
  · rw [e] at hm ⊢
    exact held4 hP hs e hl hm
  · rw [e] at hm ⊢
    obtain ⟨n, hn, he⟩ := hS5 d c x h e lx m hl (by omega)
    obtain ⟨n, rfl⟩ : ∃ q, n = q + 1 := ⟨n - 1, by omega⟩
    rw [he]
    unfold sumL
    rw [(op_lt5 hm).2.1, (op_lt5 hm).2.2]; rfl
  · rw [e] at hm ⊢
    obtain ⟨n, hn, he⟩ := hS6 d c x h e lx m hl
    obtain ⟨n, rfl⟩ : ∃ q, n = q + 1 := ⟨n - 1, by omega⟩
    rw [he]
    unfold timesL
    rw [op_lt6 hm]; rfl
  · have hk := k7 e
    rw [e]
    obtain ⟨k, n, s, ps⟩ := c
    obtain rfl := right_leaf hr hk
    exact leaf_read hnum hs (fun e6 => hk (by show 6 ≤ k ∧ k ≤ 15; omega)) (fun e7 => hk (by show 6 ≤ k ∧ k ≤ 15; omega)) lx m hl
theorem all_read (hnum : NumOk) : ∀ f, U f ∧ S6 f ∧ S5 f
  | 0 => ⟨fun _ _ _ h => (by cases h), fun _ _ _ h => (by cases h), fun _ _ _ h => (by cases h)⟩
  | f + 1 => by
    obtain ⟨hU, h6, h5⟩ := all_read hnum f
    have hP := part_of hU
    have s6 := s6_step hP (c6_of hP h6)
    have s5 := s5_step hP (c5_of hP h5)
    exact ⟨u_step hnum hP s6 s5, s6, s5⟩
/-- a condition's tokens say it -/
theorem print_read (hnum : NumOk) {c : CT} {x : List Piece} (h : printP c = some x) {lx : Toks} (hl : lx.map Tok.key = keysP x) {t : Tok} (ht : t.sort = 1) : gCond 8 (lx ++ [t]) = .ok (c, [t]) := by
  have hP := part_of (all_read hnum c.size).1
  have h1 : partW (condW c.size) 8 1 c = some x := by
    unfold printP partW at h
    unfold partW
    rw [if_pos (Nat.zero_le _)] at h
    rw [if_pos (rank_pos c).1]; exact h
  exact hP 8 1 c x h1 (by omega) (by omega) lx [t] hl (by simp [opLv, isT, ht])
end Go.Proofs.YtfhdecdlkmibmaaDoor
