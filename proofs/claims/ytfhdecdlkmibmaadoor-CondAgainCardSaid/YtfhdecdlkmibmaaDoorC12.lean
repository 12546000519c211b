/- What a parser builds can be written: each form. No program in sight. -/
import Derived.Test.YtfhdecdlkmibmaaDoorC11
namespace Go.Proofs.YtfhdecdlkmibmaaDoor
theorem len_app (a b c : List Piece) : (textP (a ++ b ++ c)).length = (textP a).length + (textP b).length + (textP c).length := by
  rw [textP_app, textP_app, List.length_append, List.length_append]
theorem PrL.one {d j n : Nat} {sep : List Piece} {c : CT} (h : Pr d j n c) : PrL d j sep n [c] := by
  obtain ⟨x, h1, h2⟩ := h
  exact ⟨x, fun f hf => h1 f (by rw [sizeL_cons, sizeL_nil] at hf; omega), h2⟩
theorem PrL.cons {d j n n2 : Nat} {sep : List Piece} {c : CT} {ps : List CT} (h : Pr d j n c) (h2 : PrL d j sep n2 ps) (hne : ps ≠ []) : PrL d j sep (n + (textP sep).length + n2) (c :: ps) := by
  obtain ⟨x, a1, a2⟩ := h
  obtain ⟨y, b1, b2⟩ := h2
  match ps, hne, b1 with
  | c2 :: ps, _, b1 =>
    refine ⟨x ++ sep ++ y, fun f hf => ?_, by rw [len_app]; omega⟩
    rw [sizeL_cons] at hf
    show (match partW (condW f) d j c with | none => none | some x => (partsW (condW f) d j sep (c2 :: ps)).map fun y => x ++ sep ++ y) = _
    rw [a1 f (by omega), b1 f (by omega)]; rfl
theorem sizeL_app : ∀ a b : List CT, sizeLc (a ++ b) = sizeLc a + sizeLc b
  | [], b => by rw [List.nil_append, sizeL_nil]; omega
  | c :: a, b => by rw [List.cons_append, sizeL_cons, sizeL_cons, sizeL_app a b]; omega
theorem parts_app {cond : Wr} {d j : Nat} {sep : List Piece} : ∀ (a b : List CT) (x y : List Piece), a ≠ [] → b ≠ [] → partsW cond d j sep a = some x → partsW cond d j sep b = some y → partsW cond d j sep (a ++ b) = some (x ++ sep ++ y)
  | [], _, _, _, h, _, _, _ => absurd rfl h
  | [c], b, x, y, _, hb, hx, hy => by
    match b, hb, hy with
    | c2 :: b, _, hy =>
      show (match partW cond d j c with | none => none | some x => (partsW cond d j sep (c2 :: b)).map fun y => x ++ sep ++ y) = _
      rw [show partW cond d j c = some x from hx, hy]; rfl
  | c :: c2 :: a, b, x, y, _, hb, hx, hy => by
    obtain ⟨xc, z, hc, hz, rfl⟩ := parts_cons hx
    show (match partW cond d j c with | none => none | some x => (partsW cond d j sep (c2 :: (a ++ b))).map fun y => x ++ sep ++ y) = _
    have := parts_app (c2 :: a) b z y (by simp) hb hz hy
    rw [List.cons_append] at this
    rw [hc, this]
    simp
theorem PrL.app {d j n n2 : Nat} {sep : List Piece} {a b : List CT} (h : PrL d j sep n a) (h2 : PrL d j sep n2 b) (ha : a ≠ []) (hb : b ≠ []) : PrL d j sep (n + (textP sep).length + n2) (a ++ b) := by
  obtain ⟨x, a1, a2⟩ := h
  obtain ⟨y, b1, b2⟩ := h2
  refine ⟨x ++ sep ++ y, fun f hf => ?_, by rw [len_app]; omega⟩
  rw [sizeL_app] at hf
  exact parts_app a b x y ha hb (a1 f (by omega)) (b1 f (by omega))
theorem parts_deeper {f d j : Nat} {sep : List Piece} {ps : List CT} {x : List Piece} (h : partsW (condW f) d j sep ps = some x) : partsW (condW f) (d + 1) j sep ps = some x :=
  parts_mono (cond := condW f) (cond' := condW f) (d := d) (d' := d + 1) (part_deeper (cond_deeper f) d) ps x h
theorem sizeL2 (a b : CT) : sizeLc [a, b] = a.size + b.size := by rw [sizeL_cons, sizeL_cons, sizeL_nil]; omega
theorem two_mk {cond : Wr} {d l1 l2 : Nat} {sep : List Piece} {a b : CT} {x y : List Piece} (ha : partW cond d l1 a = some x) (hb : partW cond d l2 b = some y) : twoW cond d l1 l2 sep [a, b] = some (x ++ sep ++ y) := by
  show (match partW cond d l1 a with | none => none | some x => (partW cond d l2 b).map fun y => x ++ sep ++ y) = _
  rw [ha, hb]; rfl
theorem parts_mk {cond : Wr} {d l1 : Nat} {sep : List Piece} {a b : CT} {x y : List Piece} (ha : partW cond d l1 a = some x) (hb : partW cond d l1 b = some y) : partsW cond d l1 sep [a, b] = some (x ++ sep ++ y) := by
  show (match partW cond d l1 a with | none => none | some x => (partW cond d l1 b).map fun y => x ++ sep ++ y) = _
  rw [ha, hb]; rfl
section
variable {d n n2 : Nat} {a b : CT}
theorem Pr.times (ha : Pr d 6 n a) (hb : Pr d 7 n2 b) : Pr d 6 (n + 3 + n2) (pairC 14 a b) := by
  obtain ⟨x, a1, a2⟩ := ha
  obtain ⟨y, b1, b2⟩ := hb
  refine Pr.mk' (x := x ++ spc (mk [42]) ++ y) (Nat.le_refl _) (fun f hf => ?_) ?_
  · unfold pairC at hf ⊢
    rw [size_eq, sizeL2] at hf
    rw [st14 rfl]
    exact two_mk (a1 f (by omega)) (b1 f (by omega))
  · rw [len_app]
    have e : (textP (spc (mk [42]))).length = 3 := rfl
    omega
theorem Pr.plus (ha : Pr d 5 n a) (hb : Pr d 6 n2 b) : Pr d 5 (n + 3 + n2) (pairC 12 a b) := by
  obtain ⟨x, a1, a2⟩ := ha
  obtain ⟨y, b1, b2⟩ := hb
  refine Pr.mk' (x := x ++ spc (mk [43]) ++ y) (Nat.le_refl _) (fun f hf => ?_) ?_
  · unfold pairC at hf ⊢
    rw [size_eq, sizeL2] at hf
    rw [st12 rfl]
    exact two_mk (a1 f (by omega)) (b1 f (by omega))
  · rw [len_app]
    have e : (textP (spc (mk [43]))).length = 3 := rfl
    omega
theorem Pr.minus (ha : Pr d 5 n a) (hb : Pr d 6 n2 b) : Pr d 5 (n + 3 + n2) (pairC 13 a b) := by
  obtain ⟨x, a1, a2⟩ := ha
  obtain ⟨y, b1, b2⟩ := hb
  refine Pr.mk' (x := x ++ spc (mk minusL) ++ y) (Nat.le_refl _) (fun f hf => ?_) ?_
  · unfold pairC at hf ⊢
    rw [size_eq, sizeL2] at hf
    rw [st13 rfl]
    exact two_mk (a1 f (by omega)) (b1 f (by omega))
  · rw [len_app]
    have e : (textP (spc (mk minusL))).length = 3 := rfl
    omega
theorem Pr.eq (ha : Pr d 5 n a) (hb : Pr d 5 n2 b) : Pr d 4 (n + 3 + n2) (pairC 9 a b) := by
  obtain ⟨x, a1, a2⟩ := ha
  obtain ⟨y, b1, b2⟩ := hb
  refine Pr.mk' (x := x ++ spc (mk [61]) ++ y) (Nat.le_refl _) (fun f hf => ?_) ?_
  · unfold pairC at hf ⊢
    rw [size_eq, sizeL2] at hf
    rw [st9 rfl]
    exact parts_mk (a1 f (by omega)) (b1 f (by omega))
  · rw [len_app]
    have e : (textP (spc (mk [61]))).length = 3 := rfl
    omega
theorem Pr.less (ha : Pr d 5 n a) (hb : Pr d 5 n2 b) : Pr d 4 (n + 3 + n2) (pairC 10 a b) := by
  obtain ⟨x, a1, a2⟩ := ha
  obtain ⟨y, b1, b2⟩ := hb
  refine Pr.mk' (x := x ++ spc (mk [60]) ++ y) (Nat.le_refl _) (fun f hf => ?_) ?_
  · unfold pairC at hf ⊢
    rw [size_eq, sizeL2] at hf
    rw [st10 rfl]
    exact parts_mk (a1 f (by omega)) (b1 f (by omega))
  · rw [len_app]
    have e : (textP (spc (mk [60]))).length = 3 := rfl
    omega
theorem Pr.most (ha : Pr d 5 n a) (hb : Pr d 5 n2 b) : Pr d 4 (n + 4 + n2) (pairC 11 a b) := by
  obtain ⟨x, a1, a2⟩ := ha
  obtain ⟨y, b1, b2⟩ := hb
  refine Pr.mk' (x := x ++ spc (mk [60, 61]) ++ y) (Nat.le_refl _) (fun f hf => ?_) ?_
  · unfold pairC at hf ⊢
    rw [size_eq, sizeL2] at hf
    rw [st11 rfl]
    exact parts_mk (a1 f (by omega)) (b1 f (by omega))
  · rw [len_app]
    have e : (textP (spc (mk [60, 61]))).length = 4 := rfl
    omega
theorem Pr.unlike (ha : Pr d 5 n a) (hb : Pr d 5 n2 b) : Pr d 4 (n + 4 + n2) (notC (pairC 9 a b)) := by
  obtain ⟨x, a1, a2⟩ := ha
  obtain ⟨y, b1, b2⟩ := hb
  refine Pr.mk' (x := x ++ spc (mk [33, 61]) ++ y) (Nat.le_refl _) (fun f hf => ?_) ?_
  · unfold notC pairC at hf ⊢
    rw [size_eq, sizeL_cons, sizeL_nil, size_eq, sizeL2] at hf
    rw [st6u rfl rfl]
    exact parts_mk (a1 f (by omega)) (b1 f (by omega))
  · rw [len_app]
    have e : (textP (spc (mk [33, 61]))).length = 4 := rfl
    omega
theorem Pr.list {ps : List CT} (ha : Pr d 5 n a) (hb : PrL d 5 [mk [44], none] n2 ps) (hne : ps ≠ []) : Pr d 4 (n + 5 + n2 + 1) (.node 15 0 [] (a :: ps)) := by
  obtain ⟨x, a1, a2⟩ := ha
  obtain ⟨y, b1, b2⟩ := hb
  refine Pr.mk' (x := x ++ [none, wd inL, none, mk [91]] ++ y ++ [mk [93]]) (Nat.le_refl _) (fun f hf => ?_) ?_
  · rw [size_eq, sizeL_cons] at hf
    have hr : rightC (.node 15 0 [] (a :: ps)) = true := by
      show (decide (2 ≤ (a :: ps).length) && ((0 : Int) == 0 && ([] : List UInt8).isEmpty)) = true
      have : 0 < ps.length := List.length_pos_iff.2 hne
      simp; omega
    rw [st15 hr]
    unfold inW
    rw [a1 f (by omega), b1 f (by omega)]; rfl
  · rw [textP_app, List.length_append, len_app]
    have e : (textP [none, wd inL, none, mk [91]]).length = 5 := rfl
    have e2 : (textP [mk [93]]).length = 1 := rfl
    omega
theorem Pr.row7 {ps : List CT} (h : PrL d 3 (spc (wd andL)) n ps) (h2 : 2 ≤ ps.length) (hk : ∀ p ∈ ps, p.kind ≠ 7) : Pr d 2 n (.node 7 0 [] ps) := by
  obtain ⟨x, a1, a2⟩ := h
  refine Pr.mk' (x := x) (Nat.le_refl _) (fun f hf => ?_) a2
  rw [size_eq] at hf
  have hr : rightC (.node 7 0 [] ps) = true := by
    show (decide (2 ≤ ps.length) && ((0 : Int) == 0 && ([] : List UInt8).isEmpty) && !ps.any fun p => p.kind == 7) = true
    simp only [Bool.and_eq_true, decide_eq_true_eq, Bool.not_eq_true', List.any_eq_false, beq_iff_eq]
    exact ⟨⟨h2, trivial, rfl⟩, hk⟩
  rw [st7 hr]
  exact a1 f (by omega)
theorem Pr.row8 {ps : List CT} (h : PrL d 2 (spc (wd orL)) n ps) (h2 : 2 ≤ ps.length) (hk : ∀ p ∈ ps, p.kind ≠ 8) : Pr d 1 n (.node 8 0 [] ps) := by
  obtain ⟨x, a1, a2⟩ := h
  refine Pr.mk' (x := x) (Nat.le_refl _) (fun f hf => ?_) a2
  rw [size_eq] at hf
  have hr : rightC (.node 8 0 [] ps) = true := by
    show (decide (2 ≤ ps.length) && ((0 : Int) == 0 && ([] : List UInt8).isEmpty) && !ps.any fun p => p.kind == 8) = true
    simp only [Bool.and_eq_true, decide_eq_true_eq, Bool.not_eq_true', List.any_eq_false, beq_iff_eq]
    exact ⟨⟨h2, trivial, rfl⟩, hk⟩
  rw [st8 hr]
  exact a1 f (by omega)
end
/-- more fuel -/
theorem part_more {cond cond' : Wr} (h : ∀ d c x, cond d c = some x → cond' d c = some x) : ∀ d least c x, partW cond d least c = some x → partW cond' d least c = some x := by
  intro d least c x hp
  unfold partW at hp ⊢
  split
  · rename_i hr; rw [if_pos hr] at hp; exact h d c x hp
  · rename_i hr
    rw [if_neg hr] at hp
    cases d with
    | zero => cases hp
    | succ d =>
      obtain ⟨y, hy, rfl⟩ := Option.map_eq_some_iff.1 hp
      show Option.map _ (cond' d c) = _
      rw [h d c y hy]; rfl
theorem cond_fuel1 : ∀ f d c x, condW f d c = some x → condW (f + 1) d c = some x
  | 0, _, _, _, h => by cases h
  | f + 1, d, c, x, h => step_mono (cond := condW f) (cond' := condW (f + 1)) (d := d) (d' := d) (part_more (cond_fuel1 f) d) h
theorem part_fuel {f g d j : Nat} {c : CT} {x : List Piece} (hg : f ≤ g) (h : partW (condW f) d j c = some x) : partW (condW g) d j c = some x := by
  induction hg with
  | refl => exact h
  | step _ ih => exact part_more (cond_fuel1 _) d j c x ih
/-- the parts of a comparison that is written -/
theorem eq_parts {d n : Nat} {s : List UInt8} {m : Int} {ps : List CT} (h : Pr d 3 n (.node 9 m s ps)) : m = 0 ∧ s = [] ∧ ∃ a b, ps = [a, b] ∧ ∃ x y, (∀ f, a.size + b.size ≤ f → partW (condW f) d 5 a = some x ∧ partW (condW f) d 5 b = some y) ∧ (textP x).length + 3 + (textP y).length ≤ n := by
  obtain ⟨z, h1, h2⟩ := h
  have h3 : ∀ f, sizeLc ps ≤ f → stepW (condW f) d (.node 9 m s ps) = some z := by
    intro f hf
    have := h1 (f + 1) (by rw [size_eq]; omega)
    unfold partW at this
    rwa [if_pos (show 3 ≤ rankC (.node 9 m s ps) from (by decide : 3 ≤ 4))] at this
  have hr := right_of (h3 _ (Nat.le_refl _))
  obtain ⟨rfl, rfl, hlen⟩ := right_two hr (by decide)
  have h4 := h3 _ (Nat.le_refl _)
  rw [st9 hr] at h4
  obtain ⟨a, b, xa, xb, rfl, ha, hb, rfl⟩ := parts2_inv hlen h4
  refine ⟨rfl, rfl, a, b, rfl, xa, xb, fun f hf => ?_, ?_⟩
  · exact ⟨part_fuel hf (by rw [← sizeL2]; exact ha), part_fuel hf (by rw [← sizeL2]; exact hb)⟩
  · rw [len_app] at h2
    have e : (textP (spc (mk [61]))).length = 3 := rfl
    omega
/-- a not -/
theorem Pr.not {d n : Nat} {c : CT} (h : Pr d 3 n c) : Pr d 3 (n + 4) (notC c) := by
  obtain ⟨k, m, s, ps⟩ := c
  by_cases hk : k = 9
  · subst hk
    obtain ⟨rfl, rfl, a, b, rfl, x, y, hx, hn⟩ := eq_parts h
    refine Pr.mk' (x := x ++ spc (mk [33, 61]) ++ y) (show 3 ≤ 4 by decide) (fun f hf => ?_) ?_
    · unfold notC at hf ⊢
      rw [size_eq, sizeL_cons, sizeL_nil, size_eq, sizeL2] at hf
      rw [st6u rfl rfl]
      exact parts_mk (hx f (by omega)).1 (hx f (by omega)).2
    · rw [len_app]
      have e : (textP (spc (mk [33, 61]))).length = 4 := rfl
      omega
  · obtain ⟨x, h1, h2⟩ := h
    have hrk : rankC (notC (.node k m s ps)) = 3 := by
      show (if k = 9 then 4 else 3) = 3
      rw [if_neg hk]
    have hu : unlikeC (notC (.node k m s ps)) = false := by
      show (((6 : Int) == 6) && (k == 9 && decide (ps.length = 2) && (m == 0 && s.isEmpty))) = false
      rw [show (k == 9) = false from beq_false_of_ne hk]; rfl
    refine Pr.mk' (x := wd notL :: none :: x) (by rw [hrk]; omega) (fun f hf => ?_) ?_
    · unfold notC at hf hu ⊢
      rw [size_eq, sizeL_cons, sizeL_nil] at hf
      rw [st6 rfl hu]
      show Option.map _ (partW (condW f) d 3 (.node k m s ps)) = _
      rw [h1 f (by omega)]; rfl
    · have e : textP (wd notL :: none :: x) = [110, 111, 116, 32] ++ textP x := rfl
      rw [e, List.length_append]
      have e2 : ([110, 111, 116, 32] : List UInt8).length = 4 := rfl
      omega
/-- what is put into a row -/
theorem PrL.flat {d j n : Nat} {k : Int} {w : List UInt8} {c : CT} (hkj : (k = 7 ∧ j = 3 ∧ w = andL) ∨ (k = 8 ∧ j = 2 ∧ w = orL)) (h : Pr d j n c) : PrL d j (spc (wd w)) n (flatC k c) ∧ flatC k c ≠ [] ∧ ∀ p ∈ flatC k c, p.kind ≠ k := by
  obtain ⟨q, m, s, ps⟩ := c
  by_cases hq : q = k
  · subst hq
    have hf : flatC q (.node q m s ps) = ps := by unfold flatC; rw [if_pos (show CT.kind (.node q m s ps) = q from rfl)]; rfl
    rw [hf]
    obtain ⟨x, h1, h2⟩ := h
    have hrk : ¬ j ≤ rankC (.node q m s ps) := by
      rcases hkj with ⟨rfl, rfl, _⟩ | ⟨rfl, rfl, _⟩
      · show ¬ 3 ≤ 2; omega
      · show ¬ 2 ≤ 1; omega
    cases d with
    | zero =>
      have := h1 _ (Nat.le_refl _)
      unfold partW at this
      rw [if_neg hrk] at this; cases this
    | succ d =>
      have h3 : ∀ f, sizeLc ps ≤ f → ∃ y, stepW (condW f) d (.node q m s ps) = some y ∧ mk openL :: y ++ [mk closeL] = x := by
        intro f hf
        have := h1 (f + 1) (by rw [size_eq]; omega)
        unfold partW at this
        rw [if_neg hrk] at this
        exact Option.map_eq_some_iff.1 this
      obtain ⟨y, hy, rfl⟩ := h3 _ (Nat.le_refl _)
      have hr := right_of hy
      have hrow := right_row hr (by rcases hkj with ⟨rfl, _⟩ | ⟨rfl, _⟩ <;> simp)
      have hst : ∀ f, stepW (condW f) d (.node q m s ps) = partsW (condW f) d j (spc (wd w)) ps := by
        intro f
        rcases hkj with ⟨rfl, rfl, rfl⟩ | ⟨rfl, rfl, rfl⟩
        · exact st7 hr
        · exact st8 hr
      refine ⟨⟨y, fun f hf => ?_, ?_⟩, fun e => ?_, hrow.2.2.2⟩
      · obtain ⟨z, hz, e⟩ := h3 f hf
        have e2 : z = y := by simpa using e
        rw [hst, e2] at hz
        exact parts_deeper hz
      · have e : textP (mk openL :: y ++ [mk closeL]) = textP [mk openL] ++ textP y ++ textP [mk closeL] := by simp [textP]
        rw [e, List.length_append, List.length_append] at h2
        omega
      · have := hrow.2.2.1
        rw [e] at this; simp at this
  · have hf : flatC k (.node q m s ps) = [.node q m s ps] := by unfold flatC; rw [if_neg (show ¬ CT.kind (.node q m s ps) = k from hq)]
    rw [hf]
    exact ⟨PrL.one h, by simp, fun p hp => by
      rw [List.mem_singleton] at hp
      rw [hp]; exact hq⟩
end Go.Proofs.YtfhdecdlkmibmaaDoor
