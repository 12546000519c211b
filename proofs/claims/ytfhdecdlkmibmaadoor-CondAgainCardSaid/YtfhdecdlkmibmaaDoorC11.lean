/- How a condition of each kind is written; more brackets that may be opened change nothing. No program in sight. -/
import Derived.Test.YtfhdecdlkmibmaaDoorC10
namespace Go.Proofs.YtfhdecdlkmibmaaDoor
section
variable {cond : Wr} {d : Nat} {n : Int} {s : List UInt8} {ps : List CT}
theorem st7 (hr : rightC (.node 7 n s ps) = true) : stepW cond d (.node 7 n s ps) = partsW cond d 3 (spc (wd andL)) ps := by
  unfold stepW; simp [hr, unlikeC, CT.kind, CT.parts]
theorem st8 (hr : rightC (.node 8 n s ps) = true) : stepW cond d (.node 8 n s ps) = partsW cond d 2 (spc (wd orL)) ps := by
  unfold stepW; simp [hr, unlikeC, CT.kind, CT.parts]
theorem st9 (hr : rightC (.node 9 n s ps) = true) : stepW cond d (.node 9 n s ps) = partsW cond d 5 (spc (mk [61])) ps := by
  unfold stepW; simp [hr, unlikeC, CT.kind, CT.parts]
theorem st10 (hr : rightC (.node 10 n s ps) = true) : stepW cond d (.node 10 n s ps) = partsW cond d 5 (spc (mk [60])) ps := by
  unfold stepW; simp [hr, unlikeC, CT.kind, CT.parts]
theorem st11 (hr : rightC (.node 11 n s ps) = true) : stepW cond d (.node 11 n s ps) = partsW cond d 5 (spc (mk [60, 61])) ps := by
  unfold stepW; simp [hr, unlikeC, CT.kind, CT.parts]
theorem st12 (hr : rightC (.node 12 n s ps) = true) : stepW cond d (.node 12 n s ps) = twoW cond d 5 6 (spc (mk [43])) ps := by
  unfold stepW; simp [hr, unlikeC, CT.kind, CT.parts]
theorem st13 (hr : rightC (.node 13 n s ps) = true) : stepW cond d (.node 13 n s ps) = twoW cond d 5 6 (spc (mk minusL)) ps := by
  unfold stepW; simp [hr, unlikeC, CT.kind, CT.parts]
theorem st14 (hr : rightC (.node 14 n s ps) = true) : stepW cond d (.node 14 n s ps) = twoW cond d 6 7 (spc (mk [42])) ps := by
  unfold stepW; simp [hr, unlikeC, CT.kind, CT.parts]
theorem st6u (hr : rightC (.node 6 n s ps) = true) (hu : unlikeC (.node 6 n s ps) = true) : stepW cond d (.node 6 n s ps) = partsW cond d 5 (spc (mk [33, 61])) (ps.headD (leaf 0 0 [])).parts := by
  unfold stepW; rw [if_neg (by rw [hr]; decide), if_pos hu]; rfl
theorem st6 (hr : rightC (.node 6 n s ps) = true) (hu : unlikeC (.node 6 n s ps) = false) : stepW cond d (.node 6 n s ps) = (partW cond d 3 (ps.headD (leaf 0 0 []))).map (fun x => wd notL :: none :: x) := by
  unfold stepW; rw [if_neg (by rw [hr]; decide), if_neg (by rw [hu]; decide)]; simp [CT.kind, CT.parts]
def inW (cond : Wr) (d : Nat) (a : CT) (ps : List CT) : Option (List Piece) := match partW cond d 5 a with
  | none => none
  | some x => (partsW cond d 5 [mk [44], none] ps).map fun y => x ++ [none, wd inL, none, mk [91]] ++ y ++ [mk [93]]
theorem st15 {a : CT} (hr : rightC (.node 15 n s (a :: ps)) = true) : stepW cond d (.node 15 n s (a :: ps)) = inW cond d a ps := by
  unfold stepW; simp [hr, unlikeC, CT.kind, CT.parts, inW]
  cases partW cond d 5 a <;> rfl
/-- a leaf's writing asks of no depth -/
theorem st_leaf {cond' : Wr} {d' : Nat} {k : Int} (hk : ¬ (6 ≤ k ∧ k ≤ 15)) (hr : rightC (.node k n s ps) = true) : stepW cond d (.node k n s ps) = stepW cond' d' (.node k n s ps) := by
  obtain rfl := right_leaf hr hk
  have hh : 1 ≤ k ∧ k ≤ 15 := by
    by_cases hh : 1 ≤ k ∧ k ≤ 15
    · exact hh
    · exact absurd hr (right_none k n s _ hh)
  have : k = 1 ∨ k = 2 ∨ k = 3 ∨ k = 4 ∨ k = 5 := by omega
  rcases this with rfl | rfl | rfl | rfl | rfl <;> (unfold stepW; simp [hr, unlikeC, CT.kind, CT.parts])
end
section
variable {cond cond' : Wr} {d d' : Nat} (hP : ∀ least c x, partW cond d least c = some x → partW cond' d' least c = some x)
include hP
theorem parts_mono {least : Nat} {sep : List Piece} : ∀ (ps : List CT) (x : List Piece), partsW cond d least sep ps = some x → partsW cond' d' least sep ps = some x
  | [], _, h => h
  | [c], x, h => hP least c x h
  | c :: c2 :: ps, x, h => by
    obtain ⟨xc, y, hc, hy, rfl⟩ := parts_cons h
    show (match partW cond' d' least c with | none => none | some x => (partsW cond' d' least sep (c2 :: ps)).map fun y => x ++ sep ++ y) = _
    rw [hP least c xc hc, parts_mono (c2 :: ps) y hy]
    rfl
theorem two_mono {l1 l2 : Nat} {s : Piece} {ps : List CT} {x : List Piece} (h : twoW cond d l1 l2 (spc s) ps = some x) : twoW cond' d' l1 l2 (spc s) ps = some x := by
  obtain ⟨a, b, xa, xb, rfl, ha, hb, rfl⟩ := two_inv h
  show (match partW cond' d' l1 a with | none => none | some x => (partW cond' d' l2 b).map fun y => x ++ spc s ++ y) = _
  rw [hP l1 a xa ha, hP l2 b xb hb]
  rfl
theorem step_mono {c : CT} {x : List Piece} (h : stepW cond d c = some x) : stepW cond' d' c = some x := by
  have hr := right_of h
  obtain ⟨k, n, s, ps⟩ := c
  by_cases hk : 6 ≤ k ∧ k ≤ 15
  · have : k = 6 ∨ k = 7 ∨ k = 8 ∨ k = 9 ∨ k = 10 ∨ k = 11 ∨ k = 12 ∨ k = 13 ∨ k = 14 ∨ k = 15 := by omega
    rcases this with rfl | rfl | rfl | rfl | rfl | rfl | rfl | rfl | rfl | rfl
    · cases hu : unlikeC (.node 6 n s ps)
      · rw [st6 hr hu] at h ⊢
        obtain ⟨y, hy, rfl⟩ := Option.map_eq_some_iff.1 h
        rw [hP 3 _ y hy]; rfl
      · rw [st6u hr hu] at h ⊢
        exact parts_mono hP _ x h
    · rw [st7 hr] at h ⊢; exact parts_mono hP _ x h
    · rw [st8 hr] at h ⊢; exact parts_mono hP _ x h
    · rw [st9 hr] at h ⊢; exact parts_mono hP _ x h
    · rw [st10 hr] at h ⊢; exact parts_mono hP _ x h
    · rw [st11 hr] at h ⊢; exact parts_mono hP _ x h
    · rw [st12 hr] at h ⊢; exact two_mono hP h
    · rw [st13 hr] at h ⊢; exact two_mono hP h
    · rw [st14 hr] at h ⊢; exact two_mono hP h
    · have hl := (right_list hr).2.2
      match ps, hl, h, hr with
      | a :: b :: ps, _, h, hr =>
        obtain ⟨xa, y, ha, hy, rfl⟩ := in_inv h hr
        rw [st15 hr]
        unfold inW
        rw [hP 5 a xa ha, parts_mono hP (b :: ps) y hy]; rfl
  · rw [← st_leaf (cond := cond) (d := d) hk hr]; exact h
end
/-- one more bracket that may be opened -/
theorem part_deeper {f : Nat} (hC : ∀ d c x, condW f d c = some x → condW f (d + 1) c = some x) : ∀ d least c x, partW (condW f) d least c = some x → partW (condW f) (d + 1) least c = some x := by
  intro d least c x h
  unfold partW at h ⊢
  split
  · rename_i hr; rw [if_pos hr] at h; exact hC d c x h
  · rename_i hr
    rw [if_neg hr] at h
    cases d with
    | zero => cases h
    | succ d =>
      obtain ⟨y, hy, rfl⟩ := Option.map_eq_some_iff.1 h
      show Option.map _ (condW f (d + 1) c) = _
      rw [hC d c y hy]; rfl
theorem cond_deeper : ∀ f d c x, condW f d c = some x → condW f (d + 1) c = some x
  | 0, _, _, _, h => by cases h
  | f + 1, d, c, x, h => step_mono (cond := condW f) (cond' := condW f) (d := d) (d' := d + 1) (part_deeper (cond_deeper f) d) h
/-- it can be written in n bytes, whatever the fuel -/
def Pr (d j n : Nat) (c : CT) : Prop := ∃ x, (∀ f, c.size ≤ f → partW (condW f) d j c = some x) ∧ (textP x).length ≤ n
def PrL (d j : Nat) (sep : List Piece) (n : Nat) (ps : List CT) : Prop := ∃ x, (∀ f, sizeLc ps ≤ f → partsW (condW f) d j sep ps = some x) ∧ (textP x).length ≤ n
theorem Pr.le {d j n n' : Nat} {c : CT} (h : Pr d j n c) (hn : n ≤ n') : Pr d j n' c := by
  obtain ⟨x, h1, h2⟩ := h; exact ⟨x, h1, Nat.le_trans h2 hn⟩
theorem PrL.le {d j n n' : Nat} {sep : List Piece} {c : List CT} (h : PrL d j sep n c) (hn : n ≤ n') : PrL d j sep n' c := by
  obtain ⟨x, h1, h2⟩ := h; exact ⟨x, h1, Nat.le_trans h2 hn⟩
theorem size_eq (k n : Int) (s : List UInt8) (ps : List CT) : (CT.node k n s ps).size = 1 + sizeLc ps := by rw [CT.size]
theorem sizeL_cons (c : CT) (l : List CT) : sizeLc (c :: l) = c.size + sizeLc l := by rw [sizeLc]
theorem sizeL_nil : sizeLc [] = 0 := by rw [sizeLc]
theorem size_pos (c : CT) : 1 ≤ c.size := by obtain ⟨k, n, s, ps⟩ := c; rw [size_eq]; omega
/-- a level at which a part holds at least as loosely -/
theorem Pr.low {d j j' n : Nat} {c : CT} (h : Pr d j n c) (hj : j' ≤ j) : Pr d j' n c := by
  obtain ⟨x, h1, h2⟩ := h
  by_cases hr : j ≤ rankC c
  · refine ⟨x, fun f hf => ?_, h2⟩
    have := h1 f hf
    unfold partW at this ⊢
    rw [if_pos hr] at this
    rw [if_pos (by omega)]; exact this
  · have h0 := h1 c.size (Nat.le_refl _)
    unfold partW at h0
    rw [if_neg hr] at h0
    cases d with
    | zero => cases h0
    | succ d =>
      obtain ⟨y, hy, rfl⟩ := Option.map_eq_some_iff.1 h0
      have h3 : ∀ f, c.size ≤ f → condW f d c = some y := by
        intro f hf
        have := h1 f hf
        unfold partW at this
        rw [if_neg hr] at this
        obtain ⟨z, hz, e⟩ := Option.map_eq_some_iff.1 this
        rw [hz]
        have e2 : z = y := by simpa using e
        rw [e2]
      by_cases hr2 : j' ≤ rankC c
      · refine ⟨y, fun f hf => ?_, ?_⟩
        · unfold partW
          rw [if_pos hr2]; exact cond_deeper f d c y (h3 f hf)
        · have e : textP (mk openL :: y ++ [mk closeL]) = textP [mk openL] ++ textP y ++ textP [mk closeL] := by simp [textP]
          rw [e, List.length_append, List.length_append] at h2
          omega
      · refine ⟨mk openL :: y ++ [mk closeL], fun f hf => ?_, h2⟩
        unfold partW
        rw [if_neg hr2]
        show Option.map _ (condW f d c) = _
        rw [h3 f hf]; rfl
/-- in brackets -/
theorem Pr.paren {d n : Nat} {c : CT} (h : Pr d 1 n c) : Pr (d + 1) 7 (n + 2) c := by
  obtain ⟨x, h1, h2⟩ := h
  have h3 : ∀ f, c.size ≤ f → condW f d c = some x := by
    intro f hf
    have := h1 f hf
    unfold partW at this
    rwa [if_pos (rank_pos c).1] at this
  by_cases hr : 7 ≤ rankC c
  · refine ⟨x, fun f hf => ?_, by omega⟩
    unfold partW
    rw [if_pos hr]; exact cond_deeper f d c x (h3 f hf)
  · refine ⟨mk openL :: x ++ [mk closeL], fun f hf => ?_, ?_⟩
    · unfold partW
      rw [if_neg hr]
      show Option.map _ (condW f d c) = _
      rw [h3 f hf]; rfl
    · have e : textP (mk openL :: x ++ [mk closeL]) = textP [mk openL] ++ textP x ++ textP [mk closeL] := by simp [textP]
      have e1 : (textP [mk openL]).length = 1 := rfl
      have e2 : (textP [mk closeL]).length = 1 := rfl
      rw [e, List.length_append, List.length_append, e1, e2]
      omega
/-- from what its own level writes -/
theorem Pr.mk' {d j n : Nat} {c : CT} {x : List Piece} (hr : j ≤ rankC c) (h : ∀ f, c.size ≤ f + 1 → stepW (condW f) d c = some x) (hn : (textP x).length ≤ n) : Pr d j n c := by
  refine ⟨x, fun f hf => ?_, hn⟩
  unfold partW
  rw [if_pos hr]
  have := size_pos c
  obtain ⟨f, rfl⟩ : ∃ q, f = q + 1 := ⟨f - 1, by omega⟩
  exact h f hf
end Go.Proofs.YtfhdecdlkmibmaaDoor
