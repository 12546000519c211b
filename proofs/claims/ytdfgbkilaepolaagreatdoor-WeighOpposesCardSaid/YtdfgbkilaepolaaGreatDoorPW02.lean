/- How a condition of each kind is written; more brackets that may be opened change nothing. No program in sight. What a parser builds can be written: each form. No program in sight. What is parsed can be written, with no more brackets, at most three times as long. No program in sight. What is parsed can be written: comparisons, rows, whole conditions; the tokens of a text. No program in sight. The laws of conditions, in plain words: parsed, printed and parsed again; more blanks; brackets; fixed texts. No program in sight. The fixed texts of the law's first question. No program in sight. A row that lies somewhere, and stays. Conditions in memory. No program in sight. What a condition's kind is, and its value, by what its names stand for. No program in sight. Maps told by lists; parameters and arguments in memory. No program in sight but the numbers of types. Plain words on tuples. No program in sight. The order of tuples, plainly: no program in sight. -/
import Derived.Test.YtdfgbkilaepolaaGreatDoorPW01
import Derived.Maps.AppendAt
import Derived.Lib.Bytealg
import Derived.Test.YtdfgbkilaepolaaGreatDoorProg
import Derived.Lib.Join
namespace Go.Proofs.YtdfgbkilaepolaaGreatDoor
section
variable {cond : Wr} {d : Nat} {n : Int} {s : List UInt8} {ps : List CT}
theorem st7 (hr : rightC (.node 7 n s ps) = true) : stepW cond d (.node 7 n s ps) = partsW cond d 3 (spc (wd andL)) ps := by
  unfold stepW; simp [hr, unlikeC, CT.kind, CT.parts]
theorem st8 (hr : rightC (.node 8 n s ps) = true) : stepW cond d (.node 8 n s ps) = partsW cond d 2 (spc (wd orL)) ps := by
  unfold stepW; simp [hr, unlikeC, CT.kind, CT.parts]
theorem st9 (hr : rightC (.node 9 n s ps) = true) : stepW cond d (.node 9 n s ps) = partsW cond d 5 (spc (mk [61])) ps := by
  unfold stepW; simp [hr, unlikeC, CT.kind, CT.parts]
theorem st10 (hr : rightC (.node 10 n s ps) = true) : stepW cond d (.node 10 n s ps) = partsW cond d 5 (spc (mk [60])) ps := by
  unfold stepW; simp [hr, unlikeC, CT.kind, CT.parts]
theorem st11 (hr : rightC (.node 11 n s ps) = true) : stepW cond d (.node 11 n s ps) = partsW cond d 5 (spc (mk [60, 61])) ps := by
  unfold stepW; simp [hr, unlikeC, CT.kind, CT.parts]
theorem st12 (hr : rightC (.node 12 n s ps) = true) : stepW cond d (.node 12 n s ps) = twoW cond d 5 6 (spc (mk [43])) ps := by
  unfold stepW; simp [hr, unlikeC, CT.kind, CT.parts]
theorem st13 (hr : rightC (.node 13 n s ps) = true) : stepW cond d (.node 13 n s ps) = twoW cond d 5 6 (spc (mk minusL)) ps := by
  unfold stepW; simp [hr, unlikeC, CT.kind, CT.parts]
theorem st14 (hr : rightC (.node 14 n s ps) = true) : stepW cond d (.node 14 n s ps) = twoW cond d 6 7 (spc (mk [42])) ps := by
  unfold stepW; simp [hr, unlikeC, CT.kind, CT.parts]
theorem st6u (hr : rightC (.node 6 n s ps) = true) (hu : unlikeC (.node 6 n s ps) = true) : stepW cond d (.node 6 n s ps) = partsW cond d 5 (spc (mk [33, 61])) (ps.headD (leaf 0 0 [])).parts := by
  unfold stepW; rw [if_neg (by rw [hr]; decide), if_pos hu]; rfl
theorem st6 (hr : rightC (.node 6 n s ps) = true) (hu : unlikeC (.node 6 n s ps) = false) : stepW cond d (.node 6 n s ps) = (partW cond d 3 (ps.headD (leaf 0 0 []))).map (fun x => wd notL :: none :: x) := by
  unfold stepW; rw [if_neg (by rw [hr]; decide), if_neg (by rw [hu]; decide)]; simp [CT.kind, CT.parts]
def inW (cond : Wr) (d : Nat) (a : CT) (ps : List CT) : Option (List Piece) := match partW cond d 5 a with
  | none => none
  | some x => (partsW cond d 5 [mk [44], none] ps).map fun y => x ++ [none, wd inL, none, mk [91]] ++ y ++ [mk [93]]
theorem st15 {a : CT} (hr : rightC (.node 15 n s (a :: ps)) = true) : stepW cond d (.node 15 n s (a :: ps)) = inW cond d a ps := by
  unfold stepW; simp [hr, unlikeC, CT.kind, CT.parts, inW]
  all_goals (cases partW cond d 5 a <;> rfl)
/-- a leaf's writing asks of no depth -/
theorem st_leaf {cond' : Wr} {d' : Nat} {k : Int} (hk : ¬ (6 ≤ k ∧ k ≤ 15)) (hr : rightC (.node k n s ps) = true) : stepW cond d (.node k n s ps) = stepW cond' d' (.node k n s ps) := by
  obtain rfl := right_leaf hr hk
  have hh : 1 ≤ k ∧ k ≤ 15 := by
    by_cases hh : 1 ≤ k ∧ k ≤ 15
    · exact hh
    · exact absurd hr (right_none k n s _ hh)
  have : k = 1 ∨ k = 2 ∨ k = 3 ∨ k = 4 ∨ k = 5 := by omega
  rcases this with rfl | rfl | rfl | rfl | rfl <;> (unfold stepW; simp [hr, unlikeC, CT.kind, CT.parts])
end
section
variable {cond cond' : Wr} {d d' : Nat} (hP : ∀ least c x, partW cond d least c = some x → partW cond' d' least c = some x)
include hP
theorem parts_mono {least : Nat} {sep : List Piece} : ∀ (ps : List CT) (x : List Piece), partsW cond d least sep ps = some x → partsW cond' d' least sep ps = some x
  | [], _, h => h
  | [c], x, h => hP least c x h
  | c :: c2 :: ps, x, h => by
    obtain ⟨xc, y, hc, hy, rfl⟩ := parts_cons h
    show (match partW cond' d' least c with | none => none | some x => (partsW cond' d' least sep (c2 :: ps)).map fun y => x ++ sep ++ y) = _
    rw [hP least c xc hc, parts_mono (c2 :: ps) y hy]
    rfl
theorem two_mono {l1 l2 : Nat} {s : Piece} {ps : List CT} {x : List Piece} (h : twoW cond d l1 l2 (spc s) ps = some x) : twoW cond' d' l1 l2 (spc s) ps = some x := by
  obtain ⟨a, b, xa, xb, rfl, ha, hb, rfl⟩ := two_inv h
  show (match partW cond' d' l1 a with | none => none | some x => (partW cond' d' l2 b).map fun y => x ++ spc s ++ y) = _
  rw [hP l1 a xa ha, hP l2 b xb hb]
  rfl
theorem step_mono {c : CT} {x : List Piece} (h : stepW cond d c = some x) : stepW cond' d' c = some x := by
  have hr := right_of h
  obtain ⟨k, n, s, ps⟩ := c
  by_cases hk : 6 ≤ k ∧ k ≤ 15
  · have : k = 6 ∨ k = 7 ∨ k = 8 ∨ k = 9 ∨ k = 10 ∨ k = 11 ∨ k = 12 ∨ k = 13 ∨ k = 14 ∨ k = 15 := by omega
    rcases this with rfl | rfl | rfl | rfl | rfl | rfl | rfl | rfl | rfl | rfl
    · cases hu : unlikeC (.node 6 n s ps)
      · rw [st6 hr hu] at h ⊢
        obtain ⟨y, hy, rfl⟩ := Option.map_eq_some_iff.1 h
        rw [hP 3 _ y hy]; rfl
      · rw [st6u hr hu] at h ⊢
        exact parts_mono hP _ x h
    · rw [st7 hr] at h ⊢; exact parts_mono hP _ x h
    · rw [st8 hr] at h ⊢; exact parts_mono hP _ x h
    · rw [st9 hr] at h ⊢; exact parts_mono hP _ x h
    · rw [st10 hr] at h ⊢; exact parts_mono hP _ x h
    · rw [st11 hr] at h ⊢; exact parts_mono hP _ x h
    · rw [st12 hr] at h ⊢; exact two_mono hP h
    · rw [st13 hr] at h ⊢; exact two_mono hP h
    · rw [st14 hr] at h ⊢; exact two_mono hP h
    · have hl := (right_list hr).2.2
      match ps, hl, h, hr with
      | a :: b :: ps, _, h, hr =>
        obtain ⟨xa, y, ha, hy, rfl⟩ := in_inv h hr
        rw [st15 hr]
        unfold inW
        rw [hP 5 a xa ha, parts_mono hP (b :: ps) y hy]; rfl
  · rw [← st_leaf (cond := cond) (d := d) hk hr]; exact h
end
/-- it can be written in n bytes, whatever the fuel -/
def Pr (d j n : Nat) (c : CT) : Prop := ∃ x, (∀ f, c.size ≤ f → partW (condW f) d j c = some x) ∧ (textP x).length ≤ n
def PrL (d j : Nat) (sep : List Piece) (n : Nat) (ps : List CT) : Prop := ∃ x, (∀ f, sizeLc ps ≤ f → partsW (condW f) d j sep ps = some x) ∧ (textP x).length ≤ n
theorem size_eq (k n : Int) (s : List UInt8) (ps : List CT) : (CT.node k n s ps).size = 1 + sizeLc ps := by rw [CT.size]
theorem sizeL_cons (c : CT) (l : List CT) : sizeLc (c :: l) = c.size + sizeLc l := by rw [sizeLc]
theorem sizeL_nil : sizeLc [] = 0 := by rw [sizeLc]
theorem size_pos (c : CT) : 1 ≤ c.size := by obtain ⟨k, n, s, ps⟩ := c; rw [size_eq]; omega
/-- from what its own level writes -/
theorem Pr.mk' {d j n : Nat} {c : CT} {x : List Piece} (hr : j ≤ rankC c) (h : ∀ f, c.size ≤ f + 1 → stepW (condW f) d c = some x) (hn : (textP x).length ≤ n) : Pr d j n c := by
  refine ⟨x, fun f hf => ?_, hn⟩
  unfold partW
  rw [if_pos hr]
  have := size_pos c
  obtain ⟨f, rfl⟩ : ∃ q, f = q + 1 := ⟨f - 1, by omega⟩
  exact h f hf
end Go.Proofs.YtdfgbkilaepolaaGreatDoor
namespace Go.Proofs.YtdfgbkilaepolaaGreatDoor
theorem len_app (a b c : List Piece) : (textP (a ++ b ++ c)).length = (textP a).length + (textP b).length + (textP c).length := by
  rw [textP_app, textP_app, List.length_append, List.length_append]
theorem PrL.one {d j n : Nat} {sep : List Piece} {c : CT} (h : Pr d j n c) : PrL d j sep n [c] := by
  obtain ⟨x, h1, h2⟩ := h
  exact ⟨x, fun f hf => h1 f (by rw [sizeL_cons, sizeL_nil] at hf; omega), h2⟩
theorem PrL.cons {d j n n2 : Nat} {sep : List Piece} {c : CT} {ps : List CT} (h : Pr d j n c) (h2 : PrL d j sep n2 ps) (hne : ps ≠ []) : PrL d j sep (n + (textP sep).length + n2) (c :: ps) := by
  obtain ⟨x, a1, a2⟩ := h
  obtain ⟨y, b1, b2⟩ := h2
  match ps, hne, b1 with
  | c2 :: ps, _, b1 =>
    refine ⟨x ++ sep ++ y, fun f hf => ?_, by rw [len_app]; omega⟩
    rw [sizeL_cons] at hf
    show (match partW (condW f) d j c with | none => none | some x => (partsW (condW f) d j sep (c2 :: ps)).map fun y => x ++ sep ++ y) = _
    rw [a1 f (by omega), b1 f (by omega)]; rfl
theorem sizeL_app : ∀ a b : List CT, sizeLc (a ++ b) = sizeLc a + sizeLc b
  | [], b => by rw [List.nil_append, sizeL_nil]; omega
  | c :: a, b => by rw [List.cons_append, sizeL_cons, sizeL_cons, sizeL_app a b]; omega
theorem sizeL2 (a b : CT) : sizeLc [a, b] = a.size + b.size := by rw [sizeL_cons, sizeL_cons, sizeL_nil]; omega
theorem parts_mk {cond : Wr} {d l1 : Nat} {sep : List Piece} {a b : CT} {x y : List Piece} (ha : partW cond d l1 a = some x) (hb : partW cond d l1 b = some y) : partsW cond d l1 sep [a, b] = some (x ++ sep ++ y) := by
  show (match partW cond d l1 a with | none => none | some x => (partW cond d l1 b).map fun y => x ++ sep ++ y) = _
  rw [ha, hb]; rfl
section
variable {d n n2 : Nat} {a b : CT}
theorem Pr.row7 {ps : List CT} (h : PrL d 3 (spc (wd andL)) n ps) (h2 : 2 ≤ ps.length) (hk : ∀ p ∈ ps, p.kind ≠ 7) : Pr d 2 n (.node 7 0 [] ps) := by
  obtain ⟨x, a1, a2⟩ := h
  refine Pr.mk' (x := x) (Nat.le_refl _) (fun f hf => ?_) a2
  rw [size_eq] at hf
  have hr : rightC (.node 7 0 [] ps) = true := by
    show (decide (2 ≤ ps.length) && ((0 : Int) == 0 && ([] : List UInt8).isEmpty) && !ps.any fun p => p.kind == 7) = true
    simp only [Bool.and_eq_true, decide_eq_true_eq, Bool.not_eq_true', List.any_eq_false, beq_iff_eq]
    exact ⟨⟨h2, trivial, rfl⟩, hk⟩
  rw [st7 hr]
  exact a1 f (by omega)
theorem Pr.row8 {ps : List CT} (h : PrL d 2 (spc (wd orL)) n ps) (h2 : 2 ≤ ps.length) (hk : ∀ p ∈ ps, p.kind ≠ 8) : Pr d 1 n (.node 8 0 [] ps) := by
  obtain ⟨x, a1, a2⟩ := h
  refine Pr.mk' (x := x) (Nat.le_refl _) (fun f hf => ?_) a2
  rw [size_eq] at hf
  have hr : rightC (.node 8 0 [] ps) = true := by
    show (decide (2 ≤ ps.length) && ((0 : Int) == 0 && ([] : List UInt8).isEmpty) && !ps.any fun p => p.kind == 8) = true
    simp only [Bool.and_eq_true, decide_eq_true_eq, Bool.not_eq_true', List.any_eq_false, beq_iff_eq]
    exact ⟨⟨h2, trivial, rfl⟩, hk⟩
  rw [st8 hr]
  exact a1 f (by omega)
end
/-- more fuel -/
theorem part_more {cond cond' : Wr} (h : ∀ d c x, cond d c = some x → cond' d c = some x) : ∀ d least c x, partW cond d least c = some x → partW cond' d least c = some x := by
  intro d least c x hp
  unfold partW at hp ⊢
  split
  · rename_i hr; rw [if_pos hr] at hp; exact h d c x hp
  · rename_i hr
    rw [if_neg hr] at hp
    cases d with
    | zero => cases hp
    | succ d =>
      obtain ⟨y, hy, rfl⟩ := Option.map_eq_some_iff.1 hp
      show Option.map _ (cond' d c) = _
      rw [h d c y hy]; rfl
theorem cond_fuel1 : ∀ f d c x, condW f d c = some x → condW (f + 1) d c = some x
  | 0, _, _, _, h => by cases h
  | f + 1, d, c, x, h => step_mono (cond := condW f) (cond' := condW (f + 1)) (d := d) (d' := d) (part_more (cond_fuel1 f) d) h
theorem part_fuel {f g d j : Nat} {c : CT} {x : List Piece} (hg : f ≤ g) (h : partW (condW f) d j c = some x) : partW (condW g) d j c = some x := by
  induction hg with
  | refl => exact h
  | step _ ih => exact part_more (cond_fuel1 _) d j c x ih
/-- the parts of a comparison that is written -/
theorem eq_parts {d n : Nat} {s : List UInt8} {m : Int} {ps : List CT} (h : Pr d 3 n (.node 9 m s ps)) : m = 0 ∧ s = [] ∧ ∃ a b, ps = [a, b] ∧ ∃ x y, (∀ f, a.size + b.size ≤ f → partW (condW f) d 5 a = some x ∧ partW (condW f) d 5 b = some y) ∧ (textP x).length + 3 + (textP y).length ≤ n := by
  obtain ⟨z, h1, h2⟩ := h
  have h3 : ∀ f, sizeLc ps ≤ f → stepW (condW f) d (.node 9 m s ps) = some z := by
    intro f hf
    have := h1 (f + 1) (by rw [size_eq]; omega)
    unfold partW at this
    rwa [if_pos (show 3 ≤ rankC (.node 9 m s ps) from (by decide : 3 ≤ 4))] at this
  have hr := right_of (h3 _ (Nat.le_refl _))
  obtain ⟨rfl, rfl, hlen⟩ := right_two hr (by decide)
  have h4 := h3 _ (Nat.le_refl _)
  rw [st9 hr] at h4
  obtain ⟨a, b, xa, xb, rfl, ha, hb, rfl⟩ := parts2_inv hlen h4
  refine ⟨rfl, rfl, a, b, rfl, xa, xb, fun f hf => ?_, ?_⟩
  · exact ⟨part_fuel hf (by rw [← sizeL2]; exact ha), part_fuel hf (by rw [← sizeL2]; exact hb)⟩
  · rw [len_app] at h2
    have e : (textP (spc (mk [61]))).length = 3 := rfl
    omega
/-- a not -/
theorem Pr.not {d n : Nat} {c : CT} (h : Pr d 3 n c) : Pr d 3 (n + 4) (notC c) := by
  obtain ⟨k, m, s, ps⟩ := c
  by_cases hk : k = 9
  · subst hk
    obtain ⟨rfl, rfl, a, b, rfl, x, y, hx, hn⟩ := eq_parts h
    refine Pr.mk' (x := x ++ spc (mk [33, 61]) ++ y) (show 3 ≤ 4 by decide) (fun f hf => ?_) ?_
    · unfold notC at hf ⊢
      rw [size_eq, sizeL_cons, sizeL_nil, size_eq, sizeL2] at hf
      rw [st6u rfl rfl]
      exact parts_mk (hx f (by omega)).1 (hx f (by omega)).2
    · rw [len_app]
      have e : (textP (spc (mk [33, 61]))).length = 4 := rfl
      omega
  · obtain ⟨x, h1, h2⟩ := h
    have hrk : rankC (notC (.node k m s ps)) = 3 := by
      show (if k = 9 then 4 else 3) = 3
      rw [if_neg hk]
    have hu : unlikeC (notC (.node k m s ps)) = false := by
      show (((6 : Int) == 6) && (k == 9 && decide (ps.length = 2) && (m == 0 && s.isEmpty))) = false
      rw [show (k == 9) = false from beq_false_of_ne hk]; rfl
    refine Pr.mk' (x := wd notL :: none :: x) (by rw [hrk]; omega) (fun f hf => ?_) ?_
    · unfold notC at hf hu ⊢
      rw [size_eq, sizeL_cons, sizeL_nil] at hf
      rw [st6 rfl hu]
      show Option.map _ (partW (condW f) d 3 (.node k m s ps)) = _
      rw [h1 f (by omega)]; rfl
    · have e : textP (wd notL :: none :: x) = [110, 111, 116, 32] ++ textP x := rfl
      rw [e, List.length_append]
      have e2 : ([110, 111, 116, 32] : List UInt8).length = 4 := rfl
      omega
end Go.Proofs.YtdfgbkilaepolaaGreatDoor
namespace Go.Proofs.YtdfgbkilaepolaaGreatDoor
def wt (t : Tok) : Nat := (pieceT (some t.key)).length
def W : Toks → Nat
  | [] => 0
  | t :: r => wt t + W r
def tokWF (t : Tok) : Prop := (t.sort = 4 → t.text ≠ [] ∧ t.text.all isDig = true) ∧ (t.sort = 5 → t.text.all isQuo = true)
def WF : Toks → Prop
  | [] => True
  | t :: r => tokWF t ∧ (t.dig = true → ∃ t2 r2, r = t2 :: r2 ∧ t2.sort = 4) ∧ WF r
def CL (d j : Nat) (G : Toks → Res) : Prop := ∀ l c m, WF l → G l = .ok (c, m) → WF m ∧ ∃ k, k + W m = W l ∧ Pr d j (3 * k) c
theorem wt_text {t : Tok} (h : t.sort ≠ 5) : wt t = t.text.length := by
  show (if t.sort = 5 then 39 :: t.text ++ [39] else t.text).length = _
  rw [if_neg h]
theorem wt_quo {t : Tok} (h : t.sort = 5) : wt t = t.text.length + 2 := by
  show (if t.sort = 5 then 39 :: t.text ++ [39] else t.text).length = _
  rw [if_pos h]; simp
theorem num_inv {t : List UInt8} {least n : Nat} (h : numG t least = some n) : least ≤ n ∧ n ≤ mostN ∧ n = decVal t := by
  unfold numG at h
  split at h
  · rename_i hh
    obtain rfl := Option.some.inj h
    exact ⟨hh.1, hh.2.1, rfl⟩
  · cases h
section
variable {d : Nat}
end
end Go.Proofs.YtdfgbkilaepolaaGreatDoor
namespace Go.Proofs.YtdfgbkilaepolaaGreatDoor
section
variable {d : Nat}
end
/-- the tokens of a text -/
theorem span_le (p : UInt8 → Bool) : ∀ t : List UInt8, spanN p t ≤ t.length := fun t => by
  unfold spanN; exact (List.takeWhile_prefix p).length_le
theorem take_span (p : UInt8 → Bool) (t : List UInt8) : t.take (spanN p t) = t.takeWhile p := by
  unfold spanN
  exact (List.prefix_iff_eq_take.1 (List.takeWhile_prefix p)).symm
theorem all_span (p : UInt8 → Bool) (t : List UInt8) : (t.take (spanN p t)).all p = true := by
  rw [take_span]; exact List.all_takeWhile
/-- a token takes no more than there is, and no less than it weighs -/
theorem tokH_facts (t : List UInt8) : (tokH t).2.2 ≤ t.length ∧ (if (tokH t).1 = 5 then (tokH t).2.1.length + 2 else (tokH t).2.1.length) ≤ (tokH t).2.2 ∧ ((tokH t).1 = 4 → (tokH t).2.1 ≠ [] ∧ (tokH t).2.1.all isDig = true) ∧ ((tokH t).1 = 5 → (tokH t).2.1.all isQuo = true) ∧ (2 ≤ (tokH t).1 → 1 ≤ (tokH t).2.2) := by
  cases t with
  | nil => refine ⟨?_, ?_, ?_, ?_, ?_⟩ <;> decide
  | cons c r =>
    unfold tokH
    simp only
    by_cases h1 : isDig c = true
    · rw [if_pos h1]
      have hs : 1 ≤ spanN isDig (c :: r) := by unfold spanN; rw [List.takeWhile_cons, h1]; simp
      refine ⟨span_le _ _, ?_, fun _ => ⟨?_, all_span _ _⟩, fun e => (by cases e), fun _ => hs⟩
      · exact List.length_take_le _ _
      · intro e
        have := congrArg List.length e
        rw [List.length_take] at this
        simp at this
        omega
    rw [if_neg h1]
    by_cases h2 : isLet c = true
    · rw [if_pos h2]
      have hs : 1 ≤ spanN isWrd (c :: r) := by unfold spanN; rw [List.takeWhile_cons, show isWrd c = true by simp [isWrd, h2]]; simp
      refine ⟨span_le _ _, ?_, fun e => (by cases e), fun e => (by cases e), fun _ => hs⟩
      exact List.length_take_le _ _
    rw [if_neg h2]
    by_cases h3 : (c == 39) = true
    · rw [if_pos h3]
      by_cases h4 : r[spanN isQuo r]? = some 39
      · rw [if_pos h4]
        have hl : spanN isQuo r < r.length := (List.getElem?_eq_some_iff.1 h4).1
        refine ⟨by simp; omega, ?_, fun e => (by cases e), fun _ => all_span _ _, fun _ => by simp⟩
        exact Nat.add_le_add_right (List.length_take_le _ _) 2
      · rw [if_neg h4]
        refine ⟨by simp, by simp, fun e => (by cases e), fun e => (by cases e), fun _ => by simp⟩
    rw [if_neg h3]
    by_cases h5 : two (c :: r) = true
    · rw [if_pos h5]
      have hl : 2 ≤ (c :: r).length := by
        cases r with
        | nil => simp [two] at h5
        | cons b r => simp
      refine ⟨hl, ?_, fun e => (by cases e), fun e => (by cases e), fun _ => by simp⟩
      exact List.length_take_le _ _
    rw [if_neg h5]
    by_cases h6 : marks1.contains c = true
    · rw [if_pos h6]
      refine ⟨by simp, by simp, fun e => (by cases e), fun e => (by cases e), fun _ => by simp⟩
    · rw [if_neg h6]
      refine ⟨by simp, by simp, fun e => (by cases e), fun e => (by cases e), fun _ => by simp⟩
theorem tokN_le (t : List UInt8) : tokN t ≤ t.length := by
  unfold tokN
  have h1 := (tokH_facts (t.drop (blankN t))).1
  have h2 : blankN t ≤ t.length := span_le _ _
  rw [List.length_drop] at h1
  omega
theorem wt_tok (p : Nat) (t : List UInt8) : wt (tokAt p t) ≤ tokN t := by
  have h := (tokH_facts (t.drop (blankN t))).2.1
  unfold tokN
  by_cases h5 : (tokH (t.drop (blankN t))).1 = 5
  · rw [wt_quo (show (tokAt p t).sort = 5 from h5)]
    rw [if_pos h5] at h
    show (tokH (t.drop (blankN t))).2.1.length + 2 ≤ _
    omega
  · rw [wt_text (show (tokAt p t).sort ≠ 5 from h5)]
    rw [if_neg h5] at h
    show (tokH (t.drop (blankN t))).2.1.length ≤ _
    omega
theorem dig_next {p : Nat} {t : List UInt8} (h : digAt t = true) : (tokAt p t).sort = 4 := by
  cases t with
  | nil => cases h
  | cons c r =>
    have hc : isDig c = true := h
    have h32 : (c == 32) = false := by
      cases he : c == 32
      · rfl
      · rw [beq_iff_eq] at he; subst he; exact absurd hc (by decide)
    have hb : blankN (c :: r) = 0 := by
      unfold blankN spanN; rw [List.takeWhile_cons, h32]; rfl
    show (tokH ((c :: r).drop (blankN (c :: r)))).1 = 4
    rw [hb]
    show (tokH (c :: r)).1 = 4
    unfold tokH
    simp only
    rw [if_pos hc]
theorem lexF_facts : ∀ f p (t : List UInt8), t.length < f → WF (lexF f p t) ∧ W (lexF f p t) ≤ t.length
  | 0, _, _, h => by omega
  | f + 1, p, t, h => by
    have hN := tokN_le t
    have hF := tokH_facts (t.drop (blankN t))
    have hwt := wt_tok p t
    show WF (tokAt p t :: if (tokAt p t).sort ≤ 1 then [] else lexF f (p + tokN t) (t.drop (tokN t))) ∧ W (tokAt p t :: if (tokAt p t).sort ≤ 1 then [] else lexF f (p + tokN t) (t.drop (tokN t))) ≤ _
    by_cases h1 : (tokAt p t).sort ≤ 1
    · rw [if_pos h1]
      refine ⟨⟨⟨hF.2.2.1, hF.2.2.2.1⟩, fun hd => ?_, trivial⟩, ?_⟩
      · exfalso
        have : ((tokAt p t).sort == 2 && ((tokH (t.drop (blankN t))).2.1 == minusL) && digAt ((t.drop (blankN t)).drop (tokH (t.drop (blankN t))).2.2)) = true := hd
        simp only [Bool.and_eq_true, beq_iff_eq] at this
        omega
      · show wt (tokAt p t) + 0 ≤ _
        omega
    · rw [if_neg h1]
      have hpos : 1 ≤ tokN t := by
        have := hF.2.2.2.2 (show 2 ≤ (tokAt p t).sort by omega)
        unfold tokN; omega
      have hlen : (t.drop (tokN t)).length < f := by rw [List.length_drop]; omega
      obtain ⟨r1, r2⟩ := lexF_facts f (p + tokN t) (t.drop (tokN t)) hlen
      refine ⟨⟨⟨hF.2.2.1, hF.2.2.2.1⟩, fun hd => ?_, r1⟩, ?_⟩
      · have : ((tokAt p t).sort == 2 && ((tokH (t.drop (blankN t))).2.1 == minusL) && digAt ((t.drop (blankN t)).drop (tokH (t.drop (blankN t))).2.2)) = true := hd
        simp only [Bool.and_eq_true] at this
        have hd2 : digAt (t.drop (tokN t)) = true := by
          unfold tokN
          rw [← List.drop_drop]; exact this.2
        obtain ⟨f, rfl⟩ : ∃ q, f = q + 1 := ⟨f - 1, by omega⟩
        exact ⟨_, _, rfl, dig_next hd2⟩
      · show wt (tokAt p t) + W _ ≤ _
        rw [List.length_drop] at r2
        omega
end Go.Proofs.YtdfgbkilaepolaaGreatDoor
namespace Go.Proofs.YtdfgbkilaepolaaGreatDoor
/-- what the law does with a text: so many blanks more behind each blank that stands in no quotes -/
def widen (n : Nat) : Bool → List UInt8 → List UInt8
  | _, [] => []
  | q, c :: t => c :: ((if c = 32 ∧ (if c = 39 then !q else q) = false then List.replicate n 32 else []) ++ widen n (if c = 39 then !q else q) t)
/-- so many brackets within one another -/
def deepT : Nat → List UInt8
  | 0 => [97]
  | k + 1 => 40 :: deepT k ++ [41]
def isOk (r : Res) (c : CT) : Prop := ∃ t, r = .ok (c, [t]) ∧ t.sort = 1
end Go.Proofs.YtdfgbkilaepolaaGreatDoor
namespace Go.Proofs.YtdfgbkilaepolaaGreatDoor
def fix1 : List UInt8 := [97, 32, 61, 32, 49, 32, 111, 114, 32, 110, 111, 116, 32, 98]
def fixC : CT := .node 8 0 [] [pairC 9 (leaf 5 0 [97]) (leaf 3 1 []), notC (leaf 5 0 [98])]
end Go.Proofs.YtdfgbkilaepolaaGreatDoor
namespace Go.Proofs.YtdfgbkilaepolaaGreatDoor
open Go.RowKit
/-- a row that lies somewhere, and stays -/
def RowAt (w : World) (T : TypeId) (v : Value) (n : Nat) (xs : List Value) : Prop := (v = .slice none 0 0 ∧ n = 0) ∨ ∃ (g c : Nat) (cur : Array Value), v = .slice (some ⟨g, 0, none⟩) n c ∧ n ≤ c ∧ Blk w g T cur ∧ ∀ (i : Nat) (u : Value), xs[i]? = some u → cur[i]? = some u
section
variable {w w' : World} {T : TypeId} {v : Value} {n : Nat} {xs : List Value}
theorem RowAt.slice (h : RowAt w T v n xs) : ∃ p c, v = .slice p n c := by
  rcases h with ⟨rfl, rfl⟩ | ⟨g, c, cur, rfl, _⟩
  · exact ⟨_, _, rfl⟩
  · exact ⟨_, _, rfl⟩
theorem RowAt.keeps {S : Nat → Prop} (h : RowAt w T v n xs) (hk : Keeps S w w') (hs : ∀ g, v.ownBlock = some g → ¬ S g) : RowAt w' T v n xs := by
  rcases h with h | ⟨g, c, cur, rfl, hc, hl, h⟩
  · exact .inl h
  · exact .inr ⟨g, c, cur, rfl, hc, hl.keeps hk (hs g rfl), h⟩
theorem RowAt.later (h : RowAt w T v n xs) (hb : Below w.heap.size w w') : RowAt w' T v n xs := h.keeps (S := fun _ => False) (.of_below hb) (fun _ _ => id)
theorem RowAt.of_own {B size : Nat} (h : w.ownsRow B T size v n xs) : RowAt w T v n xs := by
  obtain ⟨_, ⟨rfl, h0⟩ | ⟨g, cap, cur, rfl, h1, h2, h3, h4, h5, h6⟩⟩ := h
  · exact .inl ⟨rfl, h0⟩
  · refine .inr ⟨g, cap, cur, rfl, h3, h2, fun i u hu => ?_⟩
    rw [← h6, List.getElem?_take] at hu
    split at hu
    · rw [← hu]; simp
    · cases hu
theorem RowAt.blk (h : RowAt w T v n xs) : ∀ g, v.ownBlock = some g → ∃ cur, Blk w g T cur := by
  rcases h with ⟨rfl, _⟩ | ⟨g, c, cur, rfl, _, hl, _⟩
  · intro g hg; cases hg
  · intro g' hg; obtain rfl := Option.some.inj hg; exact ⟨cur, hl⟩
theorem RowAt.lt (h : RowAt w T v n xs) : ∀ g, v.ownBlock = some g → g < w.heap.size := fun g hg => by obtain ⟨cur, hb⟩ := h.blk g hg; exact hb.lt
theorem RowAt.cell (h : RowAt w T v n xs) (hn : 0 < n) : ∃ g c, v = .slice (some ⟨g, 0, none⟩) n c ∧ n ≤ c ∧ g < w.heap.size ∧ ∀ i u, xs[i]? = some u → w.cell? ⟨g, i, none⟩ = some u := by
  rcases h with ⟨_, rfl⟩ | ⟨g, c, cur, rfl, hc, hl, h⟩
  · omega
  · exact ⟨g, c, rfl, hc, hl.lt, fun i u hu => by rw [hl.cell]; exact h i u hu⟩
end
theorem own_blk {w : World} {B size n : Nat} {T : TypeId} {v : Value} {xs : List Value} (h : w.ownsRow B T size v n xs) : ∀ g, v.ownBlock = some g → ∃ cur, Blk w g T cur := (RowAt.of_own h).blk
theorem addr_at (o j : Nat) : (⟨o, 0, none⟩ : Addr).add j = ⟨o, j, none⟩ := by
  unfold Addr.add
  split
  · rename_i h0; subst h0; rfl
  · simp
theorem own_slice {w : World} {B k m : Nat} {e : TypeId} {v : Value} {xs : List Value} (h : w.ownsRow B e k v m xs) : ∃ p c, v = .slice p m c := by
  obtain ⟨_, ⟨h, rfl⟩ | ⟨g, cap, cur, h, _⟩⟩ := h
  · exact ⟨_, _, h⟩
  · exact ⟨_, _, h⟩
/-- an append, kept shut -/
def dappOp (tys : Array TypeId) (ty : TypeId) (args : Array Value) : Sem Value := Builtin.append_ tys ty args
theorem dapp_op (tys : Array TypeId) (ty : TypeId) (args : Array Value) : Builtin.append_ tys ty args = dappOp tys ty args := rfl
end Go.Proofs.YtdfgbkilaepolaaGreatDoor
namespace Go.Proofs.YtdfgbkilaepolaaGreatDoor
open Go.RowKit
def strV (l : List UInt8) : Value := .string ⟨l.toArray⟩
/-- a condition's cells; each row of its tree lies in a block of P -/
inductive CAt (P : Nat → Prop) (w : World) : List Value → CT → Prop
  | mk {k n : Int} {s : List UInt8} {v : Value} {ps : List CT} {cs : List Value} (hrow : RowAt w 28 v ps.length cs) (hP : ∀ g, v.ownBlock = some g → P g) (hlen : cs.length = ps.length * 4) (hparts : ∀ (i : Nat) (p : CT), ps[i]? = some p → CAt P w ((cs.drop (i * 4)).take 4) p) : CAt P w [.int .i64 k, .int .i64 n, strV s, v] (.node k n s ps)
/-- the cells of several conditions -/
structure PartsAt (P : Nat → Prop) (w : World) (cs : List Value) (ps : List CT) : Prop where
  len : cs.length = ps.length * 4
  part : ∀ (i : Nat) (p : CT), ps[i]? = some p → CAt P w ((cs.drop (i * 4)).take 4) p
section
variable {P Q S : Nat → Prop} {w w' : World} {cs cs' : List Value} {r : CT} {ps ps' : List CT}
theorem CAt.mono (h : CAt P w cs r) (hP : ∀ j, P j → j < w.heap.size → Q j) : CAt Q w cs r := by
  induction h with
  | mk hrow hp hlen _ ih => exact .mk hrow (fun g hg => hP g (hp g hg) (hrow.lt g hg)) hlen fun i p hi => ih i p hi
theorem CAt.keeps (h : CAt P w cs r) (hk : Keeps S w w') (hs : ∀ j, P j → j < w.heap.size → ¬ S j) : CAt P w' cs r := by
  induction h with
  | mk hrow hp hlen _ ih => exact .mk (hrow.keeps hk fun g hg => hs g (hp g hg) (hrow.lt g hg)) hp hlen fun i p hi => ih i p hi
theorem CAt.later (h : CAt P w cs r) (hb : Below w.heap.size w w') : CAt P w' cs r := h.keeps (S := fun _ => False) (.of_below hb) fun _ _ _ => id
theorem PartsAt.nil : PartsAt P w [] [] := ⟨rfl, fun i p h => by simp at h⟩
theorem PartsAt.mono (h : PartsAt P w cs ps) (hP : ∀ j, P j → j < w.heap.size → Q j) : PartsAt Q w cs ps := ⟨h.len, fun i p hi => (h.part i p hi).mono hP⟩
theorem PartsAt.keeps (h : PartsAt P w cs ps) (hk : Keeps S w w') (hs : ∀ j, P j → j < w.heap.size → ¬ S j) : PartsAt P w' cs ps := ⟨h.len, fun i p hi => (h.part i p hi).keeps hk hs⟩
theorem PartsAt.later (h : PartsAt P w cs ps) (hb : Below w.heap.size w w') : PartsAt P w' cs ps := h.keeps (S := fun _ => False) (.of_below hb) fun _ _ _ => id
theorem PartsAt.app (h : PartsAt P w cs ps) (h' : PartsAt P w cs' ps') : PartsAt P w (cs ++ cs') (ps ++ ps') := by
  refine ⟨by rw [List.length_append, List.length_append, h.len, h'.len, Nat.add_mul], fun i p hi => ?_⟩
  by_cases hlt : i < ps.length
  · rw [List.getElem?_append_left hlt] at hi
    have h1 := h.part i p hi
    rw [List.drop_append_of_le_length (by rw [h.len]; omega), List.take_append_of_le_length (by rw [List.length_drop, h.len]; omega)]
    exact h1
  · rw [List.getElem?_append_right (by omega)] at hi
    have h1 := h'.part _ p hi
    have e : i * 4 = cs.length + (i - ps.length) * 4 := by rw [h.len, Nat.sub_mul]; omega
    rw [e, ← List.drop_drop, List.drop_left]
    exact h1
theorem CAt.len (h : CAt P w cs r) : cs.length = 4 := by cases h; rfl
theorem CAt.one (h : CAt P w cs r) : PartsAt P w cs [r] := by
  refine ⟨by rw [h.len]; rfl, fun i p hi => ?_⟩
  match i, hi with
  | 0, hi =>
    obtain rfl := Option.some.inj hi
    rw [Nat.zero_mul, List.drop_zero, List.take_of_length_le (by rw [h.len]; exact Nat.le_refl _)]
    exact h
theorem CAt.parts_ {k : Value} {a b v : Value} (h : CAt P w [k, a, b, v] r) : ∃ cs, RowAt w 28 v r.parts.length cs ∧ (∀ g, v.ownBlock = some g → P g) ∧ PartsAt P w cs r.parts ∧ k = .int .i64 r.kind := by
  cases h with
  | mk hrow hP hlen hparts => exact ⟨_, hrow, hP, ⟨hlen, hparts⟩, rfl⟩
theorem CAt.form {P : Nat → Prop} {w : World} {cs : List Value} {r : CT} (h : CAt P w cs r) : ∃ (p : Option Addr) (n c : Nat), cs = [.int .i64 r.kind, .int .i64 r.num, strV r.str, .slice p n c] ∧ n = r.parts.length := by
  cases h with
  | mk hrow _ _ _ =>
    obtain ⟨p, c, rfl⟩ := hrow.slice
    exact ⟨_, _, _, rfl, rfl⟩
theorem CAt.leaf (P : Nat → Prop) (w : World) (k n : Int) (s : List UInt8) : CAt P w [.int .i64 k, .int .i64 n, strV s, .slice none 0 0] (.node k n s []) :=
  .mk (.inl ⟨rfl, rfl⟩) (fun g hg => by simp [Value.ownBlock] at hg) (cs := []) rfl fun i p h => by simp at h
end
end Go.Proofs.YtdfgbkilaepolaaGreatDoor
namespace Go.Proofs.YtdfgbkilaepolaaGreatDoor
/-- a value: its kind, its number, its text -/
structure Vl where
  kind : Int
  n : Int
  s : List UInt8
deriving DecidableEq
def flagV (b : Bool) : Vl := ⟨1, if b then 1 else 0, []⟩
/-- the names of a condition, in the order in which they come -/
def namesC : CT → List (List UInt8)
  | .node k _ s ps => (if k = 5 then [s] else []) ++ namesL ps
where namesL : List CT → List (List UInt8)
  | [] => []
  | p :: ps => namesC p ++ namesL ps
/-- the kind that all have -/
def togI : List Int → Int
  | [] => 0
  | k :: l => if l.all (fun j => decide (j = k)) then k else 0
/-- what a kind of condition takes, and what it tells -/
def takesK (kind k : Int) : Bool :=
  if kind = 6 ∨ kind = 7 ∨ kind = 8 then decide (k = 1) else if kind = 9 ∨ kind = 15 then true else if kind = 10 ∨ kind = 11 then !decide (k = 1) else decide (k = 2)
def tellsK (kind : Int) : Int := if 12 ≤ kind ∧ kind ≤ 14 then 2 else 1
def ofK (kind t : Int) : Int := if 0 < t ∧ takesK kind t = true then (if kind = 6 ∨ kind = 7 ∨ kind = 8 ∨ kind = 9 ∨ kind = 15 ∨ kind = 10 ∨ kind = 11 then 1 else 2) else 0
def kindC (K : List UInt8 → Int) : CT → Int
  | .node k _ s ps => if k = 1 ∨ k = 2 then 1 else if k = 3 then 2 else if k = 4 then 3 else if k = 5 then K s else ofK k (togI (kindL K ps))
where kindL (K : List UInt8 → Int) : List CT → List Int
  | [] => []
  | p :: ps => kindC K p :: kindL K ps
/-- the values of parts, one behind the other, till one is of a truth -/
def firstV (till : Bool) : List (Option Vl) → Option Vl
  | [] => some (flagV (!till))
  | none :: _ => none
  | some v :: l => if v = flagV till then some v else firstV till l
def amongR (v : Vl) : List (Option Vl) → Option Vl
  | [] => some (flagV false)
  | none :: _ => none
  | some w :: l => if w = v then some (flagV true) else amongR v l
def amongV : List (Option Vl) → Option Vl
  | [] => none
  | none :: _ => none
  | some v :: l => amongR v l
def mostI : Int := 1000000000000000
/-- a sum, a difference or a product that is not too great -/
def reckonI (k a b : Int) : Option Int :=
  let n := if k = 13 then a - b else if k = 14 then a * b else a + b
  if -mostI ≤ n ∧ n ≤ mostI then some n else none
/-- two values against each other -/
def orderV (a b : Vl) : Int := if a.n < b.n then -1 else if b.n < a.n then 1 else Lib.compareBytes a.s b.s
def bothV (k : Int) (x y : Vl) : Option Vl :=
  if k = 9 then some (flagV (decide (x = y))) else if k = 10 then some (flagV (decide (orderV x y < 0))) else if k = 11 then some (flagV (decide (orderV x y ≤ 0))) else (reckonI k x.n y.n).map fun n => ⟨2, n, []⟩
def pairV (k : Int) : List (Option Vl) → Option Vl
  | some x :: some y :: _ => bothV k x y
  | _ => none
def stepV (B : List UInt8 → Vl) (k n : Int) (s : List UInt8) (vs : List (Option Vl)) : Option Vl :=
  if k = 1 ∨ k = 2 then some (flagV (decide (k = 1))) else if k = 3 then some ⟨2, n, []⟩ else if k = 4 then some ⟨3, 0, s⟩ else if k = 5 then some (B s)
  else if k = 7 then firstV false vs else if k = 8 then firstV true vs else if k = 15 then amongV vs
  else if k = 6 then (match vs with | some v :: _ => some (flagV (decide (v.n = 0))) | _ => none)
  else pairV k vs
def valueC (B : List UInt8 → Vl) : CT → Option Vl
  | .node k n s ps => stepV B k n s (valueL B ps)
where valueL (B : List UInt8 → Vl) : List CT → List (Option Vl)
  | [] => []
  | p :: ps => valueC B p :: valueL B ps
/-- does a value fit a kind? -/
def fitsV (k : Int) (v : Vl) : Bool :=
  decide (v.kind = k) && (if k = 3 then decide (v.n = 0) && decide (v.s.length ≤ 256) else if k = 1 then v.s.isEmpty && (decide (v.n = 0) || decide (v.n = 1)) else v.s.isEmpty && decide (-mostI ≤ v.n) && decide (v.n ≤ mostI))
theorem kindL_map (K : List UInt8 → Int) : ∀ ps : List CT, kindC.kindL K ps = ps.map (kindC K)
  | [] => rfl
  | p :: ps => by unfold kindC.kindL; rw [kindL_map K ps]; rfl
theorem valueL_map (B : List UInt8 → Vl) : ∀ ps : List CT, valueC.valueL B ps = ps.map (valueC B)
  | [] => rfl
  | p :: ps => by unfold valueC.valueL; rw [valueL_map B ps]; rfl
theorem namesL_map : ∀ ps : List CT, namesC.namesL ps = ps.flatMap namesC
  | [] => rfl
  | p :: ps => by unfold namesC.namesL; rw [namesL_map ps]; rfl
theorem kindC_eq (K : List UInt8 → Int) (r : CT) : kindC K r = if r.kind = 1 ∨ r.kind = 2 then 1 else if r.kind = 3 then 2 else if r.kind = 4 then 3 else if r.kind = 5 then K r.str else ofK r.kind (togI (r.parts.map (kindC K))) := by
  cases r; unfold kindC; rw [kindL_map]; rfl
theorem valueC_eq (B : List UInt8 → Vl) (r : CT) : valueC B r = stepV B r.kind r.num r.str (r.parts.map (valueC B)) := by
  cases r; unfold valueC; rw [valueL_map]; rfl
theorem namesC_eq (r : CT) : namesC r = (if r.kind = 5 then [r.str] else []) ++ r.parts.flatMap namesC := by
  cases r; unfold namesC; rw [namesL_map]; rfl
end Go.Proofs.YtdfgbkilaepolaaGreatDoor
namespace Go.Proofs.YtdfgbkilaepolaaGreatDoor
open Go.RowKit Go.Maps
/-- what a map holds behind these stores, one behind the other -/
noncomputable def mapf (l : List (Value × Value)) : Value → Option Value := l.foldl (fun f x => putV f x.1 x.2) (fun _ => none)
theorem mapf_snoc (l : List (Value × Value)) (x : Value × Value) : mapf (l ++ [x]) = putV (mapf l) x.1 x.2 := by
  unfold mapf; rw [List.foldl_append]; rfl
theorem foldl_none {kv : Value} : ∀ (l : List (Value × Value)) (f : Value → Option Value), (∀ x ∈ l, x.1 ≠ kv) → l.foldl (fun f x => putV f x.1 x.2) f kv = f kv
  | [], _, _ => rfl
  | x :: l, f, h => by
    rw [List.foldl_cons, foldl_none l _ fun y hy => h y (List.mem_cons_of_mem _ hy)]
    exact putV_other fun e => h x List.mem_cons_self e.symm
theorem mapf_none {l : List (Value × Value)} {kv : Value} (h : ∀ x ∈ l, x.1 ≠ kv) : mapf l kv = none := foldl_none l _ h
theorem foldl_some {kv v : Value} : ∀ (l : List (Value × Value)) (f : Value → Option Value), l.foldl (fun f x => putV f x.1 x.2) f kv = some v → f kv = some v ∨ (kv, v) ∈ l
  | [], _, h => .inl h
  | x :: l, f, h => by
    rw [List.foldl_cons] at h
    rcases foldl_some l _ h with h | h
    · by_cases e : kv = x.1
      · subst e
        rw [putV_same] at h
        obtain rfl := Option.some.inj h
        exact .inr List.mem_cons_self
      · rw [putV_other e] at h; exact .inl h
    · exact .inr (List.mem_cons_of_mem _ h)
theorem mapf_some {l : List (Value × Value)} {kv v : Value} (h : mapf l kv = some v) : (kv, v) ∈ l := by
  rcases foldl_some l _ h with h | h
  · cases h
  · exact h
theorem foldl_is {kv : Value} : ∀ (l : List (Value × Value)) (f : Value → Option Value), ((f kv).isSome = true ∨ ∃ x ∈ l, x.1 = kv) → (l.foldl (fun f x => putV f x.1 x.2) f kv).isSome = true
  | [], f, h => by
    rcases h with h | ⟨x, hx, _⟩
    · exact h
    · cases hx
  | x :: l, f, h => by
    rw [List.foldl_cons]
    refine foldl_is l _ ?_
    by_cases e : kv = x.1
    · left; subst e; rw [putV_same]; rfl
    · rw [putV_other e]
      rcases h with h | ⟨y, hy, e2⟩
      · exact .inl h
      · rcases List.mem_cons.1 hy with rfl | hy
        · exact absurd e2.symm e
        · exact .inr ⟨y, hy, e2⟩
theorem mapf_is {l : List (Value × Value)} {kv : Value} : (mapf l kv).isSome = true ↔ ∃ x ∈ l, x.1 = kv := by
  constructor
  · intro h
    cases hm : mapf l kv with
    | none => rw [hm] at h; cases h
    | some v => exact ⟨_, mapf_some hm, rfl⟩
  · intro h
    exact foldl_is l _ (.inr h)
theorem strKeyed : Keyed Tryz.prog 9 := string_keyed Tryz.underlying9
theorem strKey {s : ByteArray} (hs : s.size ≤ maxLen) : keyOf Tryz.prog 9 (.string s) = some (.string s.data.toList) := WideMaps.keyOf_string_mk Tryz.underlying9 hs
theorem zeroInt (u : World) : (zeroValue 3).run Tryz.prog u = .ok (.int .i64 0) u := Tryz.zeroValue3 u
theorem zeroVal (u : World) : (zeroValue 33).run Tryz.prog u = .ok (.agg #[.int .i64 0, .int .i64 0, .string ⟨#[]⟩]) u := Tryz.zeroValue33 u
/-- a parameter: its name, its kind -/
abbrev Par := ByteArray × Int
/-- parameters that lie somewhere -/
structure ParAt (w : World) (g o : Nat) (ps : List Par) : Prop where
  lt : g < w.heap.size
  name : ∀ k x, ps[k]? = some x → w.cell? ⟨g, o + k * 2, none⟩ = some (.string x.1)
  kind : ∀ k x, ps[k]? = some x → w.cell? ⟨g, o + k * 2 + 1, none⟩ = some (.int .i64 x.2)
theorem ParAt.later {w w' : World} {g o : Nat} {ps : List Par} (h : ParAt w g o ps) (hb : Below w.heap.size w w') : ParAt w' g o ps :=
  ⟨Nat.lt_of_lt_of_le h.lt hb.size, fun k x hx => by rw [hb.cell (p := ⟨g, _, none⟩) h.lt]; exact h.name k x hx, fun k x hx => by rw [hb.cell (p := ⟨g, _, none⟩) h.lt]; exact h.kind k x hx⟩
/-- a value's cells -/
def Vl.cells (v : Vl) : List Value := [.int .i64 v.kind, .int .i64 v.n, strV v.s]
def Vl.val (v : Vl) : Value := .agg #[.int .i64 v.kind, .int .i64 v.n, strV v.s]
/-- an argument: its name, its value -/
abbrev Ag := ByteArray × Vl
structure AgAt (w : World) (g o : Nat) (ags : List Ag) : Prop where
  lt : g < w.heap.size
  name : ∀ k x, ags[k]? = some x → w.cell? ⟨g, o + k * 4, none⟩ = some (.string x.1)
  kind : ∀ k x, ags[k]? = some x → w.cell? ⟨g, o + k * 4 + 1, none⟩ = some (.int .i64 x.2.kind)
  num : ∀ k x, ags[k]? = some x → w.cell? ⟨g, o + k * 4 + 2, none⟩ = some (.int .i64 x.2.n)
  str : ∀ k x, ags[k]? = some x → w.cell? ⟨g, o + k * 4 + 3, none⟩ = some (strV x.2.s)
theorem AgAt.later {w w' : World} {g o : Nat} {ags : List Ag} (h : AgAt w g o ags) (hb : Below w.heap.size w w') : AgAt w' g o ags :=
  ⟨Nat.lt_of_lt_of_le h.lt hb.size, fun k x hx => by rw [hb.cell (p := ⟨g, _, none⟩) h.lt]; exact h.name k x hx, fun k x hx => by rw [hb.cell (p := ⟨g, _, none⟩) h.lt]; exact h.kind k x hx,
    fun k x hx => by rw [hb.cell (p := ⟨g, _, none⟩) h.lt]; exact h.num k x hx, fun k x hx => by rw [hb.cell (p := ⟨g, _, none⟩) h.lt]; exact h.str k x hx⟩
/-- may it be a name? -/
def isNm (s : List UInt8) : Bool := decide ((parseC s).2.2 = 0) && decide ((parseC s).1.kind = 5) && decide ((parseC s).1.str = s)
/-- parameters that may be -/
structure ParsOk (ps : List Par) : Prop where
  nm : ∀ x ∈ ps, isNm x.1.data.toList = true
  kd : ∀ x ∈ ps, 1 ≤ x.2 ∧ x.2 ≤ 3
  len : ps.length ≤ 1000
  sz : ∀ x ∈ ps, x.1.size ≤ 1000
  nd : (ps.map (·.1)).Nodup
def parL : List Par := [(⟨#[97]⟩, 2), (⟨#[98]⟩, 2), (⟨#[115]⟩, 3), (⟨#[102]⟩, 1)]
theorem parL_ok : ParsOk parL where
  nm := by decide +kernel
  kd := by decide
  len := by decide
  sz := by decide
  nd := by decide
/-- the kinds of names -/
def kindOf (ps : List Par) (s : List UInt8) : Int := (ps.find? fun x => decide (x.1.data.toList = s)).elim 0 (·.2)
theorem data_eq {a b : ByteArray} (h : a.data.toList = b.data.toList) : a = b := by
  apply ByteArray.ext
  exact Array.toList_inj.1 h
/-- what the map of names and kinds tells -/
theorem mapf_kind {ps : List Par} (hnd : (ps.map (·.1)).Nodup) (s : ByteArray) : (mapf (ps.map fun x => (.string x.1, .int .i64 x.2)) (.string s)).getD (.int .i64 0) = .int .i64 (kindOf ps s.data.toList) := by
  cases hm : mapf (ps.map fun x => (Value.string x.1, Value.int .i64 x.2)) (.string s) with
  | none =>
    have hn : ps.find? (fun x => decide (x.1.data.toList = s.data.toList)) = none := by
      rw [List.find?_eq_none]
      intro x hx hd
      have e := data_eq (of_decide_eq_true hd)
      have h1 : (mapf (ps.map fun x => (Value.string x.1, Value.int .i64 x.2)) (.string s)).isSome = true := mapf_is.2 ⟨_, List.mem_map.2 ⟨x, hx, rfl⟩, by rw [e]⟩
      rw [hm] at h1; cases h1
    unfold kindOf; rw [hn]; rfl
  | some v =>
    obtain ⟨x, hx, e⟩ := List.mem_map.1 (mapf_some hm)
    injection e with e1 e2
    injection e1 with e1
    subst e1 e2
    have hf : ps.find? (fun y => decide (y.1.data.toList = x.1.data.toList)) = some x := by
      have hs : (ps.find? (fun y => decide (y.1.data.toList = x.1.data.toList))).isSome = true := List.find?_isSome.2 ⟨x, hx, by simp⟩
      obtain ⟨y, hy⟩ := Option.isSome_iff_exists.1 hs
      have hy2 : y.1.data.toList = x.1.data.toList := of_decide_eq_true (List.find?_some (p := fun y : Par => decide (y.1.data.toList = x.1.data.toList)) hy)
      have hym := List.mem_of_find?_eq_some hy
      rw [hy]
      have : y = x := by
        have e := data_eq hy2
        have inj : ∀ (l : List Par), (l.map (·.1)).Nodup → ∀ a ∈ l, ∀ b ∈ l, a.1 = b.1 → a = b := by
          intro l
          induction l with
          | nil => intro _ a ha; cases ha
          | cons z l ih =>
            intro hl a ha b hb e
            rw [List.map_cons, List.nodup_cons] at hl
            rcases List.mem_cons.1 ha with e1 | ha1 <;> rcases List.mem_cons.1 hb with e2 | hb1
            · rw [e1, e2]
            · subst e1; exact absurd (List.mem_map.2 ⟨b, hb1, e.symm⟩) hl.1
            · subst e2; exact absurd (List.mem_map.2 ⟨a, ha1, e⟩) hl.1
            · exact ih hl.2 a ha1 b hb1 e
        exact inj ps hnd y hym x hx e
      rw [this]
    unfold kindOf; rw [hf]; rfl
end Go.Proofs.YtdfgbkilaepolaaGreatDoor
namespace Go.Proofs.YtdfgbkilaepolaaGreatDoor
open Go.RowKit

/-- a tuple: six texts -/
structure Tup where
  (a b c d e f : ByteArray)
/-- its parts -/
def Tup.l (t : Tup) : List ByteArray := [t.a, t.b, t.c, t.d, t.e, t.f]
/-- the value by which a call hands it over -/
def Tup.v (t : Tup) : Value := .agg #[.string t.a, .string t.b, .string t.c, .string t.d, .string t.e, .string t.f]
@[go_sem] theorem Tup.v_eq (t : Tup) : t.v = .agg #[.string t.a, .string t.b, .string t.c, .string t.d, .string t.e, .string t.f] := rfl
/-- all of its parts take room in memory -/
def Tup.fits (t : Tup) : Prop := ∀ p ∈ t.l, p.size ≤ maxLen
def partOk (k : Nat) (p : ByteArray) : Bool := isName p.data.toList || (decide (5 ≤ k) && p.toList.isEmpty)
/-- may it be? -/
def Tup.ok (t : Tup) : Bool := partOk 0 t.a && partOk 1 t.b && partOk 2 t.c && partOk 3 t.d && partOk 4 t.e && partOk 5 t.f
def Tup.check (t : Tup) : Int := if t.ok then 0 else 2
def Tup.part (t : Tup) (k : Nat) : ByteArray := t.l.getD k ByteArray.empty
def nilB : ByteArray := ⟨#[]⟩
/-- its text -/
def Tup.base (t : Tup) : ByteArray := t.a ++ ⟨#[58]⟩ ++ t.b ++ ⟨#[35]⟩ ++ t.c ++ ⟨#[64]⟩ ++ t.d ++ ⟨#[58]⟩ ++ t.e
def Tup.print (t : Tup) : ByteArray := if t.f.toList.isEmpty then t.base else t.base ++ (⟨#[35]⟩ ++ t.f)
def Tup.zero : Tup := ⟨⟨#[]⟩, ⟨#[]⟩, ⟨#[]⟩, ⟨#[]⟩, ⟨#[]⟩, ⟨#[]⟩⟩
/-- are its parts short? -/
def Tup.few (t : Tup) : Bool := t.l.all fun p => decide (p.size ≤ 200)
def Tup.cells (t : Tup) : Array Value := #[.string t.a, .string t.b, .string t.c, .string t.d, .string t.e, .string t.f]
end Go.Proofs.YtdfgbkilaepolaaGreatDoor
namespace Go.Proofs.YtdfgbkilaepolaaGreatDoor
open Go.RowKit

/-- the first parts that are not the same decide -/
def cmpL : List (List UInt8) → List (List UInt8) → Int
  | p :: ps, q :: qs => if Lib.compareBytes p q = 0 then cmpL ps qs else Lib.compareBytes p q
  | _, _ => 0
def Tup.ls (t : Tup) : List (List UInt8) := t.l.map fun p => p.data.toList
def cmpT (t u : Tup) : Int := cmpL t.ls u.ls
def same6 (a b c d e f a' b' c' d' e' f' : ByteArray) : Bool :=
  a.toList == a'.toList && (b.toList == b'.toList && (c.toList == c'.toList && (d.toList == d'.toList && (e.toList == e'.toList && f.toList == f'.toList))))
def Tup.same (t u : Tup) : Bool := same6 t.a t.b t.c t.d t.e t.f u.a u.b u.c u.d u.e u.f
theorem cb_self : ∀ l : List UInt8, Lib.compareBytes l l = 0
  | [] => rfl
  | a :: l => by unfold Lib.compareBytes; rw [if_neg (by simp), if_neg (by simp)]; exact cb_self l
theorem cb_eq : ∀ a b : List UInt8, Lib.compareBytes a b = 0 → a = b
  | [], [], _ => rfl
  | [], _ :: _, h => by simp [Lib.compareBytes] at h
  | _ :: _, [], h => by simp [Lib.compareBytes] at h
  | a :: x, b :: y, h => by
    unfold Lib.compareBytes at h
    split at h
    · simp at h
    · split at h
      · simp at h
      · rename_i h1 h2
        have e : a = b := by
          have := UInt8.le_antisymm (UInt8.not_lt.1 h2) (UInt8.not_lt.1 h1)
          exact this
        rw [e, cb_eq x y h]
theorem cb_three : ∀ a b : List UInt8, Lib.compareBytes a b = 0 ∨ Lib.compareBytes a b = -1 ∨ Lib.compareBytes a b = 1
  | [], [] => .inl rfl
  | [], _ :: _ => .inr (.inl rfl)
  | _ :: _, [] => .inr (.inr rfl)
  | a :: x, b :: y => by
    unfold Lib.compareBytes
    split
    · exact .inr (.inl rfl)
    · split
      · exact .inr (.inr rfl)
      · exact cb_three x y
theorem cb_less : ∀ a b : List UInt8, Op.bytesLess a b = decide (Lib.compareBytes a b = -1)
  | [], [] => rfl
  | [], _ :: _ => rfl
  | _ :: _, [] => by simp [Op.bytesLess, Lib.compareBytes]
  | a :: x, b :: y => by
    unfold Op.bytesLess Lib.compareBytes
    by_cases h1 : a < b
    · simp [h1]
    · by_cases h2 : b < a
      · have h3 : ¬ a = b := by rintro rfl; exact h1 h2
        simp [h1, h2, h3]
      · have e : a = b := UInt8.le_antisymm (UInt8.not_lt.1 h2) (UInt8.not_lt.1 h1)
        subst e
        simp [cb_less x y]
theorem less_m {a b : ByteArray} (h : Lib.compareBytes a.data.toList b.data.toList = -1) : Op.bytesLess a.toList b.toList = true := by
  rw [Lib.toList_data, Lib.toList_data, cb_less, h]; rfl
theorem less_n {a b : ByteArray} (h : ¬ Lib.compareBytes a.data.toList b.data.toList = -1) : Op.bytesLess a.toList b.toList = false := by
  rw [Lib.toList_data, Lib.toList_data, cb_less]; simpa using h
theorem eq_y {a b : ByteArray} (h : Lib.compareBytes a.data.toList b.data.toList = 0) : (a.toList == b.toList) = true := by
  rw [Lib.toList_data, Lib.toList_data, cb_eq _ _ h]; simp
theorem eq_n {a b : ByteArray} (h : ¬ Lib.compareBytes a.data.toList b.data.toList = 0) : (a.toList == b.toList) = false := by
  rw [Lib.toList_data, Lib.toList_data]
  cases he : a.data.toList == b.data.toList with
  | false => rfl
  | true => rw [beq_iff_eq] at he; exact absurd (by rw [he]; exact cb_self _) h
end Go.Proofs.YtdfgbkilaepolaaGreatDoor
