/- Rules as trees, in plain words and in memory. What a line's tokens say: a rule, or none. No program in sight. The document's parse of tokens, beside the program's. No program in sight. -/
import Derived.Test.YtkibaaljpbcjeaaDoorSW2
import Derived.Test.YtkibaaljpbcjeaaDoorRow
namespace Go.Proofs.YtkibaaljpbcjeaaDoor
open Go.RowKit
inductive RT where
  | node (kind : Int) (a b : List UInt8) (parts : List RT)
def RT.kind : RT → Int | .node k _ _ _ => k
def RT.parts : RT → List RT | .node _ _ _ p => p
/-- a rule's cells; each row of its tree lies in a block of P -/
inductive RAt (P : Nat → Prop) (w : World) : List Value → RT → Prop
  | mk {k : Int} {a b : List UInt8} {v : Value} {ps : List RT} {cs : List Value} (hrow : RowAt w 42 v ps.length cs) (hP : ∀ g, v.ownBlock = some g → P g) (hlen : cs.length = ps.length * 4) (hparts : ∀ (i : Nat) (p : RT), ps[i]? = some p → RAt P w ((cs.drop (i * 4)).take 4) p) : RAt P w [.int .i64 k, strV a, strV b, v] (.node k a b ps)
/-- the cells of several rules -/
structure PartsAt (P : Nat → Prop) (w : World) (cs : List Value) (ps : List RT) : Prop where
  len : cs.length = ps.length * 4
  part : ∀ (i : Nat) (p : RT), ps[i]? = some p → RAt P w ((cs.drop (i * 4)).take 4) p
section
variable {P Q S : Nat → Prop} {w w' : World} {cs cs' : List Value} {r : RT} {ps ps' : List RT}
theorem RAt.mono (h : RAt P w cs r) (hP : ∀ j, P j → j < w.heap.size → Q j) : RAt Q w cs r := by
  induction h with
  | mk hrow hp hlen _ ih => exact .mk hrow (fun g hg => hP g (hp g hg) (hrow.lt g hg)) hlen fun i p hi => ih i p hi
theorem RAt.keeps (h : RAt P w cs r) (hk : Keeps S w w') (hs : ∀ j, P j → j < w.heap.size → ¬ S j) : RAt P w' cs r := by
  induction h with
  | mk hrow hp hlen _ ih => exact .mk (hrow.keeps hk fun g hg => hs g (hp g hg) (hrow.lt g hg)) hp hlen fun i p hi => ih i p hi
theorem RAt.later (h : RAt P w cs r) (hb : Below w.heap.size w w') : RAt P w' cs r := h.keeps (S := fun _ => False) (.of_below hb) fun _ _ _ => id
theorem PartsAt.nil : PartsAt P w [] [] := ⟨rfl, fun i p h => by simp at h⟩
theorem PartsAt.mono (h : PartsAt P w cs ps) (hP : ∀ j, P j → j < w.heap.size → Q j) : PartsAt Q w cs ps := ⟨h.len, fun i p hi => (h.part i p hi).mono hP⟩
theorem PartsAt.keeps (h : PartsAt P w cs ps) (hk : Keeps S w w') (hs : ∀ j, P j → j < w.heap.size → ¬ S j) : PartsAt P w' cs ps := ⟨h.len, fun i p hi => (h.part i p hi).keeps hk hs⟩
theorem PartsAt.later (h : PartsAt P w cs ps) (hb : Below w.heap.size w w') : PartsAt P w' cs ps := h.keeps (S := fun _ => False) (.of_below hb) fun _ _ _ => id
theorem PartsAt.app (h : PartsAt P w cs ps) (h' : PartsAt P w cs' ps') : PartsAt P w (cs ++ cs') (ps ++ ps') := by
  refine ⟨by rw [List.length_append, List.length_append, h.len, h'.len, Nat.add_mul], fun i p hi => ?_⟩
  by_cases hlt : i < ps.length
  · rw [List.getElem?_append_left hlt] at hi
    have h1 := h.part i p hi
    rw [List.drop_append_of_le_length (by rw [h.len]; omega), List.take_append_of_le_length (by rw [List.length_drop, h.len]; omega)]
    exact h1
  · rw [List.getElem?_append_right (by omega)] at hi
    have h1 := h'.part _ p hi
    have e : i * 4 = cs.length + (i - ps.length) * 4 := by rw [h.len, Nat.sub_mul]; omega
    rw [e, ← List.drop_drop, List.drop_left]
    exact h1
theorem RAt.len (h : RAt P w cs r) : cs.length = 4 := by cases h; rfl
theorem RAt.one (h : RAt P w cs r) : PartsAt P w cs [r] := by
  refine ⟨by rw [h.len]; rfl, fun i p hi => ?_⟩
  match i, hi with
  | 0, hi =>
    obtain rfl := Option.some.inj hi
    rw [Nat.zero_mul, List.drop_zero, List.take_of_length_le (by rw [h.len]; exact Nat.le_refl _)]
    exact h
theorem RAt.parts_ {k : Value} {a b v : Value} (h : RAt P w [k, a, b, v] r) : ∃ cs, RowAt w 42 v r.parts.length cs ∧ (∀ g, v.ownBlock = some g → P g) ∧ PartsAt P w cs r.parts ∧ k = .int .i64 r.kind := by
  cases h with
  | mk hrow hP hlen hparts => exact ⟨_, hrow, hP, ⟨hlen, hparts⟩, rfl⟩
end
end Go.Proofs.YtkibaaljpbcjeaaDoor
namespace Go.Proofs.YtkibaaljpbcjeaaDoor
def opL : List UInt8 := [40]
def clL : List UInt8 := [41]
def arL : List UInt8 := [45, 62]
def orL : List UInt8 := [124]
def andL : List UInt8 := [38]
def eqL : List UInt8 := [61]
abbrev Toks := List (List UInt8)
/-- a part of that kind is its parts -/
def flat (kind : Int) (r : RT) : List RT := if r.kind = kind then r.parts else [r]
def joined (kind : Int) (ps : List RT) : RT := match ps with
  | [r] => r
  | ps => .node kind [] [] ps
/-- parts with a sign between; n: how many, at most -/
def gLoop (one : Toks → Option (RT × Toks)) (op : List UInt8) (kind : Int) : Nat → Toks → List RT → Option (RT × Toks)
  | 0, _, _ => none
  | n + 1, l, acc => match one l with
    | none => none
    | some (r, l') => if l'.head? = some op then gLoop one op kind n l'.tail (acc ++ flat kind r) else if l'.head? = some [] then none else some (joined kind (acc ++ flat kind r), l')
def gOp (one : Toks → Option (RT × Toks)) (op : List UInt8) (kind : Int) (l : Toks) : Option (RT × Toks) := gLoop one op kind (l.length + 1) l []
def gOne : Nat → Toks → Option (RT × Toks)
  | d, l => match l with
    | [] => none
    | t :: l1 => if t = opL then (match d with
        | 0 => none
        | d + 1 => match gOp (gOp (gOne d) andL 5) orL 4 l1 with
          | none => none
          | some (r, l2) => if l2.head? = some clL then some (r, l2.tail) else none)
      else if t = thisL then (if l1.head? = some arL then none else some (.node 1 [] [] [], l1))
      else if good t then (if l1.head? = some arL then (match l1.tail with
          | [] => none
          | t2 :: l2 => if good t2 then some (.node 3 t t2 [], l2) else none)
        else if l1.head? = some [] then none else some (.node 2 t [] [], l1))
      else none
def gBoth (d : Nat) : Toks → Option (RT × Toks) := gOp (gOne d) andL 5
def gRule (d : Nat) : Toks → Option (RT × Toks) := gOp (gBoth d) orL 4
end Go.Proofs.YtkibaaljpbcjeaaDoor
namespace Go.Proofs.YtkibaaljpbcjeaaDoor
def dLoop (one : Toks → Option (RT × Toks)) (op : List UInt8) (kind : Int) : Nat → Toks → List RT → Option (RT × Toks)
  | 0, _, _ => none
  | n + 1, l, acc => match one l with
    | none => none
    | some (r, l') => if l'.head? = some op then dLoop one op kind n l'.tail (acc ++ flat kind r) else some (joined kind (acc ++ flat kind r), l')
def dOp (one : Toks → Option (RT × Toks)) (op : List UInt8) (kind : Int) (l : Toks) : Option (RT × Toks) := dLoop one op kind (l.length + 1) l []
def dName (t : List UInt8) (l1 : Toks) : Option (RT × Toks) := match l1 with
  | a :: t2 :: l2 => if a = arL ∧ isName t2 = true ∧ t ≠ thisL ∧ t2 ≠ thisL then some (.node 3 t t2 [], l2) else if t = thisL then some (.node 1 [] [] [], l1) else some (.node 2 t [] [], l1)
  | _ => if t = thisL then some (.node 1 [] [] [], l1) else some (.node 2 t [] [], l1)
def dOne : Nat → Toks → Option (RT × Toks)
  | d, l => match l with
    | [] => none
    | t :: l1 => if t = opL then (match d with
        | 0 => none
        | d + 1 => match dOp (dOp (dOne d) andL 5) orL 4 l1 with
          | none => none
          | some (r, l2) => if l2.head? = some clL then some (r, l2.tail) else none)
      else if isName t = true then dName t l1 else none
def dRule (d : Nat) : Toks → Option (RT × Toks) := dOp (dOp (dOne d) andL 5) orL 4
/-- what one tells, the other tells; or an arrow is left, which nothing takes -/
structure Near (l : Toks) (g d : Option (RT × Toks)) : Prop where
  fwd : ∀ r l', g = some (r, l') → d = some (r, l')
  back : ∀ r l', d = some (r, l') → l' <:+ l ∧ (g = some (r, l') ∨ l'.head? = some arL)
theorem no_bad {l l' : Toks} (h : l' <:+ l) (hb : [] ∉ l) : [] ∉ l' := fun hm => hb (h.subset hm)
theorem loop_near {G D : Toks → Option (RT × Toks)} {op : List UInt8} {kind : Int} (hop : op ≠ arL) (h : ∀ l, [] ∉ l → Near l (G l) (D l)) : ∀ (n : Nat) (l : Toks) (acc : List RT), [] ∉ l → Near l (gLoop G op kind n l acc) (dLoop D op kind n l acc)
  | 0, _, _, _ => ⟨fun r l' e => (by cases e), fun r l' e => (by cases e)⟩
  | n + 1, l, acc, hb => by
    unfold gLoop dLoop
    have hN := h l hb
    cases hd : D l with
    | none =>
      cases hg : G l with
      | none => exact ⟨fun r l' e => (by cases e), fun r l' e => (by cases e)⟩
      | some x =>
        obtain ⟨r, l'⟩ := x
        have := hN.fwd r l' hg
        rw [hd] at this; cases this
    | some x =>
      obtain ⟨r, l'⟩ := x
      obtain ⟨hs, hc⟩ := hN.back r l' hd
      have hb' := no_bad hs hb
      have hh : l'.head? ≠ some [] := fun e => hb' (List.mem_of_head? e)
      by_cases ho : l'.head? = some op
      · have hg : G l = some (r, l') := by
          rcases hc with e | e
          · exact e
          · rw [ho] at e; exact absurd (Option.some.inj e) hop
        rw [hg]
        simp only [ho, if_true]
        have ht : l'.tail <:+ l := (List.tail_suffix l').trans hs
        have := loop_near (kind := kind) hop h n l'.tail (acc ++ flat kind r) (no_bad ht hb)
        exact ⟨this.fwd, fun r2 l2 e => by obtain ⟨a, b⟩ := this.back r2 l2 e; exact ⟨a.trans ht, b⟩⟩
      · simp only [ho, if_false]
        rcases hc with e | e
        · rw [e]
          simp only [ho, if_false, hh]
          refine ⟨fun r2 l2 e => e, fun r2 l2 e => ?_⟩
          obtain ⟨_, rfl⟩ := Prod.mk.inj (Option.some.inj e)
          exact ⟨hs, .inl e⟩
        · refine ⟨fun r2 l2 e2 => ?_, fun r2 l2 e2 => ?_⟩
          · cases hg : G l with
            | none => rw [hg] at e2; cases e2
            | some y =>
              obtain ⟨r3, l3⟩ := y
              have := hN.fwd r3 l3 hg
              rw [hd] at this
              obtain ⟨rfl, rfl⟩ := Prod.mk.inj (Option.some.inj this)
              rw [hg] at e2
              simp only [ho, if_false, hh] at e2
              exact e2
          · obtain ⟨_, rfl⟩ := Prod.mk.inj (Option.some.inj e2)
            exact ⟨hs, .inr e⟩
theorem op_near {G D : Toks → Option (RT × Toks)} {op : List UInt8} {kind : Int} (hop : op ≠ arL) (h : ∀ l, [] ∉ l → Near l (G l) (D l)) (l : Toks) (hb : [] ∉ l) : Near l (gOp G op kind l) (dOp D op kind l) := loop_near hop h _ l [] hb
theorem Near.no (l : Toks) : Near l none none := ⟨fun r l' e => (by cases e), fun r l' e => (by cases e)⟩
theorem Near.same {l l' : Toks} (r : RT) (h : l' <:+ l) : Near l (some (r, l')) (some (r, l')) := ⟨fun _ _ e => e, fun r2 l2 e => by obtain ⟨_, rfl⟩ := Prod.mk.inj (Option.some.inj e); exact ⟨h, .inl e⟩⟩
theorem Near.left {l l' : Toks} (r : RT) (h : l' <:+ l) (ha : l'.head? = some arL) : Near l none (some (r, l')) := ⟨fun r l' e => (by cases e), fun r2 l2 e => by obtain ⟨_, rfl⟩ := Prod.mk.inj (Option.some.inj e); exact ⟨h, .inr ha⟩⟩
theorem isName_this : isName thisL = true := by decide
theorem name_near (t : List UInt8) (l1 : Toks) (hb : [] ∉ l1) (h1 : t ≠ thisL) :
    Near (t :: l1) (if l1.head? = some arL then (match l1.tail with
      | [] => none
      | t2 :: l2 => if good t2 then some (.node 3 t t2 [], l2) else none) else if l1.head? = some [] then none else some (.node 2 t [] [], l1)) (dName t l1) := by
  have hs : l1 <:+ t :: l1 := List.suffix_cons _ _
  match l1, hb, hs with
  | [], _, hs => exact Near.same (l' := []) _ (List.nil_suffix) |> fun h => by simpa [dName, h1] using h
  | [a], hb, hs =>
    have ha0 : a ≠ [] := fun e => hb (by rw [e]; simp)
    by_cases ha : a = arL
    · subst ha
      simpa [dName, h1] using Near.left (.node 2 t [] []) hs rfl
    · simpa [dName, h1, ha, ha0] using Near.same (.node 2 t [] []) hs
  | a :: t2 :: l2, hb, hs =>
    have ha0 : a ≠ [] := fun e => hb (by rw [e]; simp)
    by_cases ha : a = arL
    · subst ha
      by_cases h2 : isName t2 = true ∧ t2 ≠ thisL
      · have hg : good t2 = true := by unfold good; rw [h2.1, beq_false_of_ne h2.2]; rfl
        have hs2 : l2 <:+ t :: arL :: t2 :: l2 := ((List.suffix_cons t2 l2).trans (List.suffix_cons _ _)).trans (List.suffix_cons _ _)
        simpa [dName, h1, h2.1, h2.2, hg] using Near.same (.node 3 t t2 []) hs2
      · have hg : good t2 = false := by
          unfold good
          cases hx : isName t2
          · rfl
          · by_cases hy : t2 = thisL
            · rw [hy]; rfl
            · exact absurd ⟨hx, hy⟩ h2
        have h3 : ¬ (isName t2 = true ∧ ¬ t2 = thisL) := h2
        have := Near.left (.node 2 t [] []) hs rfl
        simp only [dName, h1, ne_eq, not_false_eq_true, true_and, h3, if_false, List.head?_cons, if_true, List.tail_cons, hg, Bool.false_eq_true]
        exact this
    · simpa [dName, h1, ha, ha0] using Near.same (.node 2 t [] []) hs
theorem rest_near (t : List UInt8) (l1 : Toks) (hb : [] ∉ t :: l1) : Near (t :: l1) (if t = thisL then (if l1.head? = some arL then none else some (.node 1 [] [] [], l1)) else if good t then (if l1.head? = some arL then (match l1.tail with
      | [] => none
      | t2 :: l2 => if good t2 then some (.node 3 t t2 [], l2) else none) else if l1.head? = some [] then none else some (.node 2 t [] [], l1)) else none) (if isName t = true then dName t l1 else none) := by
  have hb1 : [] ∉ l1 := fun e => hb (List.mem_cons_of_mem _ e)
  by_cases h1 : t = thisL
  · subst h1
    rw [if_pos rfl, if_pos isName_this]
    have hd : dName thisL l1 = some (.node 1 [] [] [], l1) := by
      unfold dName
      split
      · rw [if_neg (fun e => e.2.2.1 rfl), if_pos rfl]
      · rw [if_pos rfl]
    rw [hd]
    by_cases ha : l1.head? = some arL
    · rw [if_pos ha]; exact Near.left _ (List.suffix_cons _ _) ha
    · rw [if_neg ha]; exact Near.same _ (List.suffix_cons _ _)
  · rw [if_neg h1]
    cases hn : isName t
    · have hg : good t = false := by unfold good; rw [hn]; rfl
      rw [hg, if_neg Bool.false_ne_true, if_neg Bool.false_ne_true]; exact Near.no _
    · have hg : good t = true := by unfold good; rw [hn, beq_false_of_ne h1]; rfl
      rw [hg, if_pos rfl, if_pos rfl]
      exact name_near t l1 hb1 h1
theorem one_near : ∀ (d : Nat) (l : Toks), [] ∉ l → Near l (gOne d l) (dOne d l) := by
  intro d
  induction d with
  | zero =>
    intro l hb
    match l, hb with
    | [], _ => exact Near.no _
    | t :: l1, hb =>
      unfold gOne dOne
      by_cases h0 : t = opL
      · simp only [h0, if_true]; exact Near.no _
      · simp only [h0, if_false]
        exact rest_near t l1 hb
  | succ d ih =>
    intro l hb
    match l, hb with
    | [], _ => exact Near.no _
    | t :: l1, hb =>
      have hb1 : [] ∉ l1 := fun e => hb (List.mem_cons_of_mem _ e)
      unfold gOne dOne
      by_cases h0 : t = opL
      · simp only [h0, if_true]
        have N := op_near (op := orL) (kind := 4) (by decide) (op_near (op := andL) (kind := 5) (by decide) ih) l1 hb1
        cases hd : dOp (dOp (dOne d) andL 5) orL 4 l1 with
        | none =>
          cases hg : gOp (gOp (gOne d) andL 5) orL 4 l1 with
          | none => exact Near.no _
          | some x =>
            obtain ⟨r, l'⟩ := x
            have := N.fwd r l' hg
            rw [hd] at this; cases this
        | some x =>
          obtain ⟨r, l2⟩ := x
          obtain ⟨hs, hc⟩ := N.back r l2 hd
          by_cases hcl : l2.head? = some clL
          · have hg : gOp (gOp (gOne d) andL 5) orL 4 l1 = some (r, l2) := by
              rcases hc with e | e
              · exact e
              · rw [hcl] at e; exact absurd (Option.some.inj e) (by decide)
            rw [hg]
            simp only [hcl, if_true]
            exact Near.same _ (((List.tail_suffix l2).trans hs).trans (List.suffix_cons _ _))
          · simp only [hcl, if_false]
            cases hg : gOp (gOp (gOne d) andL 5) orL 4 l1 with
            | none => exact Near.no _
            | some y =>
              obtain ⟨r3, l3⟩ := y
              have := N.fwd r3 l3 hg
              rw [hd] at this
              obtain ⟨rfl, rfl⟩ := Prod.mk.inj (Option.some.inj this)
              simp only [hcl, if_false]
              exact Near.no _
      · simp only [h0, if_false]
        exact rest_near t l1 hb
theorem rule_near (d : Nat) (l : Toks) (hb : [] ∉ l) : Near l (gRule d l) (dRule d l) := op_near (by decide) (op_near (by decide) (one_near d)) l hb
/-- a whole line's rule is the same -/
theorem rule_same (d : Nat) (l : Toks) (hb : [] ∉ l) (r : RT) : gRule d l = some (r, []) ↔ dRule d l = some (r, []) := by
  have N := rule_near d l hb
  refine ⟨N.fwd r [], fun e => ?_⟩
  rcases (N.back r [] e).2 with h | h
  · exact h
  · cases h
end Go.Proofs.YtkibaaljpbcjeaaDoor
