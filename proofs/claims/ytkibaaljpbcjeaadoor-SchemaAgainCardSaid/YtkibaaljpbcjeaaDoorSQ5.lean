/- How long a parsed schema's text is. No program in sight. -/
import Derived.Test.YtkibaaljpbcjeaaDoorSQ4
namespace Go.Proofs.YtkibaaljpbcjeaaDoor
mutual
/-- how long a rule's text is at most -/
def RT.tl : RT → Nat
  | .node _ a b ps => a.length + b.length + 4 + tlL ps
def tlL : List RT → Nat
  | [] => 0
  | p :: ps => p.tl + 5 + tlL ps
end
theorem tlL_nil : tlL [] = 0 := by unfold tlL; rfl
theorem tlL_cons (p : RT) (ps : List RT) : tlL (p :: ps) = p.tl + 5 + tlL ps := by conv => lhs; unfold tlL
theorem tl_node (k : Int) (a b : List UInt8) (ps : List RT) : (RT.node k a b ps).tl = a.length + b.length + 4 + tlL ps := by conv => lhs; unfold RT.tl
theorem sep_len3 (k : Int) : (sepT k).length = 3 := by unfold sepT; split <;> rfl
/-- a text is no longer -/
theorem rule_len : ∀ (r : RT) (d : Nat) (x : List UInt8), ruleT d r = some x → x.length ≤ r.tl
  | .node k a b ps, d, x, h => by
    rw [tl_node]
    by_cases hk : k = 4 ∨ k = 5
    · rw [ruleT_grp hk] at h
      split at h
      · have hrec : ∀ p ∈ ps, ∀ d t, ruleT d p = some t → t.length ≤ p.tl := fun p hp d t ht => rule_len p d t ht
        have hpt : ∀ p ∈ ps, ∀ t, partT k d p = some t → t.length ≤ p.tl + 2 := fun p hpm t ht => by
          by_cases h5 : k = 5 ∧ p.kind = 4
          · cases d with
            | zero => rw [partT_0 h5.1 h5.2] at ht; cases ht
            | succ d =>
              rw [partT_s h5.1 h5.2] at ht
              cases hr : ruleT d p with
              | none => rw [hr] at ht; cases ht
              | some z =>
                rw [hr] at ht
                obtain rfl := Option.some.inj ht
                have := hrec p hpm d z hr
                simp only [List.length_append]
                rw [show opL.length = 1 from rfl, show clL.length = 1 from rfl]
                omega
          · rw [partT_ne h5] at ht
            have := hrec p hpm d t ht
            omega
        have hps : ∀ (qs : List RT), (∀ p ∈ qs, p ∈ ps) → ∀ (first : Bool) (z : List UInt8), partsT k d first qs = some z → z.length ≤ tlL qs := by
          intro qs
          induction qs with
          | nil =>
            intro _ first z hz
            unfold partsT at hz
            obtain rfl := Option.some.inj hz
            simp
          | cons q qs ih =>
            intro hm first z hz
            rw [tlL_cons]
            rw [partsT_cons] at hz
            by_cases hq : q.kind = k
            · rw [if_pos hq] at hz; cases hz
            · rw [if_neg hq] at hz
              cases ht : partT k d q with
              | none => rw [ht] at hz; cases hz
              | some t =>
                rw [ht] at hz
                cases hu : partsT k d false qs with
                | none => rw [hu] at hz; cases hz
                | some u =>
                  rw [hu] at hz
                  obtain rfl := Option.some.inj hz
                  have h1 := hpt q (hm q (by simp)) t ht
                  have h2 := ih (fun p hp => hm p (List.mem_cons_of_mem _ hp)) false u hu
                  have h3 := sep_len3 k
                  cases first
                  · show (sepT k ++ t ++ u).length ≤ _
                    simp only [List.length_append]; omega
                  · show ([] ++ t ++ u).length ≤ _
                    simp only [List.length_append, List.length_nil]; omega
        have := hps ps (fun _ h => h) true x h
        omega
      · cases h
    · unfold ruleT at h
      by_cases h1 : k = 1
      · rw [if_pos h1] at h
        split at h
        · obtain rfl := Option.some.inj h
          rw [show thisL.length = 4 from rfl]; omega
        · cases h
      rw [if_neg h1] at h
      by_cases h2 : k = 2
      · rw [if_pos h2] at h
        split at h
        · obtain rfl := Option.some.inj h
          omega
        · cases h
      rw [if_neg h2] at h
      by_cases h3 : k = 3
      · rw [if_pos h3] at h
        split at h
        · obtain rfl := Option.some.inj h
          simp only [List.length_append]
          rw [show arL.length = 2 from rfl]; omega
        · cases h
      rw [if_neg h3, if_neg hk] at h
      cases h
termination_by r => SizeOf.sizeOf r
decreasing_by exact part_lt (r := .node k a b ps) hp
theorem tlL_app : ∀ (a b : List RT), tlL (a ++ b) = tlL a + tlL b
  | [], b => by rw [List.nil_append, tlL_nil, Nat.zero_add]
  | p :: a, b => by rw [List.cons_append, tlL_cons, tlL_cons, tlL_app a b]; omega
theorem tlL_one (r : RT) : tlL [r] = r.tl + 5 := by rw [tlL_cons, tlL_nil]
theorem tl_parts (r : RT) : 4 + tlL r.parts ≤ r.tl := by
  cases r with
  | node k a b ps =>
    rw [tl_node]
    show 4 + tlL ps ≤ a.length + b.length + 4 + tlL ps
    omega
theorem tlL_flat (k : Int) (r : RT) : tlL (flat k r) ≤ r.tl + 5 := by
  unfold flat
  split
  · have := tl_parts r; omega
  · rw [tlL_one]; exact Nat.le_refl _
theorem tl_joined (k : Int) (ps : List RT) : (joined k ps).tl ≤ 4 + tlL ps := by
  unfold joined
  split
  · rename_i r; rw [tlL_one]; omega
  · rw [tl_node]; simp
theorem tl_joined_flat (k : Int) (r : RT) : (joined k (flat k r)).tl ≤ r.tl := by
  unfold flat
  split
  · have h1 := tl_joined k r.parts
    have h2 := tl_parts r
    omega
  · exact Nat.le_refl _
/-- a parse takes that much -/
def TG (G : Toks → Option (RT × Toks)) : Prop := ∀ l r l', G l = some (r, l') → r.tl + 5 + 9 * tw l' ≤ 9 * tw l
theorem loop_tl {G : Toks → Option (RT × Toks)} {op : List UInt8} {kind : Int} (hG : TG G) (L : Nat) : ∀ (n : Nat) (l : Toks) (acc : List RT) (r : RT) (l' : Toks), ((acc = [] ∧ tw l ≤ L) ∨ tlL acc + 9 + 9 * tw l ≤ 9 * L) → dLoop G op kind n l acc = some (r, l') → r.tl + 5 + 9 * tw l' ≤ 9 * L
  | 0, _, _, _, _, _, e => by cases e
  | n + 1, l, acc, r, l', h, e => by
    unfold dLoop at e
    cases hg : G l with
    | none => rw [hg] at e; cases e
    | some x =>
      obtain ⟨r1, l1⟩ := x
      rw [hg] at e
      have hw := hG l r1 l1 hg
      have hf := tlL_flat kind r1
      have ha := tlL_app acc (flat kind r1)
      simp only at e
      split at e
      · rename_i hh
        have ht := tw_tail hh
        refine loop_tl hG L n _ _ r l' (.inr ?_) e
        rw [ha]
        rcases h with ⟨rfl, h⟩ | h
        · have := tlL_nil
          omega
        · omega
      · obtain ⟨rfl, rfl⟩ := Prod.mk.inj (Option.some.inj e)
        rcases h with ⟨rfl, h⟩ | h
        · have := tl_joined_flat kind r1
          rw [List.nil_append]; omega
        · have := tl_joined kind (acc ++ flat kind r1)
          omega
theorem op_tl {G : Toks → Option (RT × Toks)} {op : List UInt8} {kind : Int} (hG : TG G) : TG (dOp G op kind) := fun l r l' e => loop_tl hG (tw l) _ l [] r l' (.inl ⟨rfl, Nat.le_refl _⟩) e
theorem tl_leaf (k : Int) (a b : List UInt8) : (RT.node k a b []).tl = a.length + b.length + 4 := by rw [tl_node, tlL_nil]
theorem name_tl (t : List UInt8) (l1 : Toks) (r : RT) (l' : Toks) (e : dName t l1 = some (r, l')) : r.tl + 5 + 9 * tw l' ≤ 9 * tw (t :: l1) := by
  unfold dName at e
  have h1 : tw (t :: l1) = t.length + 1 + tw l1 := rfl
  have hleaf : ∀ k, r = .node k t [] [] ∨ r = .node k [] [] [] → l' = l1 → r.tl + 5 + 9 * tw l' ≤ 9 * tw (t :: l1) := fun k h hl => by
    subst hl
    rcases h with rfl | rfl <;> rw [tl_leaf, h1] <;> simp only [List.length_nil] <;> omega
  split at e
  · rename_i a t2 l2
    split at e
    · obtain ⟨rfl, rfl⟩ := Prod.mk.inj (Option.some.inj e)
      have h2 : tw (a :: t2 :: l2) = a.length + 1 + (t2.length + 1 + tw l2) := rfl
      rw [tl_leaf, h1, h2]; omega
    · split at e
      · obtain ⟨e1, e2⟩ := Prod.mk.inj (Option.some.inj e); exact hleaf 1 (.inr e1.symm) e2.symm
      · obtain ⟨e1, e2⟩ := Prod.mk.inj (Option.some.inj e); exact hleaf 2 (.inl e1.symm) e2.symm
  · split at e
    · obtain ⟨e1, e2⟩ := Prod.mk.inj (Option.some.inj e); exact hleaf 1 (.inr e1.symm) e2.symm
    · obtain ⟨e1, e2⟩ := Prod.mk.inj (Option.some.inj e); exact hleaf 2 (.inl e1.symm) e2.symm
theorem one_tl : ∀ (d : Nat), TG (dOne d) := by
  intro d
  induction d with
  | zero =>
    intro l r l' e
    match l, e with
    | t :: l1, e =>
      unfold dOne at e
      by_cases h0 : t = opL
      · simp only [h0, if_true] at e; cases e
      · simp only [h0, if_false] at e
        split at e
        · exact name_tl t l1 r l' e
        · cases e
  | succ d ih =>
    intro l r l' e
    match l, e with
    | t :: l1, e =>
      unfold dOne at e
      by_cases h0 : t = opL
      · simp only [h0, if_true] at e
        cases hg : dOp (dOp (dOne d) andL 5) orL 4 l1 with
        | none => rw [hg] at e; cases e
        | some x =>
          obtain ⟨r2, l2⟩ := x
          rw [hg] at e
          have z := op_tl (op_tl ih) l1 r2 l2 hg
          simp only at e
          split at e
          · rename_i hc
            obtain ⟨rfl, rfl⟩ := Prod.mk.inj (Option.some.inj e)
            have := tw_tail hc
            have h1 : tw (t :: l1) = t.length + 1 + tw l1 := rfl
            omega
          · cases e
      · simp only [h0, if_false] at e
        split at e
        · exact name_tl t l1 r l' e
        · cases e
theorem rule_tl (d : Nat) : TG (dRule d) := op_tl (op_tl (one_tl d))
/-- how long a schema's text is at most -/
def relsL : List RelD → Nat
  | [] => 0
  | (m, r) :: rels => m.length + r.tl + 4 + relsL rels
def tysL : List TyD → Nat
  | [] => 0
  | (n, rels) :: ts => n.length + 6 + relsL rels + tysL ts
theorem rels_len : ∀ (rels : List RelD) (x : List UInt8), relsT rels = some x → x.length ≤ relsL rels
  | [], x, h => by
    unfold relsT at h
    obtain rfl := Option.some.inj h
    exact Nat.le_refl _
  | (m, r) :: rels, x, h => by
    unfold relsT at h
    cases hr : relT m r with
    | none => rw [hr] at h; cases h
    | some t =>
      rw [hr] at h
      cases hu : relsT rels with
      | none => rw [hu] at h; cases h
      | some u =>
        rw [hu] at h
        obtain rfl := Option.some.inj h
        have h1 := rels_len rels u hu
        unfold relT at hr
        split at hr
        · cases hx : ruleT 8 r with
          | none => rw [hx] at hr; cases hr
          | some z =>
            rw [hx] at hr
            obtain rfl := Option.some.inj hr
            have h2 := rule_len r 8 z hx
            show (m ++ [32, 61, 32] ++ z ++ [10] ++ u).length ≤ m.length + r.tl + 4 + relsL rels
            simp only [List.length_append, List.length_cons, List.length_nil]; omega
        · cases hr
theorem tys_len : ∀ (ts : List TyD) (x : List UInt8), tysT ts = some x → x.length ≤ tysL ts
  | [], x, h => by
    unfold tysT at h
    obtain rfl := Option.some.inj h
    exact Nat.le_refl _
  | (n, rels) :: ts, x, h => by
    rw [tysT_cons] at h
    split at h
    · unfold restT at h
      cases hr : relsT rels with
      | none => rw [hr] at h; cases h
      | some t =>
        rw [hr] at h
        cases hu : tysT ts with
        | none => rw [hu] at h; cases h
        | some u =>
          rw [hu] at h
          obtain rfl := Option.some.inj h
          have h1 := rels_len rels t hr
          have h2 := tys_len ts u hu
          show (typeL ++ [32] ++ n ++ [10] ++ (t ++ u)).length ≤ n.length + 6 + relsL rels + tysL ts
          simp only [List.length_append, List.length_cons, List.length_nil]
          rw [show typeL.length = 4 from rfl]; omega
    · cases h
theorem tysL_app : ∀ (a b : List TyD), tysL (a ++ b) = tysL a + tysL b
  | [], b => by rw [List.nil_append]; show _ = 0 + _; omega
  | (n, rels) :: a, b => by
    show n.length + 6 + relsL rels + tysL (a ++ b) = n.length + 6 + relsL rels + tysL a + tysL b
    rw [tysL_app a b]; omega
theorem relsL_app : ∀ (a b : List RelD), relsL (a ++ b) = relsL a + relsL b
  | [], b => by rw [List.nil_append]; show _ = 0 + _; omega
  | (m, r) :: a, b => by
    show m.length + r.tl + 4 + relsL (a ++ b) = m.length + r.tl + 4 + relsL a + relsL b
    rw [relsL_app a b]; omega
theorem addRel_L (ts : List TyD) (m : List UInt8) (r : RT) : tysL (addRel ts m r) ≤ tysL ts + (m.length + r.tl + 4) := by
  unfold addRel
  cases hl : ts.getLast? with
  | none => show tysL ts ≤ _; omega
  | some x =>
    obtain ⟨n, rels⟩ := x
    obtain ⟨ys, rfl⟩ := List.getLast?_eq_some_iff.1 hl
    rw [List.dropLast_concat]
    show tysL (ys ++ [(n, rels ++ [(m, r)])]) ≤ _
    rw [tysL_app, tysL_app]
    show tysL ys + (n.length + 6 + relsL (rels ++ [(m, r)]) + 0) ≤ tysL ys + (n.length + 6 + relsL rels + 0) + _
    rw [relsL_app]
    show _ + (n.length + 6 + (relsL rels + (m.length + r.tl + 4 + 0)) + 0) ≤ _
    omega
theorem lineD_L {ts ts' : List TyD} {l : Toks} (h : lineD ts l = some ts') : tysL ts' ≤ tysL ts + 9 * tw l := by
  match l, h with
  | [a, b], h =>
    rw [lineD_two'] at h
    split at h
    · obtain rfl := Option.some.inj h
      have : tw [a, b] = a.length + 1 + (b.length + 1 + 0) := rfl
      rw [tysL_app, this]
      show _ + (b.length + 6 + 0 + 0) ≤ _
      omega
    · cases h
  | a :: e :: c :: l2, h =>
    rw [lineD_more'] at h
    split at h
    · cases hg : dRule 8 (c :: l2) with
      | none => rw [hg] at h; cases h
      | some x =>
        obtain ⟨r, l'⟩ := x
        rw [hg] at h
        have hw := rule_tl 8 _ r l' hg
        cases l' with
        | nil =>
          obtain rfl := Option.some.inj h
          have := addRel_L ts a r
          have h1 : tw (a :: e :: c :: l2) = a.length + 1 + (e.length + 1 + tw (c :: l2)) := rfl
          omega
        | cons _ _ => cases h
    · cases h
theorem parseD_L : ∀ (ls : List (List UInt8)) (i : Nat) (ts ts' : List TyD) (k : Int), parseD ls i ts = (some ts', k) → tysL ts' ≤ tysL ts + 18 * sumL ls
  | [], i, ts, ts', k, h => by
    obtain ⟨h1, _⟩ := Prod.mk.inj h
    obtain rfl := Option.some.inj h1
    omega
  | l :: ls, i, ts, ts', k, h => by
    unfold parseD at h
    have hs : sumL (l :: ls) = l.length + sumL ls := rfl
    split at h
    · have := parseD_L ls _ ts ts' k h
      omega
    · cases hx : lineX ts l with
      | none => rw [hx] at h; cases (Prod.mk.inj h).1
      | some t2 =>
        rw [hx] at h
        have h1 := parseD_L ls _ t2 ts' k h
        unfold lineX at hx
        split at hx
        · cases hx
        · have h2 := lineD_L hx
          have h3 := toks_tw l
          omega
/-- a parsed schema's text is not much longer -/
theorem parse_L {s x : List UInt8} {ts : List TyD} {k : Int} (h : parseD (linesG s) 0 [] = (some ts, k)) (hx : tysT ts = some x) : x.length ≤ 18 * s.length := by
  have h1 := parseD_L _ _ _ _ _ h
  rw [linesG_cut] at h1
  have h2 := cutL_sum s
  have h3 : tysL [] = 0 := rfl
  have h4 := tys_len ts x hx
  omega
end Go.Proofs.YtkibaaljpbcjeaaDoor
