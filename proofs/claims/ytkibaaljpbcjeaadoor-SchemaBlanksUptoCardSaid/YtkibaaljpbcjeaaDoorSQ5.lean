/- What is parsed may be printed. No program in sight. The tokens of a printed rule. No program in sight. A printed rule's tokens are parsed to that rule. No program in sight. A printed schema is parsed to that schema; how long its text is. No program in sight. How long a parsed schema's text is. No program in sight. -/
import Derived.Test.YtkibaaljpbcjeaaDoorSFx
namespace Go.Proofs.YtkibaaljpbcjeaaDoor
/-- a rule that may be written with so many brackets left -/
def okT (d : Nat) (r : RT) : Prop := ∃ x, ruleT d r = some x
/-- a part that may stand in a group of that kind -/
def partOK (k : Int) (d : Nat) (p : RT) : Prop := p.kind ≠ k ∧ ∃ x, partT k d p = some x
theorem partsT_some {k : Int} {d : Nat} : ∀ (ps : List RT) (first : Bool), (∀ p ∈ ps, partOK k d p) → ∃ x, partsT k d first ps = some x
  | [], first, _ => ⟨[], by unfold partsT; rfl⟩
  | p :: ps, first, h => by
    obtain ⟨hk, t, ht⟩ := h p (by simp)
    obtain ⟨u, hu⟩ := partsT_some (k := k) (d := d) ps false fun q hq => h q (List.mem_cons_of_mem _ hq)
    exact ⟨(if first then [] else sepT k) ++ t ++ u, by rw [partsT_cons, if_neg hk, ht, hu]⟩
theorem partsT_inv {k : Int} {d : Nat} : ∀ (ps : List RT) (first : Bool) (x : List UInt8), partsT k d first ps = some x → ∀ p ∈ ps, partOK k d p
  | [], _, _, _ => fun p hp => by cases hp
  | q :: ps, first, x, h => by
    rw [partsT_cons] at h
    by_cases hk : q.kind = k
    · rw [if_pos hk] at h; cases h
    · rw [if_neg hk] at h
      cases ht : partT k d q with
      | none => rw [ht] at h; cases h
      | some t =>
        rw [ht] at h
        cases hu : partsT k d false ps with
        | none => rw [hu] at h; cases h
        | some u =>
          intro p hp
          rcases List.mem_cons.1 hp with rfl | hp
          · exact ⟨hk, t, ht⟩
          · exact partsT_inv ps false u hu p hp
theorem ruleT_grp {k : Int} (hk : k = 4 ∨ k = 5) (d : Nat) (a b : List UInt8) (ps : List RT) : ruleT d (.node k a b ps) = if a = [] ∧ b = [] ∧ 2 ≤ ps.length then partsT k d true ps else none := by
  conv => lhs; unfold ruleT
  rw [if_neg (by omega), if_neg (by omega), if_neg (by omega), if_pos hk]
theorem ruleT_leaf {k : Int} (hk : k ≠ 4 ∧ k ≠ 5) (d d' : Nat) (a b : List UInt8) (ps : List RT) : ruleT d (.node k a b ps) = ruleT d' (.node k a b ps) := by
  conv => lhs; unfold ruleT
  conv => rhs; unfold ruleT
  rw [if_neg (show ¬ (k = 4 ∨ k = 5) by omega), if_neg (show ¬ (k = 4 ∨ k = 5) by omega)]
theorem partT_ne {k : Int} {d : Nat} {p : RT} (h : ¬ (k = 5 ∧ p.kind = 4)) : partT k d p = ruleT d p := by unfold partT; rw [if_neg h]
/-- more brackets left: the same text -/
theorem ruleT_more : ∀ (r : RT) (d : Nat) (x : List UInt8), ruleT d r = some x → ruleT (d + 1) r = some x
  | .node k a b ps, d, x, h => by
    by_cases hk : k = 4 ∨ k = 5
    · rw [ruleT_grp hk] at h ⊢
      split at h
      · rename_i hc
        rw [if_pos hc]
        have hp : ∀ p ∈ ps, ∀ t, partT k d p = some t → partT k (d + 1) p = some t := fun p hp t ht => by
          by_cases h5 : k = 5 ∧ p.kind = 4
          · cases d with
            | zero => rw [partT_0 h5.1 h5.2] at ht; cases ht
            | succ d =>
              rw [partT_s h5.1 h5.2] at ht ⊢
              cases hr : ruleT d p with
              | none => rw [hr] at ht; cases ht
              | some y =>
                rw [hr] at ht
                rw [ruleT_more p d y hr]; exact ht
          · rw [partT_ne h5] at ht ⊢
            exact ruleT_more p d t ht
        have hps : ∀ (qs : List RT), (∀ p ∈ qs, p ∈ ps) → ∀ (first : Bool) (y : List UInt8), partsT k d first qs = some y → partsT k (d + 1) first qs = some y := by
          intro qs
          induction qs with
          | nil => intro _ first y hy; unfold partsT at hy ⊢; exact hy
          | cons q qs ih =>
            intro hm first y hy
            rw [partsT_cons] at hy ⊢
            by_cases hq : q.kind = k
            · rw [if_pos hq] at hy; cases hy
            · rw [if_neg hq] at hy ⊢
              cases ht : partT k d q with
              | none => rw [ht] at hy; cases hy
              | some t =>
                rw [ht] at hy
                rw [hp q (hm q (by simp)) t ht]
                cases hu : partsT k d false qs with
                | none => rw [hu] at hy; cases hy
                | some u =>
                  rw [hu] at hy
                  rw [ih (fun p hp => hm p (List.mem_cons_of_mem _ hp)) false u hu]
                  exact hy
        exact hps ps (fun _ h => h) true x h
      · cases h
    · rw [ruleT_leaf (d' := d) (by omega)]; exact h
termination_by r => SizeOf.sizeOf r
decreasing_by all_goals exact part_lt (r := .node k a b ps) hp
theorem okT_more {d : Nat} {r : RT} (h : okT d r) : okT (d + 1) r := by
  obtain ⟨x, hx⟩ := h
  exact ⟨x, ruleT_more r d x hx⟩
theorem okT_parts {d : Nat} {r : RT} (hk : r.kind = 4 ∨ r.kind = 5) (h : okT d r) : ∀ p ∈ r.parts, partOK r.kind d p := by
  obtain ⟨x, hx⟩ := h
  match r, hk, hx with
  | .node k a b ps, hk, hx =>
    have hk' : k = 4 ∨ k = 5 := hk
    rw [ruleT_grp hk'] at hx
    split at hx
    · exact partsT_inv ps true x hx
    · cases hx
/-- an operand of 'and' that may be written -/
def opOK (d : Nat) (r : RT) : Prop := (r.kind = 4 → ∃ d', d = d' + 1 ∧ okT d' r) ∧ (r.kind ≠ 4 → okT d r)
theorem opOK.ok {d : Nat} {r : RT} (h : opOK d r) : okT d r := by
  by_cases h4 : r.kind = 4
  · obtain ⟨d', rfl, h'⟩ := h.1 h4
    exact okT_more h'
  · exact h.2 h4
theorem opOK.part {d : Nat} {r : RT} (h : opOK d r) (h5 : r.kind ≠ 5) : partOK 5 d r := by
  refine ⟨h5, ?_⟩
  by_cases h4 : r.kind = 4
  · obtain ⟨d', rfl, x, hx⟩ := h.1 h4
    exact ⟨_, by rw [partT_s rfl h4, hx]; rfl⟩
  · obtain ⟨x, hx⟩ := h.2 h4
    exact ⟨x, by rw [partT_ne (fun e => h4 e.2)]; exact hx⟩
theorem partOK.op {d : Nat} {r : RT} (h : partOK 5 d r) : opOK d r := by
  obtain ⟨_, x, hx⟩ := h
  constructor
  · intro h4
    cases d with
    | zero => rw [partT_0 rfl h4] at hx; cases hx
    | succ d =>
      rw [partT_s rfl h4] at hx
      cases hr : ruleT d r with
      | none => rw [hr] at hx; cases hx
      | some y => exact ⟨d, rfl, y, hr⟩
  · intro h4
    rw [partT_ne (fun e => h4 e.2)] at hx
    exact ⟨x, hx⟩
theorem loop_ok {G : Toks → Option (RT × Toks)} {op : List UInt8} {kind : Int} {Q : RT → Prop} (hG : ∀ l r l', G l = some (r, l') → ∀ p ∈ flat kind r, Q p) (hne : ∀ l r l', G l = some (r, l') → flat kind r ≠ []) (P : RT → Prop) (h1 : ∀ p, Q p → P p) (h2 : ∀ ps, 2 ≤ ps.length → (∀ p ∈ ps, Q p) → P (.node kind [] [] ps)) : ∀ (n : Nat) (l : Toks) (acc : List RT) (r : RT) (l' : Toks), (∀ p ∈ acc, Q p) → dLoop G op kind n l acc = some (r, l') → P r
  | 0, _, _, _, _, _, e => by cases e
  | n + 1, l, acc, r, l', h, e => by
    unfold dLoop at e
    cases hg : G l with
    | none => rw [hg] at e; cases e
    | some x =>
      obtain ⟨r1, l1⟩ := x
      rw [hg] at e
      have hall : ∀ p ∈ acc ++ flat kind r1, Q p := fun p hp => by
        rcases List.mem_append.1 hp with hp | hp
        · exact h p hp
        · exact hG l r1 l1 hg p hp
      have hnil : acc ++ flat kind r1 ≠ [] := fun e => hne l r1 l1 hg (List.append_eq_nil_iff.1 e).2
      simp only at e
      split at e
      · exact loop_ok hG hne P h1 h2 n _ _ r l' hall e
      · obtain ⟨rfl, rfl⟩ := Prod.mk.inj (Option.some.inj e)
        generalize acc ++ flat kind r1 = ps at *
        match ps, hall, hnil with
        | [], _, hnil => exact absurd rfl hnil
        | [p], hall, _ => exact h1 p (hall p (by simp))
        | p :: q :: ps, hall, _ => exact h2 _ (by simp) hall
theorem okT_grp {k : Int} (hk : k = 4 ∨ k = 5) {d : Nat} {ps : List RT} (hl : 2 ≤ ps.length) (h : ∀ p ∈ ps, partOK k d p) : okT d (.node k [] [] ps) := by
  obtain ⟨x, hx⟩ := partsT_some ps true h
  exact ⟨x, by rw [ruleT_grp hk, if_pos ⟨rfl, rfl, hl⟩]; exact hx⟩
theorem okT_len {d : Nat} {r : RT} (hk : r.kind = 4 ∨ r.kind = 5) (h : okT d r) : 2 ≤ r.parts.length := by
  obtain ⟨x, hx⟩ := h
  match r, hk, hx with
  | .node k a b ps, hk, hx =>
    have hk' : k = 4 ∨ k = 5 := hk
    rw [ruleT_grp hk'] at hx
    split at hx
    · rename_i hc; exact hc.2.2
    · cases hx
theorem flat_ne {d : Nat} {k : Int} (hk : k = 4 ∨ k = 5) {r : RT} (h : okT d r) : flat k r ≠ [] := by
  unfold flat
  split
  · rename_i e
    intro hn
    have := okT_len (by rw [e]; exact hk) h
    rw [hn] at this
    simp at this
  · simp
theorem both_ok {d : Nat} (hG : ∀ l r l', dOne d l = some (r, l') → opOK d r) : ∀ l r l', dOp (dOne d) andL 5 l = some (r, l') → opOK d r := by
  intro l r l' e
  refine loop_ok (Q := partOK 5 d) (fun l r l' hg p hp => ?_) (fun l r l' hg => flat_ne (.inr rfl) (hG l r l' hg).ok) (opOK d) (fun p hp => hp.op) (fun ps hl hps => ?_) _ l [] r l' (fun p hp => by cases hp) e
  · have hr := hG l r l' hg
    unfold flat at hp
    split at hp
    · rename_i e5
      have := okT_parts (.inr e5) hr.ok p hp
      rw [e5] at this; exact this
    · rename_i e5
      rw [List.mem_singleton.1 hp]
      exact hr.part e5
  · have h := okT_grp (.inr rfl) hl hps
    exact ⟨fun e => absurd (show (5 : Int) = 4 from e) (by decide), fun _ => h⟩
theorem rule_ok {d : Nat} (hG : ∀ l r l', dOne d l = some (r, l') → opOK d r) : ∀ l r l', dRule d l = some (r, l') → okT d r := by
  intro l r l' e
  refine loop_ok (Q := partOK 4 d) (fun l r l' hg p hp => ?_) (fun l r l' hg => flat_ne (.inl rfl) (both_ok hG l r l' hg).ok) (okT d) (fun p hp => ?_) (fun ps hl hps => okT_grp (.inl rfl) hl hps) _ l [] r l' (fun p hp => by cases hp) e
  · have hr := (both_ok hG l r l' hg).ok
    unfold flat at hp
    split at hp
    · rename_i e4
      have := okT_parts (.inl e4) hr p hp
      rw [e4] at this; exact this
    · rename_i e4
      rw [List.mem_singleton.1 hp]
      obtain ⟨x, hx⟩ := hr
      exact ⟨e4, x, by rw [partT_ne (fun e => absurd e.1 (by decide))]; exact hx⟩
  · obtain ⟨_, x, hx⟩ := hp
    rw [partT_ne (fun e => absurd e.1 (by decide))] at hx
    exact ⟨x, hx⟩
theorem good_of {t : List UInt8} (h1 : isName t = true) (h2 : t ≠ thisL) : good t = true := by
  unfold good
  rw [h1, beq_false_of_ne h2]; rfl
theorem leaf1 (d : Nat) : opOK d (.node 1 [] [] []) := ⟨fun e => absurd (show (1 : Int) = 4 from e) (by decide), fun _ => ⟨thisL, by unfold ruleT; rw [if_pos rfl, if_pos ⟨rfl, rfl, rfl⟩]⟩⟩
theorem leaf2 (d : Nat) {t : List UInt8} (h : good t = true) : opOK d (.node 2 t [] []) := ⟨fun e => absurd (show (2 : Int) = 4 from e) (by decide), fun _ => ⟨t, by unfold ruleT; rw [if_neg (by decide), if_pos rfl, if_pos ⟨h, rfl, rfl⟩]⟩⟩
theorem leaf3 (d : Nat) {t u : List UInt8} (h : good t = true) (h2 : good u = true) : opOK d (.node 3 t u []) := ⟨fun e => absurd (show (3 : Int) = 4 from e) (by decide), fun _ => ⟨t ++ arL ++ u, by unfold ruleT; rw [if_neg (by decide), if_neg (by decide), if_pos rfl, if_pos ⟨h, h2, rfl⟩]⟩⟩
theorem name_ok (d : Nat) (t : List UInt8) (l1 : Toks) (r : RT) (l' : Toks) (ht : isName t = true) (e : dName t l1 = some (r, l')) : opOK d r := by
  unfold dName at e
  have hs : ∀ l', (if t = thisL then some (RT.node 1 [] [] [], l1) else some (RT.node 2 t [] [], l1)) = some (r, l') → opOK d r := fun l' e => by
    split at e
    · obtain ⟨rfl, _⟩ := Prod.mk.inj (Option.some.inj e); exact leaf1 d
    · rename_i hn
      obtain ⟨rfl, _⟩ := Prod.mk.inj (Option.some.inj e); exact leaf2 d (good_of ht hn)
  split at e
  · split at e
    · rename_i hc
      obtain ⟨rfl, _⟩ := Prod.mk.inj (Option.some.inj e)
      exact leaf3 d (good_of ht hc.2.2.1) (good_of hc.2.1 hc.2.2.2)
    · exact hs _ e
  · exact hs _ e
theorem one_ok : ∀ (d : Nat) (l : Toks) (r : RT) (l' : Toks), dOne d l = some (r, l') → opOK d r := by
  intro d
  induction d with
  | zero =>
    intro l r l' e
    match l, e with
    | t :: l1, e =>
      unfold dOne at e
      by_cases h0 : t = opL
      · simp only [h0, if_true] at e; cases e
      · simp only [h0, if_false] at e
        split at e
        · rename_i ht; exact name_ok 0 t l1 r l' ht e
        · cases e
  | succ d ih =>
    intro l r l' e
    match l, e with
    | t :: l1, e =>
      unfold dOne at e
      by_cases h0 : t = opL
      · simp only [h0, if_true] at e
        cases hg : dOp (dOp (dOne d) andL 5) orL 4 l1 with
        | none => rw [hg] at e; cases e
        | some x =>
          obtain ⟨r2, l2⟩ := x
          rw [hg] at e
          have z := rule_ok ih l1 r2 l2 hg
          simp only at e
          split at e
          · obtain ⟨rfl, rfl⟩ := Prod.mk.inj (Option.some.inj e)
            exact ⟨fun _ => ⟨d, rfl, z⟩, fun _ => okT_more z⟩
          · cases e
      · simp only [h0, if_false] at e
        split at e
        · rename_i ht; exact name_ok (d + 1) t l1 r l' ht e
        · cases e
theorem dRule_ok (d : Nat) (l : Toks) (r : RT) (l' : Toks) (e : dRule d l = some (r, l')) : okT d r := rule_ok (one_ok d) l r l' e
/-- every name and rule of a schema may be written -/
def allS (ts : List TyD) : Prop := ∀ t ∈ ts, good t.1 = true ∧ ∀ x ∈ t.2, (good x.1 = true ∧ x.1 ≠ typeL) ∧ okT 8 x.2
theorem allS_text : ∀ (ts : List TyD), allS ts → ∃ x, tysT ts = some x
  | [], _ => ⟨[], by unfold tysT; rfl⟩
  | (n, rels) :: ts, h => by
    obtain ⟨hn, hr⟩ := h (n, rels) (by simp)
    obtain ⟨u, hu⟩ := allS_text ts fun t ht => h t (List.mem_cons_of_mem _ ht)
    have hrel : ∀ (qs : List RelD), (∀ x ∈ qs, (good x.1 = true ∧ x.1 ≠ typeL) ∧ okT 8 x.2) → ∃ y, relsT qs = some y := by
      intro qs
      induction qs with
      | nil => intro _; exact ⟨[], by unfold relsT; rfl⟩
      | cons q qs ih =>
        intro hq
        obtain ⟨m, r⟩ := q
        obtain ⟨h1, x, hx⟩ := hq (m, r) (by simp)
        obtain ⟨y, hy⟩ := ih fun x hx => hq x (List.mem_cons_of_mem _ hx)
        have e : relT m r = some (m ++ [32, 61, 32] ++ x ++ [10]) := by
          unfold relT; rw [if_pos h1]
          have hx' : ruleT 8 r = some x := hx
          rw [hx']; rfl
        refine ⟨(m ++ [32, 61, 32] ++ x ++ [10]) ++ y, ?_⟩
        conv => lhs; unfold relsT
        rw [e, hy]; rfl
    obtain ⟨y, hy⟩ := hrel rels hr
    have hn' : good n = true := hn
    refine ⟨typeL ++ [32] ++ n ++ [10] ++ (y ++ u), ?_⟩
    rw [tysT_cons, if_pos hn']
    unfold restT
    rw [hy, hu]; rfl
theorem lineD_all {ts ts' : List TyD} {l : Toks} (ha : allS ts) (h : lineD ts l = some ts') : allS ts' := by
  match l, h with
  | [a, b], h =>
    rw [lineD_two'] at h
    split at h
    · rename_i hc
      obtain rfl := Option.some.inj h
      intro t ht
      rcases List.mem_append.1 ht with ht | ht
      · exact ha t ht
      · rw [List.mem_singleton.1 ht]
        exact ⟨hc.2, fun x hx => by cases hx⟩
    · cases h
  | a :: e :: c :: l2, h =>
    rw [lineD_more'] at h
    split at h
    · rename_i hc
      cases hg : dRule 8 (c :: l2) with
      | none => rw [hg] at h; cases h
      | some x =>
        obtain ⟨r, l'⟩ := x
        rw [hg] at h
        have hr := dRule_ok 8 _ r l' hg
        cases l' with
        | nil =>
          obtain rfl := Option.some.inj h
          unfold addRel
          cases hl : ts.getLast? with
          | none => exact ha
          | some x =>
            obtain ⟨n, rels⟩ := x
            obtain ⟨ys, rfl⟩ := List.getLast?_eq_some_iff.1 hl
            rw [List.dropLast_concat]
            intro t ht
            rcases List.mem_append.1 ht with ht | ht
            · exact ha t (List.mem_append_left _ ht)
            · rw [List.mem_singleton.1 ht]
              obtain ⟨h1, h2⟩ := ha (n, rels) (by simp)
              refine ⟨h1, fun x hx => ?_⟩
              rcases List.mem_append.1 hx with hx | hx
              · exact h2 x hx
              · rw [List.mem_singleton.1 hx]
                exact ⟨⟨hc.2.1, hc.2.2.1⟩, hr⟩
        | cons _ _ => cases h
    · cases h
theorem parseD_all : ∀ (ls : List (List UInt8)) (i : Nat) (ts ts' : List TyD) (k : Int), allS ts → parseD ls i ts = (some ts', k) → allS ts'
  | [], i, ts, ts', k, ha, h => by
    obtain ⟨h1, _⟩ := Prod.mk.inj h
    obtain rfl := Option.some.inj h1
    exact ha
  | l :: ls, i, ts, ts', k, ha, h => by
    unfold parseD at h
    split at h
    · exact parseD_all ls _ ts ts' k ha h
    · cases hx : lineX ts l with
      | none => rw [hx] at h; cases (Prod.mk.inj h).1
      | some t2 =>
        rw [hx] at h
        refine parseD_all ls _ t2 ts' k ?_ h
        unfold lineX at hx
        split at hx
        · cases hx
        · exact lineD_all ha hx
/-- what is parsed may be printed -/
theorem parsed_text {ls : List (List UInt8)} {ts : List TyD} {k : Int} (h : parseD ls 0 [] = (some ts, k)) : ∃ x, tysT ts = some x := allS_text ts (parseD_all ls 0 [] ts k (fun t ht => by cases ht) h)
end Go.Proofs.YtkibaaljpbcjeaaDoor
namespace Go.Proofs.YtkibaaljpbcjeaaDoor
def opS (k : Int) : List UInt8 := if k = 4 then orL else andL
mutual
/-- a rule's tokens -/
def kR : RT → Toks
  | .node k a b ps => if k = 1 then [thisL] else if k = 2 then [a] else if k = 3 then [a, arL, b] else kPs k true ps
def kPs (k : Int) (first : Bool) : List RT → Toks
  | [] => []
  | p :: ps => (if first then [] else [opS k]) ++ (if k = 5 ∧ p.kind = 4 then [opL] ++ kR p ++ [clL] else kR p) ++ kPs k false ps
end
def kP (k : Int) (p : RT) : Toks := if k = 5 ∧ p.kind = 4 then [opL] ++ kR p ++ [clL] else kR p
theorem kPs_nil (k : Int) (first : Bool) : kPs k first [] = [] := by unfold kPs; rfl
theorem kPs_cons (k : Int) (first : Bool) (p : RT) (ps : List RT) : kPs k first (p :: ps) = (if first then [] else [opS k]) ++ kP k p ++ kPs k false ps := by
  conv => lhs; unfold kPs
  rfl
theorem kR_grp {k : Int} (hk : k = 4 ∨ k = 5) (a b : List UInt8) (ps : List RT) : kR (.node k a b ps) = kPs k true ps := by
  conv => lhs; unfold kR
  rw [if_neg (by omega), if_neg (by omega), if_neg (by omega)]
theorem good_both {a : List UInt8} (h : good a = true) : isName a = true ∧ a ≠ thisL := by
  unfold good at h
  rw [Bool.and_eq_true, Bool.not_eq_true'] at h
  exact ⟨h.1, fun e => by rw [e] at h; cases h.2⟩
/-- what may follow a name -/
def stops (y : List UInt8) : Prop := y = [] ∨ (∃ u, y = 32 :: u) ∨ (∃ u, y = 41 :: u) ∨ ∃ u, y = 45 :: 62 :: u
theorem arrow_two {c d : UInt8} {u : List UInt8} (h : arrow (c :: d :: u) = true) : d = 62 := by
  unfold arrow Lib.hasPrefix at h
  simp at h
  first | exact h.2 | exact h.2.symm
theorem arrow_one {c : UInt8} : arrow [c] = false := by
  cases h : arrow [c]
  · rfl
  · unfold arrow Lib.hasPrefix at h
    simp at h
theorem word_stop {y : List UInt8} (h : stops y) : word y = [] := by
  rcases h with rfl | ⟨u, rfl⟩ | ⟨u, rfl⟩ | ⟨u, rfl⟩
  · rfl
  · unfold word; rw [show nameByte 32 = false by decide]; rfl
  · unfold word; rw [show nameByte 41 = false by decide]; rfl
  · unfold word
    have : arrow (45 :: 62 :: u) = true := by unfold arrow Lib.hasPrefix; simp
    rw [this]; simp
theorem arrow_name {c : UInt8} {t y : List UInt8} (ht : ∀ b ∈ t, nameByte b = true) (hy : stops y) : arrow (c :: (t ++ y)) = false := by
  cases h : arrow (c :: (t ++ y))
  · rfl
  · exfalso
    match t, ht, h with
    | d :: t, ht, h =>
      have := arrow_two (u := t ++ y) h
      have hd := ht d (by simp)
      rw [this] at hd
      exact absurd hd (by decide)
    | [], _, h =>
      rw [List.nil_append] at h
      rcases hy with rfl | ⟨u, rfl⟩ | ⟨u, rfl⟩ | ⟨u, rfl⟩
      · rw [arrow_one] at h; cases h
      · exact absurd (arrow_two h) (by decide)
      · exact absurd (arrow_two h) (by decide)
      · exact absurd (arrow_two h) (by decide)
theorem word_stops : ∀ (t y : List UInt8), (∀ b ∈ t, nameByte b = true) → stops y → word (t ++ y) = t
  | [], y, _, hy => by rw [List.nil_append]; exact word_stop hy
  | c :: t, y, ht, hy => by
    have h1 := ht c (by simp)
    have h2 := arrow_name (c := c) (fun b hb => ht b (List.mem_cons_of_mem _ hb)) hy
    rw [List.cons_append]
    unfold word
    rw [h1, h2, word_stops t y (fun b hb => ht b (List.mem_cons_of_mem _ hb)) hy]
    rfl
theorem name_bytes {t : List UInt8} (h : isName t = true) : (∀ b ∈ t, nameByte b = true) ∧ t ≠ [] ∧ t.length ≤ 32 := by
  unfold isName at h
  rw [Bool.and_eq_true, Bool.and_eq_true, List.all_eq_true, decide_eq_true_eq, decide_eq_true_eq] at h
  exact ⟨h.1.1, fun e => by rw [e] at h; simp at h, h.2⟩
theorem name_toks {t y : List UInt8} (h : isName t = true) (hy : stops y) : toks (t ++ y) = t :: toks y := by
  obtain ⟨hb, hne, _⟩ := name_bytes h
  match t, hb, hne with
  | c :: t, hb, _ =>
    have h1 := hb c (by simp)
    have h2 := arrow_name (c := c) (fun b hb' => hb b (List.mem_cons_of_mem _ hb')) hy
    have h3 := word_stops (c :: t) y hb hy
    rw [List.cons_append] at h3 ⊢
    rw [tk_word h1 h2, h3, ← List.cons_append, List.drop_left]
theorem sep_toks {k : Int} (hk : k = 4 ∨ k = 5) (y : List UInt8) : toks (sepT k ++ y) = opS k :: toks y := by
  rcases hk with rfl | rfl
  · show toks (32 :: 124 :: 32 :: y) = orL :: toks y
    rw [tk_blank (by decide), tk_op (by decide), tk_blank (by decide)]; rfl
  · show toks (32 :: 38 :: 32 :: y) = andL :: toks y
    rw [tk_blank (by decide), tk_op (by decide), tk_blank (by decide)]; rfl
theorem stops_sep {k : Int} (y : List UInt8) : stops (sepT k ++ y) := by
  unfold sepT
  split
  · exact .inr (.inl ⟨124 :: 32 :: y, rfl⟩)
  · exact .inr (.inl ⟨38 :: 32 :: y, rfl⟩)
theorem ne_ops : ([] : List UInt8) ≠ opL ∧ ([] : List UInt8) ≠ clL ∧ ([] : List UInt8) ≠ arL ∧ ([] : List UInt8) ≠ orL ∧ ([] : List UInt8) ≠ andL ∧ ([] : List UInt8) ≠ thisL := by decide
/-- a printed rule's tokens -/
theorem rule_toks : ∀ (r : RT) (d : Nat) (x : List UInt8), ruleT d r = some x → (∀ y, stops y → toks (x ++ y) = kR r ++ toks y) ∧ [] ∉ kR r
  | .node k a b ps, d, x, h => by
    by_cases hk : k = 4 ∨ k = 5
    · rw [ruleT_grp hk] at h
      split at h
      · rw [kR_grp hk]
        have hp : ∀ p ∈ ps, ∀ d t, ruleT d p = some t → (∀ y, stops y → toks (t ++ y) = kR p ++ toks y) ∧ [] ∉ kR p := fun p hp d t ht => rule_toks p d t ht
        have hpt : ∀ p ∈ ps, ∀ t, partT k d p = some t → (∀ y, stops y → toks (t ++ y) = kP k p ++ toks y) ∧ [] ∉ kP k p := fun p hpm t ht => by
          unfold kP
          by_cases h5 : k = 5 ∧ p.kind = 4
          · rw [if_pos h5]
            cases d with
            | zero => rw [partT_0 h5.1 h5.2] at ht; cases ht
            | succ d =>
              rw [partT_s h5.1 h5.2] at ht
              cases hr : ruleT d p with
              | none => rw [hr] at ht; cases ht
              | some z =>
                rw [hr] at ht
                obtain rfl := Option.some.inj ht
                obtain ⟨g1, g2⟩ := hp p hpm d z hr
                refine ⟨fun y _ => ?_, fun hm => ?_⟩
                · have e : opL ++ z ++ clL ++ y = 40 :: (z ++ (41 :: y)) := by simp [opL, clL]
                  rw [e, tk_op (by decide), g1 (41 :: y) (.inr (.inr (.inl ⟨y, rfl⟩))), tk_op (by decide)]
                  simp [opL, clL]
                · rcases List.mem_append.1 hm with hm | hm
                  · rcases List.mem_append.1 hm with hm | hm
                    · exact ne_ops.1 (List.mem_singleton.1 hm)
                    · exact g2 hm
                  · exact ne_ops.2.1 (List.mem_singleton.1 hm)
          · rw [if_neg h5]
            rw [partT_ne h5] at ht
            exact hp p hpm d t ht
        have hps : ∀ (qs : List RT), (∀ p ∈ qs, p ∈ ps) → ∀ (first : Bool) (z : List UInt8), partsT k d first qs = some z → (∀ y, stops y → toks (z ++ y) = kPs k first qs ++ toks y) ∧ [] ∉ kPs k first qs ∧ (first = false → ∀ y, stops y → stops (z ++ y)) := by
          intro qs
          induction qs with
          | nil =>
            intro _ first z hz
            unfold partsT at hz
            obtain rfl := Option.some.inj hz
            rw [kPs_nil]
            exact ⟨fun y _ => rfl, by simp, fun _ y hy => hy⟩
          | cons q qs ih =>
            intro hm first z hz
            rw [partsT_cons] at hz
            by_cases hq : q.kind = k
            · rw [if_pos hq] at hz; cases hz
            · rw [if_neg hq] at hz
              cases ht : partT k d q with
              | none => rw [ht] at hz; cases hz
              | some t =>
                rw [ht] at hz
                cases hu : partsT k d false qs with
                | none => rw [hu] at hz; cases hz
                | some u =>
                  rw [hu] at hz
                  obtain rfl := Option.some.inj hz
                  obtain ⟨i1, i2, i3⟩ := ih (fun p hp => hm p (List.mem_cons_of_mem _ hp)) false u hu
                  obtain ⟨g1, g2⟩ := hpt q (hm q (by simp)) t ht
                  rw [kPs_cons]
                  have hbody : ∀ y, stops y → toks (t ++ (u ++ y)) = kP k q ++ (kPs k false qs ++ toks y) := fun y hy => by
                    rw [g1 (u ++ y) (i3 rfl y hy), i1 y hy]
                  refine ⟨fun y hy => ?_, fun hmm => ?_, fun hf y hy => ?_⟩
                  · cases first
                    · have e : (if false = true then [] else sepT k) ++ t ++ u ++ y = sepT k ++ (t ++ (u ++ y)) := by simp
                      rw [e, sep_toks hk, hbody y hy]; simp
                    · have e : (if true = true then [] else sepT k) ++ t ++ u ++ y = t ++ (u ++ y) := by simp
                      rw [e, hbody y hy]; simp
                  · rcases List.mem_append.1 hmm with hmm | hmm
                    · rcases List.mem_append.1 hmm with hmm | hmm
                      · cases first
                        · have h1 := List.mem_singleton.1 (show [] ∈ [opS k] from hmm)
                          unfold opS at h1
                          split at h1
                          · exact ne_ops.2.2.2.1 h1
                          · exact ne_ops.2.2.2.2.1 h1
                        · cases hmm
                      · exact g2 hmm
                    · exact i2 hmm
                  · rw [hf]
                    have e : (if false = true then [] else sepT k) ++ t ++ u ++ y = sepT k ++ (t ++ u ++ y) := by simp
                    rw [e]; exact stops_sep _
        obtain ⟨j1, j2, _⟩ := hps ps (fun _ h => h) true x h
        exact ⟨j1, j2⟩
      · cases h
    · unfold ruleT at h
      unfold kR
      by_cases h1 : k = 1
      · rw [if_pos h1] at h ⊢
        split at h
        · obtain rfl := Option.some.inj h
          refine ⟨fun y hy => name_toks (by decide) hy, fun hm => ne_ops.2.2.2.2.2 (List.mem_singleton.1 hm)⟩
        · cases h
      rw [if_neg h1] at h ⊢
      by_cases h2 : k = 2
      · rw [if_pos h2] at h ⊢
        split at h
        · rename_i hc
          obtain rfl := Option.some.inj h
          exact ⟨fun y hy => name_toks (good_both hc.1).1 hy, fun hm => good_ne hc.1 (List.mem_singleton.1 hm).symm⟩
        · cases h
      rw [if_neg h2] at h ⊢
      by_cases h3 : k = 3
      · rw [if_pos h3] at h ⊢
        split at h
        · rename_i hc
          obtain rfl := Option.some.inj h
          refine ⟨fun y hy => ?_, fun hm => ?_⟩
          · have e : a ++ arL ++ b ++ y = a ++ (45 :: 62 :: (b ++ y)) := by simp [arL]
            rw [e, name_toks (good_both hc.1).1 (.inr (.inr (.inr ⟨_, rfl⟩))), tk_arrow (by unfold arrow Lib.hasPrefix; simp)]
            show a :: arL :: toks (b ++ y) = _
            rw [name_toks (good_both hc.2.1).1 hy]; rfl
          · rcases List.mem_cons.1 hm with hm | hm
            · exact good_ne hc.1 hm.symm
            · rcases List.mem_cons.1 hm with hm | hm
              · exact ne_ops.2.2.1 hm
              · exact good_ne hc.2.1 (List.mem_singleton.1 hm).symm
        · cases h
      rw [if_neg h3, if_neg hk] at h
      cases h
termination_by r => SizeOf.sizeOf r
decreasing_by exact part_lt (r := .node k a b ps) hp
end Go.Proofs.YtkibaaljpbcjeaaDoor
namespace Go.Proofs.YtkibaaljpbcjeaaDoor
theorem flat_ne_kind {k : Int} {p : RT} (h : p.kind ≠ k) : flat k p = [p] := by unfold flat; rw [if_neg h]
theorem kPs_len (k : Int) : ∀ (ps : List RT), ps.length ≤ (kPs k false ps).length
  | [] => Nat.zero_le _
  | p :: ps => by
    have := kPs_len k ps
    rw [kPs_cons]
    simp only [List.length_append, List.length_cons]
    have e : (if false = true then ([] : Toks) else [opS k]).length = 1 := rfl
    rw [e]; omega
/-- the loop over printed parts -/
theorem loop_back {G : Toks → Option (RT × Toks)} {k : Int} {F : Toks → Prop} (hF : ∀ l, F (opS k :: l)) (rest : Toks) (hR : F rest) (hh : rest.head? ≠ some (opS k)) : ∀ (qs : List RT) (p : RT) (acc : List RT) (n : Nat), (∀ q, q = p ∨ q ∈ qs → q.kind ≠ k ∧ ∀ l, F l → G (kP k q ++ l) = some (q, l)) → qs.length < n → dLoop G (opS k) k n (kP k p ++ kPs k false qs ++ rest) acc = some (joined k (acc ++ p :: qs), rest)
  | [], p, acc, n, h, hn => by
    obtain ⟨n, rfl⟩ : ∃ m, n = m + 1 := ⟨n - 1, by omega⟩
    obtain ⟨h1, h2⟩ := h p (.inl rfl)
    unfold dLoop
    rw [kPs_nil, List.append_nil, h2 rest hR]
    simp only
    rw [if_neg hh, flat_ne_kind h1]
  | q :: qs, p, acc, n, h, hn => by
    obtain ⟨n, rfl⟩ : ∃ m, n = m + 1 := ⟨n - 1, by omega⟩
    obtain ⟨h1, h2⟩ := h p (.inl rfl)
    have e : kP k p ++ kPs k false (q :: qs) ++ rest = kP k p ++ (opS k :: (kP k q ++ kPs k false qs ++ rest)) := by
      rw [kPs_cons]; simp
    unfold dLoop
    rw [e, h2 _ (hF _)]
    simp only
    rw [if_pos (by rfl), flat_ne_kind h1]
    have ih := loop_back hF rest hR hh qs q (acc ++ [p]) n (fun x hx => h x (.inr (by
      rcases hx with rfl | hx
      · simp
      · exact List.mem_cons_of_mem _ hx))) (by simpa using hn)
    rw [List.tail_cons, ih]
    simp
theorem joined_two {k : Int} {ps : List RT} (h : 2 ≤ ps.length) : joined k ps = .node k [] [] ps := by
  unfold joined
  split
  · simp at h
  · rfl
theorem op_back {G : Toks → Option (RT × Toks)} {k : Int} {F : Toks → Prop} (hF : ∀ l, F (opS k :: l)) (rest : Toks) (hR : F rest) (hh : rest.head? ≠ some (opS k)) (ps : List RT) (hl : 2 ≤ ps.length) (h : ∀ q ∈ ps, q.kind ≠ k ∧ ∀ l, F l → G (kP k q ++ l) = some (q, l)) : dOp G (opS k) k (kPs k true ps ++ rest) = some (.node k [] [] ps, rest) := by
  match ps, hl, h with
  | p :: qs, hl, h =>
    have e : kPs k true (p :: qs) = kP k p ++ kPs k false qs := by
      rw [kPs_cons]; simp
    unfold dOp
    rw [e, loop_back hF rest hR hh qs p [] _ (fun q hq => h q (by
      rcases hq with rfl | hq
      · simp
      · exact List.mem_cons_of_mem _ hq)) (by
        have := kPs_len k qs
        simp only [List.length_append]; omega)]
    rw [List.nil_append, joined_two hl]
theorem op_one {G : Toks → Option (RT × Toks)} {op : List UInt8} {k : Int} {l rest : Toks} {r : RT} (h : G l = some (r, rest)) (hk : r.kind ≠ k) (hh : rest.head? ≠ some op) : dOp G op k l = some (r, rest) := by
  unfold dOp dLoop
  rw [h]
  simp only
  rw [if_neg hh, List.nil_append, flat_ne_kind hk]
  rfl
theorem name_op {a : List UInt8} (h : isName a = true) : a ≠ opL := fun e => by rw [e] at h; exact absurd h (by decide)
structure Back (r : RT) (d : Nat) : Prop where
  one : r.kind ≠ 4 → r.kind ≠ 5 → ∀ rest, rest.head? ≠ some arL → dOne d (kR r ++ rest) = some (r, rest)
  both : r.kind ≠ 4 → ∀ rest, rest.head? ≠ some arL → rest.head? ≠ some andL → dOp (dOne d) andL 5 (kR r ++ rest) = some (r, rest)
  rule : ∀ rest, rest.head? ≠ some arL → rest.head? ≠ some andL → rest.head? ≠ some orL → dRule d (kR r ++ rest) = some (r, rest)
theorem Back.leaf {r : RT} {d : Nat} (h4 : r.kind ≠ 4) (h5 : r.kind ≠ 5) (h : ∀ rest, rest.head? ≠ some arL → dOne d (kR r ++ rest) = some (r, rest)) : Back r d := by
  have hb : ∀ rest, rest.head? ≠ some arL → rest.head? ≠ some andL → dOp (dOne d) andL 5 (kR r ++ rest) = some (r, rest) := fun rest h1 h2 => op_one (h rest h1) h5 h2
  exact ⟨fun _ _ => h, fun _ => hb, fun rest h1 h2 h3 => op_one (hb rest h1 h2) h4 h3⟩
theorem dOne_cons (d : Nat) (t : List UInt8) (l1 : Toks) (h0 : t ≠ opL) (h1 : isName t = true) : dOne d (t :: l1) = dName t l1 := by
  unfold dOne
  cases d <;> simp only [if_neg h0, if_pos h1]
theorem dName_this (l1 : Toks) : dName thisL l1 = some (.node 1 [] [] [], l1) := by
  unfold dName
  split
  · rw [if_neg (fun e => e.2.2.1 rfl), if_pos rfl]
  · rw [if_pos rfl]
theorem dName_same {t : List UInt8} {l1 : Toks} (ht : t ≠ thisL) (h : l1.head? ≠ some arL) : dName t l1 = some (.node 2 t [] [], l1) := by
  unfold dName
  split
  · rw [if_neg (fun e => h (by rw [e.1]; rfl)), if_neg ht]
  · rw [if_neg ht]
theorem dName_via {t u : List UInt8} {l1 : Toks} (ht : t ≠ thisL) (hu : isName u = true) (hu2 : u ≠ thisL) : dName t (arL :: u :: l1) = some (.node 3 t u [], l1) := by
  unfold dName
  exact if_pos ⟨rfl, hu, ht, hu2⟩
theorem rule_back : ∀ (r : RT) (d : Nat) (x : List UInt8), ruleT d r = some x → Back r d
  | .node k a b ps, d, x, h => by
    by_cases hk : k = 4 ∨ k = 5
    · rw [ruleT_grp hk] at h
      split at h
      · rename_i hc
        obtain ⟨rfl, rfl, hl⟩ := hc
        have hin := partsT_inv ps true x h
        have hrec : ∀ p ∈ ps, ∀ d t, ruleT d p = some t → Back p d := fun p hp d t ht => rule_back p d t ht
        have hK : kR (.node k [] [] ps) = kPs k true ps := kR_grp hk _ _ _
        rcases hk with rfl | rfl
        · have hrule : ∀ rest, rest.head? ≠ some arL → rest.head? ≠ some andL → rest.head? ≠ some orL → dRule d (kR (.node 4 [] [] ps) ++ rest) = some (.node 4 [] [] ps, rest) := fun rest h1 h2 h3 => by
            rw [hK]
            refine op_back (k := 4) (F := fun l => l.head? ≠ some arL ∧ l.head? ≠ some andL) (fun l => ⟨by show some orL ≠ some arL; decide, by show some orL ≠ some andL; decide⟩) rest ⟨h1, h2⟩ h3 ps hl fun q hq => ?_
            obtain ⟨hqk, t, ht⟩ := hin q hq
            rw [partT_ne (fun e => absurd e.1 (by decide))] at ht
            refine ⟨hqk, fun l hF => ?_⟩
            unfold kP
            rw [if_neg (fun e => absurd e.1 (by decide))]
            exact (hrec q hq d t ht).both hqk l hF.1 hF.2
          exact ⟨fun e => absurd rfl e, fun e => absurd rfl e, hrule⟩
        · have hboth : ∀ rest, rest.head? ≠ some arL → rest.head? ≠ some andL → dOp (dOne d) andL 5 (kR (.node 5 [] [] ps) ++ rest) = some (.node 5 [] [] ps, rest) := fun rest h1 h2 => by
            rw [hK]
            refine op_back (k := 5) (F := fun l => l.head? ≠ some arL) (fun l => by show some andL ≠ some arL; decide) rest h1 h2 ps hl fun q hq => ?_
            obtain ⟨hqk, t, ht⟩ := hin q hq
            refine ⟨hqk, fun l hF => ?_⟩
            unfold kP
            by_cases h4 : q.kind = 4
            · rw [if_pos ⟨rfl, h4⟩]
              cases d with
              | zero => rw [partT_0 rfl h4] at ht; cases ht
              | succ d =>
                rw [partT_s rfl h4] at ht
                cases hr : ruleT d q with
                | none => rw [hr] at ht; cases ht
                | some z =>
                  have hb := (hrec q hq d z hr).rule (clL :: l) (by show some clL ≠ some arL; decide) (by show some clL ≠ some andL; decide) (by show some clL ≠ some orL; decide)
                  have e : [opL] ++ kR q ++ [clL] ++ l = opL :: (kR q ++ (clL :: l)) := by simp
                  rw [e]
                  unfold dOne
                  unfold dRule at hb
                  simp only [if_true, hb]
                  rw [if_pos (by rfl)]
                  rfl
            · rw [if_neg (fun e => h4 e.2)]
              rw [partT_ne (fun e => h4 e.2)] at ht
              exact (hrec q hq d t ht).one h4 hqk l hF
          exact ⟨fun _ e => absurd rfl e, fun _ => hboth, fun rest h1 h2 h3 => op_one (hboth rest h1 h2) (show (5 : Int) ≠ 4 by decide) h3⟩
      · cases h
    · have h4 : (RT.node k a b ps).kind ≠ 4 := fun e => hk (.inl e)
      have h5 : (RT.node k a b ps).kind ≠ 5 := fun e => hk (.inr e)
      refine Back.leaf h4 h5 fun rest hh => ?_
      unfold ruleT at h
      unfold kR
      by_cases h1 : k = 1
      · rw [if_pos h1] at h ⊢
        split at h
        · rename_i hc
          obtain ⟨rfl, rfl, rfl⟩ := hc
          subst h1
          show dOne d (thisL :: rest) = _
          rw [dOne_cons d thisL rest (by decide) (by decide), dName_this]
        · cases h
      rw [if_neg h1] at h ⊢
      by_cases h2 : k = 2
      · rw [if_pos h2] at h ⊢
        split at h
        · rename_i hc
          obtain ⟨hg, rfl, rfl⟩ := hc
          subst h2
          obtain ⟨n1, n2⟩ := good_both hg
          show dOne d (a :: rest) = _
          rw [dOne_cons d a rest (name_op n1) n1, dName_same n2 hh]
        · cases h
      rw [if_neg h2] at h ⊢
      by_cases h3 : k = 3
      · rw [if_pos h3] at h ⊢
        split at h
        · rename_i hc
          obtain ⟨hg, hg2, rfl⟩ := hc
          subst h3
          obtain ⟨n1, n2⟩ := good_both hg
          obtain ⟨m1, m2⟩ := good_both hg2
          show dOne d (a :: arL :: b :: rest) = _
          rw [dOne_cons d a _ (name_op n1) n1, dName_via n2 m1 m2]
        · cases h
      rw [if_neg h3, if_neg hk] at h
      cases h
termination_by r => SizeOf.sizeOf r
decreasing_by exact part_lt (r := .node k a b ps) hp
end Go.Proofs.YtkibaaljpbcjeaaDoor
namespace Go.Proofs.YtkibaaljpbcjeaaDoor
theorem nl_name {t : List UInt8} (h : isName t = true) : (10 : UInt8) ∉ t := fun hm => absurd ((name_bytes h).1 10 hm) (by decide)
theorem nl_sep (k : Int) : (10 : UInt8) ∉ sepT k := by unfold sepT; split <;> decide
/-- no line ends in a rule -/
theorem rule_nl : ∀ (r : RT) (d : Nat) (x : List UInt8), ruleT d r = some x → (10 : UInt8) ∉ x
  | .node k a b ps, d, x, h => by
    by_cases hk : k = 4 ∨ k = 5
    · rw [ruleT_grp hk] at h
      split at h
      · have hrec : ∀ p ∈ ps, ∀ d t, ruleT d p = some t → (10 : UInt8) ∉ t := fun p hp d t ht => rule_nl p d t ht
        have hpt : ∀ p ∈ ps, ∀ t, partT k d p = some t → (10 : UInt8) ∉ t := fun p hpm t ht => by
          by_cases h5 : k = 5 ∧ p.kind = 4
          · cases d with
            | zero => rw [partT_0 h5.1 h5.2] at ht; cases ht
            | succ d =>
              rw [partT_s h5.1 h5.2] at ht
              cases hr : ruleT d p with
              | none => rw [hr] at ht; cases ht
              | some z =>
                rw [hr] at ht
                obtain rfl := Option.some.inj ht
                have := hrec p hpm d z hr
                simp [opL, clL, this]
          · rw [partT_ne h5] at ht
            exact hrec p hpm d t ht
        have hps : ∀ (qs : List RT), (∀ p ∈ qs, p ∈ ps) → ∀ (first : Bool) (z : List UInt8), partsT k d first qs = some z → (10 : UInt8) ∉ z := by
          intro qs
          induction qs with
          | nil =>
            intro _ first z hz
            unfold partsT at hz
            obtain rfl := Option.some.inj hz
            simp
          | cons q qs ih =>
            intro hm first z hz
            rw [partsT_cons] at hz
            by_cases hq : q.kind = k
            · rw [if_pos hq] at hz; cases hz
            · rw [if_neg hq] at hz
              cases ht : partT k d q with
              | none => rw [ht] at hz; cases hz
              | some t =>
                rw [ht] at hz
                cases hu : partsT k d false qs with
                | none => rw [hu] at hz; cases hz
                | some u =>
                  rw [hu] at hz
                  obtain rfl := Option.some.inj hz
                  have h1 := hpt q (hm q (by simp)) t ht
                  have h2 := ih (fun p hp => hm p (List.mem_cons_of_mem _ hp)) false u hu
                  have h3 := nl_sep k
                  cases first <;> simp [h1, h2, h3]
        exact hps ps (fun _ h => h) true x h
      · cases h
    · unfold ruleT at h
      by_cases h1 : k = 1
      · rw [if_pos h1] at h
        split at h
        · obtain rfl := Option.some.inj h; decide
        · cases h
      rw [if_neg h1] at h
      by_cases h2 : k = 2
      · rw [if_pos h2] at h
        split at h
        · rename_i hc
          obtain rfl := Option.some.inj h
          exact nl_name (good_both hc.1).1
        · cases h
      rw [if_neg h2] at h
      by_cases h3 : k = 3
      · rw [if_pos h3] at h
        split at h
        · rename_i hc
          obtain rfl := Option.some.inj h
          have e1 := nl_name (good_both hc.1).1
          have e2 := nl_name (good_both hc.2.1).1
          simp [arL, e1, e2]
        · cases h
      rw [if_neg h3, if_neg hk] at h
      cases h
termination_by r => SizeOf.sizeOf r
decreasing_by exact part_lt (r := .node k a b ps) hp
/-- a line that begins with a name says something -/
theorem name_line {c : UInt8} {s : List UInt8} (h : nameByte c = true) : blankL (c :: s) = false := by
  have hb := (name_no h).1
  have e : trimL (c :: s) = c :: s := trim_no hb
  unfold blankL
  rw [e]
  have h47 : c ≠ 47 := fun e => by rw [e] at h; exact absurd h (by decide)
  have e2 : Lib.hasPrefix (c :: s) [47, 47] = ((47 == c) && Lib.hasPrefix s [47]) := rfl
  rw [e2, beq_false_of_ne (Ne.symm h47)]
  rfl
theorem stops_nil : stops [] := .inl rfl
theorem toks_type {n : List UInt8} (h : good n = true) : toks (typeL ++ [32] ++ n) = [typeL, n] := by
  have e : typeL ++ [32] ++ n = typeL ++ (32 :: (n ++ [])) := by simp
  rw [e, name_toks (by decide) (.inr (.inl ⟨_, rfl⟩)), tk_blank (by decide), name_toks (good_both h).1 stops_nil, tk_nil]
theorem lineX_type {n : List UInt8} (h : good n = true) (ts : List TyD) : lineX ts (typeL ++ [32] ++ n) = some (ts ++ [(n, [])]) := by
  unfold lineX
  rw [toks_type h, if_neg, lineD_two', if_pos ⟨rfl, h⟩]
  intro hm
  rcases List.mem_cons.1 hm with hm | hm
  · exact absurd hm (by decide)
  · exact good_ne h (List.mem_singleton.1 hm).symm
theorem toks_rel {m x : List UInt8} {r : RT} (h : good m = true) (hx : ruleT 8 r = some x) : toks (m ++ [32, 61, 32] ++ x) = m :: eqL :: kR r := by
  have e : m ++ [32, 61, 32] ++ x = m ++ (32 :: 61 :: 32 :: (x ++ [])) := by simp
  rw [e, name_toks (good_both h).1 (.inr (.inl ⟨_, rfl⟩)), tk_blank (by decide), tk_op (by decide), tk_blank (by decide), (rule_toks r 8 x hx).1 [] stops_nil, tk_nil, List.append_nil]
  rfl
theorem lineX_rel {m x : List UInt8} {r : RT} (h : good m = true) (hm : m ≠ typeL) (hx : ruleT 8 r = some x) {ts : List TyD} (hts : ts ≠ []) : lineX ts (m ++ [32, 61, 32] ++ x) = some (addRel ts m r) := by
  have hb := (rule_back r 8 x hx).rule [] (by decide) (by decide) (by decide)
  rw [List.append_nil] at hb
  have hne : kR r ≠ [] := fun e => by
    rw [e] at hb
    have : dRule 8 [] = none := by rfl
    rw [this] at hb; cases hb
  unfold lineX
  rw [toks_rel h hx, if_neg]
  · cases hk : kR r with
    | nil => exact absurd hk hne
    | cons c l2 =>
      rw [hk] at hb
      rw [lineD_more', if_pos ⟨hts, h, hm, rfl⟩, hb]
  · intro hmm
    rcases List.mem_cons.1 hmm with hmm | hmm
    · exact good_ne h hmm.symm
    · rcases List.mem_cons.1 hmm with hmm | hmm
      · exact absurd hmm (by decide)
      · exact (rule_toks r 8 x hx).2 hmm
/-- lines of a text that ends a line -/
theorem cutL_line {p y : List UInt8} (h : (10 : UInt8) ∉ p) : cutL (p ++ [10] ++ y) = p :: cutL y := by
  have e : p ++ [10] ++ y = p ++ 10 :: y := by simp
  rw [e, cutL_app p y h]
theorem addRel_last (ts : List TyD) (n : List UInt8) (rels : List RelD) (m : List UInt8) (r : RT) : addRel (ts ++ [(n, rels)]) m r = ts ++ [(n, rels ++ [(m, r)])] := by
  unfold addRel
  rw [List.getLast?_concat, List.dropLast_concat]
theorem rels_back : ∀ (rels : List RelD) (x y : List UInt8) (i : Nat) (ts : List TyD) (n : List UInt8) (done : List RelD), relsT rels = some x → ∃ i', parseD (cutL (x ++ y)) i (ts ++ [(n, done)]) = parseD (cutL y) i' (ts ++ [(n, done ++ rels)])
  | [], x, y, i, ts, n, done, h => by
    unfold relsT at h
    obtain rfl := Option.some.inj h
    exact ⟨i, by rw [List.append_nil]; rfl⟩
  | (m, r) :: rels, x, y, i, ts, n, done, h => by
    unfold relsT at h
    cases hr : relT m r with
    | none => rw [hr] at h; cases h
    | some t =>
      rw [hr] at h
      cases hu : relsT rels with
      | none => rw [hu] at h; cases h
      | some u =>
        rw [hu] at h
        obtain rfl := Option.some.inj h
        unfold relT at hr
        split at hr
        · rename_i hc
          cases hx : ruleT 8 r with
          | none => rw [hx] at hr; cases hr
          | some z =>
            rw [hx] at hr
            obtain rfl := Option.some.inj hr
            obtain ⟨i', hi⟩ := rels_back rels u y (i + 1) ts n (done ++ [(m, r)]) hu
            refine ⟨i', ?_⟩
            have hnl : (10 : UInt8) ∉ m ++ [32, 61, 32] ++ z := by
              have h1 := nl_name (good_both hc.1).1
              have h2 := rule_nl r 8 z hx
              simp [h1, h2]
            have e : m ++ [32, 61, 32] ++ z ++ [10] ++ u ++ y = (m ++ [32, 61, 32] ++ z) ++ [10] ++ (u ++ y) := by simp
            rw [show (fun u => m ++ [32, 61, 32] ++ z ++ [10] ++ u) u = m ++ [32, 61, 32] ++ z ++ [10] ++ u from rfl, e, cutL_line hnl]
            have hbl : blankL (m ++ [32, 61, 32] ++ z) = false := by
              obtain ⟨h1, h2, _⟩ := name_bytes (good_both hc.1).1
              match m, h1, h2 with
              | c :: m, h1, _ => exact name_line (h1 c (by simp))
            conv => lhs; unfold parseD
            rw [hbl, lineX_rel hc.1 hc.2 hx (by simp), addRel_last]
            simp only [Bool.false_eq_true, if_false]
            rw [hi]
            simp
        · cases hr
theorem tys_back : ∀ (ts' : List TyD) (x : List UInt8) (i : Nat) (ts : List TyD), tysT ts' = some x → parseD (cutL x) i ts = (some (ts ++ ts'), 0)
  | [], x, i, ts, h => by
    unfold tysT at h
    obtain rfl := Option.some.inj h
    rw [List.append_nil]
    rfl
  | (n, rels) :: ts', x, i, ts, h => by
    rw [tysT_cons] at h
    split at h
    · rename_i hg
      unfold restT at h
      cases hr : relsT rels with
      | none => rw [hr] at h; cases h
      | some t =>
        rw [hr] at h
        cases hu : tysT ts' with
        | none => rw [hu] at h; cases h
        | some u =>
          rw [hu] at h
          obtain rfl := Option.some.inj h
          have hnl : (10 : UInt8) ∉ typeL ++ [32] ++ n := by
            have h1 := nl_name (good_both hg).1
            have h2 : (10 : UInt8) ∉ typeL := by decide
            simp [h1, h2]
          have e : typeL ++ [32] ++ n ++ [10] ++ (t ++ u) = (typeL ++ [32] ++ n) ++ [10] ++ (t ++ u) := rfl
          obtain ⟨i', hi⟩ := rels_back rels t u (i + 1) ts n [] hr
          show parseD (cutL (typeL ++ [32] ++ n ++ [10] ++ (t ++ u))) i ts = _
          rw [e, cutL_line hnl]
          have hbl : blankL (typeL ++ [32] ++ n) = false := name_line (c := 116) (s := [121, 112, 101] ++ [32] ++ n) (by decide)
          conv => lhs; unfold parseD
          rw [hbl, lineX_type hg]
          simp only [Bool.false_eq_true, if_false]
          rw [hi, List.nil_append, tys_back ts' u i' _ hu]
          simp
    · cases h
/-- a printed schema is parsed to that schema -/
theorem printed_back {ts : List TyD} {x : List UInt8} (h : tysT ts = some x) : parseD (linesG x) 0 [] = (some ts, 0) := by
  rw [linesG_cut]
  exact tys_back ts x 0 [] h
end Go.Proofs.YtkibaaljpbcjeaaDoor
namespace Go.Proofs.YtkibaaljpbcjeaaDoor
mutual
/-- how long a rule's text is at most -/
def RT.tl : RT → Nat
  | .node _ a b ps => a.length + b.length + 4 + tlL ps
def tlL : List RT → Nat
  | [] => 0
  | p :: ps => p.tl + 5 + tlL ps
end
theorem tlL_nil : tlL [] = 0 := by unfold tlL; rfl
theorem tlL_cons (p : RT) (ps : List RT) : tlL (p :: ps) = p.tl + 5 + tlL ps := by conv => lhs; unfold tlL
theorem tl_node (k : Int) (a b : List UInt8) (ps : List RT) : (RT.node k a b ps).tl = a.length + b.length + 4 + tlL ps := by conv => lhs; unfold RT.tl
theorem sep_len3 (k : Int) : (sepT k).length = 3 := by unfold sepT; split <;> rfl
/-- a text is no longer -/
theorem rule_len : ∀ (r : RT) (d : Nat) (x : List UInt8), ruleT d r = some x → x.length ≤ r.tl
  | .node k a b ps, d, x, h => by
    rw [tl_node]
    by_cases hk : k = 4 ∨ k = 5
    · rw [ruleT_grp hk] at h
      split at h
      · have hrec : ∀ p ∈ ps, ∀ d t, ruleT d p = some t → t.length ≤ p.tl := fun p hp d t ht => rule_len p d t ht
        have hpt : ∀ p ∈ ps, ∀ t, partT k d p = some t → t.length ≤ p.tl + 2 := fun p hpm t ht => by
          by_cases h5 : k = 5 ∧ p.kind = 4
          · cases d with
            | zero => rw [partT_0 h5.1 h5.2] at ht; cases ht
            | succ d =>
              rw [partT_s h5.1 h5.2] at ht
              cases hr : ruleT d p with
              | none => rw [hr] at ht; cases ht
              | some z =>
                rw [hr] at ht
                obtain rfl := Option.some.inj ht
                have := hrec p hpm d z hr
                simp only [List.length_append]
                rw [show opL.length = 1 from rfl, show clL.length = 1 from rfl]
                omega
          · rw [partT_ne h5] at ht
            have := hrec p hpm d t ht
            omega
        have hps : ∀ (qs : List RT), (∀ p ∈ qs, p ∈ ps) → ∀ (first : Bool) (z : List UInt8), partsT k d first qs = some z → z.length ≤ tlL qs := by
          intro qs
          induction qs with
          | nil =>
            intro _ first z hz
            unfold partsT at hz
            obtain rfl := Option.some.inj hz
            simp
          | cons q qs ih =>
            intro hm first z hz
            rw [tlL_cons]
            rw [partsT_cons] at hz
            by_cases hq : q.kind = k
            · rw [if_pos hq] at hz; cases hz
            · rw [if_neg hq] at hz
              cases ht : partT k d q with
              | none => rw [ht] at hz; cases hz
              | some t =>
                rw [ht] at hz
                cases hu : partsT k d false qs with
                | none => rw [hu] at hz; cases hz
                | some u =>
                  rw [hu] at hz
                  obtain rfl := Option.some.inj hz
                  have h1 := hpt q (hm q (by simp)) t ht
                  have h2 := ih (fun p hp => hm p (List.mem_cons_of_mem _ hp)) false u hu
                  have h3 := sep_len3 k
                  cases first
                  · show (sepT k ++ t ++ u).length ≤ _
                    simp only [List.length_append]; omega
                  · show ([] ++ t ++ u).length ≤ _
                    simp only [List.length_append, List.length_nil]; omega
        have := hps ps (fun _ h => h) true x h
        omega
      · cases h
    · unfold ruleT at h
      by_cases h1 : k = 1
      · rw [if_pos h1] at h
        split at h
        · obtain rfl := Option.some.inj h
          rw [show thisL.length = 4 from rfl]; omega
        · cases h
      rw [if_neg h1] at h
      by_cases h2 : k = 2
      · rw [if_pos h2] at h
        split at h
        · obtain rfl := Option.some.inj h
          omega
        · cases h
      rw [if_neg h2] at h
      by_cases h3 : k = 3
      · rw [if_pos h3] at h
        split at h
        · obtain rfl := Option.some.inj h
          simp only [List.length_append]
          rw [show arL.length = 2 from rfl]; omega
        · cases h
      rw [if_neg h3, if_neg hk] at h
      cases h
termination_by r => SizeOf.sizeOf r
decreasing_by exact part_lt (r := .node k a b ps) hp
theorem tlL_app : ∀ (a b : List RT), tlL (a ++ b) = tlL a + tlL b
  | [], b => by rw [List.nil_append, tlL_nil, Nat.zero_add]
  | p :: a, b => by rw [List.cons_append, tlL_cons, tlL_cons, tlL_app a b]; omega
theorem tlL_one (r : RT) : tlL [r] = r.tl + 5 := by rw [tlL_cons, tlL_nil]
theorem tl_parts (r : RT) : 4 + tlL r.parts ≤ r.tl := by
  cases r with
  | node k a b ps =>
    rw [tl_node]
    show 4 + tlL ps ≤ a.length + b.length + 4 + tlL ps
    omega
theorem tlL_flat (k : Int) (r : RT) : tlL (flat k r) ≤ r.tl + 5 := by
  unfold flat
  split
  · have := tl_parts r; omega
  · rw [tlL_one]; exact Nat.le_refl _
theorem tl_joined (k : Int) (ps : List RT) : (joined k ps).tl ≤ 4 + tlL ps := by
  unfold joined
  split
  · rename_i r; rw [tlL_one]; omega
  · rw [tl_node]; simp
theorem tl_joined_flat (k : Int) (r : RT) : (joined k (flat k r)).tl ≤ r.tl := by
  unfold flat
  split
  · have h1 := tl_joined k r.parts
    have h2 := tl_parts r
    omega
  · exact Nat.le_refl _
/-- a parse takes that much -/
def TG (G : Toks → Option (RT × Toks)) : Prop := ∀ l r l', G l = some (r, l') → r.tl + 5 + 9 * tw l' ≤ 9 * tw l
theorem loop_tl {G : Toks → Option (RT × Toks)} {op : List UInt8} {kind : Int} (hG : TG G) (L : Nat) : ∀ (n : Nat) (l : Toks) (acc : List RT) (r : RT) (l' : Toks), ((acc = [] ∧ tw l ≤ L) ∨ tlL acc + 9 + 9 * tw l ≤ 9 * L) → dLoop G op kind n l acc = some (r, l') → r.tl + 5 + 9 * tw l' ≤ 9 * L
  | 0, _, _, _, _, _, e => by cases e
  | n + 1, l, acc, r, l', h, e => by
    unfold dLoop at e
    cases hg : G l with
    | none => rw [hg] at e; cases e
    | some x =>
      obtain ⟨r1, l1⟩ := x
      rw [hg] at e
      have hw := hG l r1 l1 hg
      have hf := tlL_flat kind r1
      have ha := tlL_app acc (flat kind r1)
      simp only at e
      split at e
      · rename_i hh
        have ht := tw_tail hh
        refine loop_tl hG L n _ _ r l' (.inr ?_) e
        rw [ha]
        rcases h with ⟨rfl, h⟩ | h
        · have := tlL_nil
          omega
        · omega
      · obtain ⟨rfl, rfl⟩ := Prod.mk.inj (Option.some.inj e)
        rcases h with ⟨rfl, h⟩ | h
        · have := tl_joined_flat kind r1
          rw [List.nil_append]; omega
        · have := tl_joined kind (acc ++ flat kind r1)
          omega
theorem op_tl {G : Toks → Option (RT × Toks)} {op : List UInt8} {kind : Int} (hG : TG G) : TG (dOp G op kind) := fun l r l' e => loop_tl hG (tw l) _ l [] r l' (.inl ⟨rfl, Nat.le_refl _⟩) e
theorem tl_leaf (k : Int) (a b : List UInt8) : (RT.node k a b []).tl = a.length + b.length + 4 := by rw [tl_node, tlL_nil]
theorem name_tl (t : List UInt8) (l1 : Toks) (r : RT) (l' : Toks) (e : dName t l1 = some (r, l')) : r.tl + 5 + 9 * tw l' ≤ 9 * tw (t :: l1) := by
  unfold dName at e
  have h1 : tw (t :: l1) = t.length + 1 + tw l1 := rfl
  have hleaf : ∀ k, r = .node k t [] [] ∨ r = .node k [] [] [] → l' = l1 → r.tl + 5 + 9 * tw l' ≤ 9 * tw (t :: l1) := fun k h hl => by
    subst hl
    rcases h with rfl | rfl <;> rw [tl_leaf, h1] <;> simp only [List.length_nil] <;> omega
  split at e
  · rename_i a t2 l2
    split at e
    · obtain ⟨rfl, rfl⟩ := Prod.mk.inj (Option.some.inj e)
      have h2 : tw (a :: t2 :: l2) = a.length + 1 + (t2.length + 1 + tw l2) := rfl
      rw [tl_leaf, h1, h2]; omega
    · split at e
      · obtain ⟨e1, e2⟩ := Prod.mk.inj (Option.some.inj e); exact hleaf 1 (.inr e1.symm) e2.symm
      · obtain ⟨e1, e2⟩ := Prod.mk.inj (Option.some.inj e); exact hleaf 2 (.inl e1.symm) e2.symm
  · split at e
    · obtain ⟨e1, e2⟩ := Prod.mk.inj (Option.some.inj e); exact hleaf 1 (.inr e1.symm) e2.symm
    · obtain ⟨e1, e2⟩ := Prod.mk.inj (Option.some.inj e); exact hleaf 2 (.inl e1.symm) e2.symm
theorem one_tl : ∀ (d : Nat), TG (dOne d) := by
  intro d
  induction d with
  | zero =>
    intro l r l' e
    match l, e with
    | t :: l1, e =>
      unfold dOne at e
      by_cases h0 : t = opL
      · simp only [h0, if_true] at e; cases e
      · simp only [h0, if_false] at e
        split at e
        · exact name_tl t l1 r l' e
        · cases e
  | succ d ih =>
    intro l r l' e
    match l, e with
    | t :: l1, e =>
      unfold dOne at e
      by_cases h0 : t = opL
      · simp only [h0, if_true] at e
        cases hg : dOp (dOp (dOne d) andL 5) orL 4 l1 with
        | none => rw [hg] at e; cases e
        | some x =>
          obtain ⟨r2, l2⟩ := x
          rw [hg] at e
          have z := op_tl (op_tl ih) l1 r2 l2 hg
          simp only at e
          split at e
          · rename_i hc
            obtain ⟨rfl, rfl⟩ := Prod.mk.inj (Option.some.inj e)
            have := tw_tail hc
            have h1 : tw (t :: l1) = t.length + 1 + tw l1 := rfl
            omega
          · cases e
      · simp only [h0, if_false] at e
        split at e
        · exact name_tl t l1 r l' e
        · cases e
theorem rule_tl (d : Nat) : TG (dRule d) := op_tl (op_tl (one_tl d))
/-- how long a schema's text is at most -/
def relsL : List RelD → Nat
  | [] => 0
  | (m, r) :: rels => m.length + r.tl + 4 + relsL rels
def tysL : List TyD → Nat
  | [] => 0
  | (n, rels) :: ts => n.length + 6 + relsL rels + tysL ts
theorem rels_len : ∀ (rels : List RelD) (x : List UInt8), relsT rels = some x → x.length ≤ relsL rels
  | [], x, h => by
    unfold relsT at h
    obtain rfl := Option.some.inj h
    exact Nat.le_refl _
  | (m, r) :: rels, x, h => by
    unfold relsT at h
    cases hr : relT m r with
    | none => rw [hr] at h; cases h
    | some t =>
      rw [hr] at h
      cases hu : relsT rels with
      | none => rw [hu] at h; cases h
      | some u =>
        rw [hu] at h
        obtain rfl := Option.some.inj h
        have h1 := rels_len rels u hu
        unfold relT at hr
        split at hr
        · cases hx : ruleT 8 r with
          | none => rw [hx] at hr; cases hr
          | some z =>
            rw [hx] at hr
            obtain rfl := Option.some.inj hr
            have h2 := rule_len r 8 z hx
            show (m ++ [32, 61, 32] ++ z ++ [10] ++ u).length ≤ m.length + r.tl + 4 + relsL rels
            simp only [List.length_append, List.length_cons, List.length_nil]; omega
        · cases hr
theorem tys_len : ∀ (ts : List TyD) (x : List UInt8), tysT ts = some x → x.length ≤ tysL ts
  | [], x, h => by
    unfold tysT at h
    obtain rfl := Option.some.inj h
    exact Nat.le_refl _
  | (n, rels) :: ts, x, h => by
    rw [tysT_cons] at h
    split at h
    · unfold restT at h
      cases hr : relsT rels with
      | none => rw [hr] at h; cases h
      | some t =>
        rw [hr] at h
        cases hu : tysT ts with
        | none => rw [hu] at h; cases h
        | some u =>
          rw [hu] at h
          obtain rfl := Option.some.inj h
          have h1 := rels_len rels t hr
          have h2 := tys_len ts u hu
          show (typeL ++ [32] ++ n ++ [10] ++ (t ++ u)).length ≤ n.length + 6 + relsL rels + tysL ts
          simp only [List.length_append, List.length_cons, List.length_nil]
          rw [show typeL.length = 4 from rfl]; omega
    · cases h
theorem tysL_app : ∀ (a b : List TyD), tysL (a ++ b) = tysL a + tysL b
  | [], b => by rw [List.nil_append]; show _ = 0 + _; omega
  | (n, rels) :: a, b => by
    show n.length + 6 + relsL rels + tysL (a ++ b) = n.length + 6 + relsL rels + tysL a + tysL b
    rw [tysL_app a b]; omega
theorem relsL_app : ∀ (a b : List RelD), relsL (a ++ b) = relsL a + relsL b
  | [], b => by rw [List.nil_append]; show _ = 0 + _; omega
  | (m, r) :: a, b => by
    show m.length + r.tl + 4 + relsL (a ++ b) = m.length + r.tl + 4 + relsL a + relsL b
    rw [relsL_app a b]; omega
theorem addRel_L (ts : List TyD) (m : List UInt8) (r : RT) : tysL (addRel ts m r) ≤ tysL ts + (m.length + r.tl + 4) := by
  unfold addRel
  cases hl : ts.getLast? with
  | none => show tysL ts ≤ _; omega
  | some x =>
    obtain ⟨n, rels⟩ := x
    obtain ⟨ys, rfl⟩ := List.getLast?_eq_some_iff.1 hl
    rw [List.dropLast_concat]
    show tysL (ys ++ [(n, rels ++ [(m, r)])]) ≤ _
    rw [tysL_app, tysL_app]
    show tysL ys + (n.length + 6 + relsL (rels ++ [(m, r)]) + 0) ≤ tysL ys + (n.length + 6 + relsL rels + 0) + _
    rw [relsL_app]
    show _ + (n.length + 6 + (relsL rels + (m.length + r.tl + 4 + 0)) + 0) ≤ _
    omega
theorem lineD_L {ts ts' : List TyD} {l : Toks} (h : lineD ts l = some ts') : tysL ts' ≤ tysL ts + 9 * tw l := by
  match l, h with
  | [a, b], h =>
    rw [lineD_two'] at h
    split at h
    · obtain rfl := Option.some.inj h
      have : tw [a, b] = a.length + 1 + (b.length + 1 + 0) := rfl
      rw [tysL_app, this]
      show _ + (b.length + 6 + 0 + 0) ≤ _
      omega
    · cases h
  | a :: e :: c :: l2, h =>
    rw [lineD_more'] at h
    split at h
    · cases hg : dRule 8 (c :: l2) with
      | none => rw [hg] at h; cases h
      | some x =>
        obtain ⟨r, l'⟩ := x
        rw [hg] at h
        have hw := rule_tl 8 _ r l' hg
        cases l' with
        | nil =>
          obtain rfl := Option.some.inj h
          have := addRel_L ts a r
          have h1 : tw (a :: e :: c :: l2) = a.length + 1 + (e.length + 1 + tw (c :: l2)) := rfl
          omega
        | cons _ _ => cases h
    · cases h
theorem parseD_L : ∀ (ls : List (List UInt8)) (i : Nat) (ts ts' : List TyD) (k : Int), parseD ls i ts = (some ts', k) → tysL ts' ≤ tysL ts + 18 * sumL ls
  | [], i, ts, ts', k, h => by
    obtain ⟨h1, _⟩ := Prod.mk.inj h
    obtain rfl := Option.some.inj h1
    omega
  | l :: ls, i, ts, ts', k, h => by
    unfold parseD at h
    have hs : sumL (l :: ls) = l.length + sumL ls := rfl
    split at h
    · have := parseD_L ls _ ts ts' k h
      omega
    · cases hx : lineX ts l with
      | none => rw [hx] at h; cases (Prod.mk.inj h).1
      | some t2 =>
        rw [hx] at h
        have h1 := parseD_L ls _ t2 ts' k h
        unfold lineX at hx
        split at hx
        · cases hx
        · have h2 := lineD_L hx
          have h3 := toks_tw l
          omega
/-- a parsed schema's text is not much longer -/
theorem parse_L {s x : List UInt8} {ts : List TyD} {k : Int} (h : parseD (linesG s) 0 [] = (some ts, k)) (hx : tysT ts = some x) : x.length ≤ 18 * s.length := by
  have h1 := parseD_L _ _ _ _ _ h
  rw [linesG_cut] at h1
  have h2 := cutL_sum s
  have h3 : tysL [] = 0 := rfl
  have h4 := tys_len ts x hx
  omega
end Go.Proofs.YtkibaaljpbcjeaaDoor
