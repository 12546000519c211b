/- What is parsed may be printed. No program in sight. -/
import Derived.Test.YtkibaaljpbcjeaaDoorSFx
namespace Go.Proofs.YtkibaaljpbcjeaaDoor
/-- a rule that may be written with so many brackets left -/
def okT (d : Nat) (r : RT) : Prop := ∃ x, ruleT d r = some x
/-- a part that may stand in a group of that kind -/
def partOK (k : Int) (d : Nat) (p : RT) : Prop := p.kind ≠ k ∧ ∃ x, partT k d p = some x
theorem partsT_some {k : Int} {d : Nat} : ∀ (ps : List RT) (first : Bool), (∀ p ∈ ps, partOK k d p) → ∃ x, partsT k d first ps = some x
  | [], first, _ => ⟨[], by unfold partsT; rfl⟩
  | p :: ps, first, h => by
    obtain ⟨hk, t, ht⟩ := h p (by simp)
    obtain ⟨u, hu⟩ := partsT_some (k := k) (d := d) ps false fun q hq => h q (List.mem_cons_of_mem _ hq)
    exact ⟨(if first then [] else sepT k) ++ t ++ u, by rw [partsT_cons, if_neg hk, ht, hu]⟩
theorem partsT_inv {k : Int} {d : Nat} : ∀ (ps : List RT) (first : Bool) (x : List UInt8), partsT k d first ps = some x → ∀ p ∈ ps, partOK k d p
  | [], _, _, _ => fun p hp => by cases hp
  | q :: ps, first, x, h => by
    rw [partsT_cons] at h
    by_cases hk : q.kind = k
    · rw [if_pos hk] at h; cases h
    · rw [if_neg hk] at h
      cases ht : partT k d q with
      | none => rw [ht] at h; cases h
      | some t =>
        rw [ht] at h
        cases hu : partsT k d false ps with
        | none => rw [hu] at h; cases h
        | some u =>
          intro p hp
          rcases List.mem_cons.1 hp with rfl | hp
          · exact ⟨hk, t, ht⟩
          · exact partsT_inv ps false u hu p hp
theorem ruleT_grp {k : Int} (hk : k = 4 ∨ k = 5) (d : Nat) (a b : List UInt8) (ps : List RT) : ruleT d (.node k a b ps) = if a = [] ∧ b = [] ∧ 2 ≤ ps.length then partsT k d true ps else none := by
  conv => lhs; unfold ruleT
  rw [if_neg (by omega), if_neg (by omega), if_neg (by omega), if_pos hk]
theorem ruleT_leaf {k : Int} (hk : k ≠ 4 ∧ k ≠ 5) (d d' : Nat) (a b : List UInt8) (ps : List RT) : ruleT d (.node k a b ps) = ruleT d' (.node k a b ps) := by
  conv => lhs; unfold ruleT
  conv => rhs; unfold ruleT
  rw [if_neg (show ¬ (k = 4 ∨ k = 5) by omega), if_neg (show ¬ (k = 4 ∨ k = 5) by omega)]
theorem partT_ne {k : Int} {d : Nat} {p : RT} (h : ¬ (k = 5 ∧ p.kind = 4)) : partT k d p = ruleT d p := by unfold partT; rw [if_neg h]
/-- more brackets left: the same text -/
theorem ruleT_more : ∀ (r : RT) (d : Nat) (x : List UInt8), ruleT d r = some x → ruleT (d + 1) r = some x
  | .node k a b ps, d, x, h => by
    by_cases hk : k = 4 ∨ k = 5
    · rw [ruleT_grp hk] at h ⊢
      split at h
      · rename_i hc
        rw [if_pos hc]
        have hp : ∀ p ∈ ps, ∀ t, partT k d p = some t → partT k (d + 1) p = some t := fun p hp t ht => by
          by_cases h5 : k = 5 ∧ p.kind = 4
          · cases d with
            | zero => rw [partT_0 h5.1 h5.2] at ht; cases ht
            | succ d =>
              rw [partT_s h5.1 h5.2] at ht ⊢
              cases hr : ruleT d p with
              | none => rw [hr] at ht; cases ht
              | some y =>
                rw [hr] at ht
                rw [ruleT_more p d y hr]; exact ht
          · rw [partT_ne h5] at ht ⊢
            exact ruleT_more p d t ht
        have hps : ∀ (qs : List RT), (∀ p ∈ qs, p ∈ ps) → ∀ (first : Bool) (y : List UInt8), partsT k d first qs = some y → partsT k (d + 1) first qs = some y := by
          intro qs
          induction qs with
          | nil => intro _ first y hy; unfold partsT at hy ⊢; exact hy
          | cons q qs ih =>
            intro hm first y hy
            rw [partsT_cons] at hy ⊢
            by_cases hq : q.kind = k
            · rw [if_pos hq] at hy; cases hy
            · rw [if_neg hq] at hy ⊢
              cases ht : partT k d q with
              | none => rw [ht] at hy; cases hy
              | some t =>
                rw [ht] at hy
                rw [hp q (hm q (by simp)) t ht]
                cases hu : partsT k d false qs with
                | none => rw [hu] at hy; cases hy
                | some u =>
                  rw [hu] at hy
                  rw [ih (fun p hp => hm p (List.mem_cons_of_mem _ hp)) false u hu]
                  exact hy
        exact hps ps (fun _ h => h) true x h
      · cases h
    · rw [ruleT_leaf (d' := d) (by omega)]; exact h
termination_by r => SizeOf.sizeOf r
decreasing_by all_goals exact part_lt (r := .node k a b ps) hp
theorem okT_more {d : Nat} {r : RT} (h : okT d r) : okT (d + 1) r := by
  obtain ⟨x, hx⟩ := h
  exact ⟨x, ruleT_more r d x hx⟩
theorem okT_parts {d : Nat} {r : RT} (hk : r.kind = 4 ∨ r.kind = 5) (h : okT d r) : ∀ p ∈ r.parts, partOK r.kind d p := by
  obtain ⟨x, hx⟩ := h
  match r, hk, hx with
  | .node k a b ps, hk, hx =>
    have hk' : k = 4 ∨ k = 5 := hk
    rw [ruleT_grp hk'] at hx
    split at hx
    · exact partsT_inv ps true x hx
    · cases hx
/-- an operand of 'and' that may be written -/
def opOK (d : Nat) (r : RT) : Prop := (r.kind = 4 → ∃ d', d = d' + 1 ∧ okT d' r) ∧ (r.kind ≠ 4 → okT d r)
theorem opOK.ok {d : Nat} {r : RT} (h : opOK d r) : okT d r := by
  by_cases h4 : r.kind = 4
  · obtain ⟨d', rfl, h'⟩ := h.1 h4
    exact okT_more h'
  · exact h.2 h4
theorem opOK.part {d : Nat} {r : RT} (h : opOK d r) (h5 : r.kind ≠ 5) : partOK 5 d r := by
  refine ⟨h5, ?_⟩
  by_cases h4 : r.kind = 4
  · obtain ⟨d', rfl, x, hx⟩ := h.1 h4
    exact ⟨_, by rw [partT_s rfl h4, hx]; rfl⟩
  · obtain ⟨x, hx⟩ := h.2 h4
    exact ⟨x, by rw [partT_ne (fun e => h4 e.2)]; exact hx⟩
theorem partOK.op {d : Nat} {r : RT} (h : partOK 5 d r) : opOK d r := by
  obtain ⟨_, x, hx⟩ := h
  constructor
  · intro h4
    cases d with
    | zero => rw [partT_0 rfl h4] at hx; cases hx
    | succ d =>
      rw [partT_s rfl h4] at hx
      cases hr : ruleT d r with
      | none => rw [hr] at hx; cases hx
      | some y => exact ⟨d, rfl, y, hr⟩
  · intro h4
    rw [partT_ne (fun e => h4 e.2)] at hx
    exact ⟨x, hx⟩
theorem loop_ok {G : Toks → Option (RT × Toks)} {op : List UInt8} {kind : Int} {Q : RT → Prop} (hG : ∀ l r l', G l = some (r, l') → ∀ p ∈ flat kind r, Q p) (hne : ∀ l r l', G l = some (r, l') → flat kind r ≠ []) (P : RT → Prop) (h1 : ∀ p, Q p → P p) (h2 : ∀ ps, 2 ≤ ps.length → (∀ p ∈ ps, Q p) → P (.node kind [] [] ps)) : ∀ (n : Nat) (l : Toks) (acc : List RT) (r : RT) (l' : Toks), (∀ p ∈ acc, Q p) → dLoop G op kind n l acc = some (r, l') → P r
  | 0, _, _, _, _, _, e => by cases e
  | n + 1, l, acc, r, l', h, e => by
    unfold dLoop at e
    cases hg : G l with
    | none => rw [hg] at e; cases e
    | some x =>
      obtain ⟨r1, l1⟩ := x
      rw [hg] at e
      have hall : ∀ p ∈ acc ++ flat kind r1, Q p := fun p hp => by
        rcases List.mem_append.1 hp with hp | hp
        · exact h p hp
        · exact hG l r1 l1 hg p hp
      have hnil : acc ++ flat kind r1 ≠ [] := fun e => hne l r1 l1 hg (List.append_eq_nil_iff.1 e).2
      simp only at e
      split at e
      · exact loop_ok hG hne P h1 h2 n _ _ r l' hall e
      · obtain ⟨rfl, rfl⟩ := Prod.mk.inj (Option.some.inj e)
        generalize acc ++ flat kind r1 = ps at *
        match ps, hall, hnil with
        | [], _, hnil => exact absurd rfl hnil
        | [p], hall, _ => exact h1 p (hall p (by simp))
        | p :: q :: ps, hall, _ => exact h2 _ (by simp) hall
theorem okT_grp {k : Int} (hk : k = 4 ∨ k = 5) {d : Nat} {ps : List RT} (hl : 2 ≤ ps.length) (h : ∀ p ∈ ps, partOK k d p) : okT d (.node k [] [] ps) := by
  obtain ⟨x, hx⟩ := partsT_some ps true h
  exact ⟨x, by rw [ruleT_grp hk, if_pos ⟨rfl, rfl, hl⟩]; exact hx⟩
theorem okT_len {d : Nat} {r : RT} (hk : r.kind = 4 ∨ r.kind = 5) (h : okT d r) : 2 ≤ r.parts.length := by
  obtain ⟨x, hx⟩ := h
  match r, hk, hx with
  | .node k a b ps, hk, hx =>
    have hk' : k = 4 ∨ k = 5 := hk
    rw [ruleT_grp hk'] at hx
    split at hx
    · rename_i hc; exact hc.2.2
    · cases hx
theorem flat_ne {d : Nat} {k : Int} (hk : k = 4 ∨ k = 5) {r : RT} (h : okT d r) : flat k r ≠ [] := by
  unfold flat
  split
  · rename_i e
    intro hn
    have := okT_len (by rw [e]; exact hk) h
    rw [hn] at this
    simp at this
  · simp
theorem both_ok {d : Nat} (hG : ∀ l r l', dOne d l = some (r, l') → opOK d r) : ∀ l r l', dOp (dOne d) andL 5 l = some (r, l') → opOK d r := by
  intro l r l' e
  refine loop_ok (Q := partOK 5 d) (fun l r l' hg p hp => ?_) (fun l r l' hg => flat_ne (.inr rfl) (hG l r l' hg).ok) (opOK d) (fun p hp => hp.op) (fun ps hl hps => ?_) _ l [] r l' (fun p hp => by cases hp) e
  · have hr := hG l r l' hg
    unfold flat at hp
    split at hp
    · rename_i e5
      have := okT_parts (.inr e5) hr.ok p hp
      rw [e5] at this; exact this
    · rename_i e5
      rw [List.mem_singleton.1 hp]
      exact hr.part e5
  · have h := okT_grp (.inr rfl) hl hps
    exact ⟨fun e => absurd (show (5 : Int) = 4 from e) (by decide), fun _ => h⟩
theorem rule_ok {d : Nat} (hG : ∀ l r l', dOne d l = some (r, l') → opOK d r) : ∀ l r l', dRule d l = some (r, l') → okT d r := by
  intro l r l' e
  refine loop_ok (Q := partOK 4 d) (fun l r l' hg p hp => ?_) (fun l r l' hg => flat_ne (.inl rfl) (both_ok hG l r l' hg).ok) (okT d) (fun p hp => ?_) (fun ps hl hps => okT_grp (.inl rfl) hl hps) _ l [] r l' (fun p hp => by cases hp) e
  · have hr := (both_ok hG l r l' hg).ok
    unfold flat at hp
    split at hp
    · rename_i e4
      have := okT_parts (.inl e4) hr p hp
      rw [e4] at this; exact this
    · rename_i e4
      rw [List.mem_singleton.1 hp]
      obtain ⟨x, hx⟩ := hr
      exact ⟨e4, x, by rw [partT_ne (fun e => absurd e.1 (by decide))]; exact hx⟩
  · obtain ⟨_, x, hx⟩ := hp
    rw [partT_ne (fun e => absurd e.1 (by decide))] at hx
    exact ⟨x, hx⟩
theorem good_of {t : List UInt8} (h1 : isName t = true) (h2 : t ≠ thisL) : good t = true := by
  unfold good
  rw [h1, beq_false_of_ne h2]; rfl
theorem leaf1 (d : Nat) : opOK d (.node 1 [] [] []) := ⟨fun e => absurd (show (1 : Int) = 4 from e) (by decide), fun _ => ⟨thisL, by unfold ruleT; rw [if_pos rfl, if_pos ⟨rfl, rfl, rfl⟩]⟩⟩
theorem leaf2 (d : Nat) {t : List UInt8} (h : good t = true) : opOK d (.node 2 t [] []) := ⟨fun e => absurd (show (2 : Int) = 4 from e) (by decide), fun _ => ⟨t, by unfold ruleT; rw [if_neg (by decide), if_pos rfl, if_pos ⟨h, rfl, rfl⟩]⟩⟩
theorem leaf3 (d : Nat) {t u : List UInt8} (h : good t = true) (h2 : good u = true) : opOK d (.node 3 t u []) := ⟨fun e => absurd (show (3 : Int) = 4 from e) (by decide), fun _ => ⟨t ++ arL ++ u, by unfold ruleT; rw [if_neg (by decide), if_neg (by decide), if_pos rfl, if_pos ⟨h, h2, rfl⟩]⟩⟩
theorem name_ok (d : Nat) (t : List UInt8) (l1 : Toks) (r : RT) (l' : Toks) (ht : isName t = true) (e : dName t l1 = some (r, l')) : opOK d r := by
  unfold dName at e
  have hs : ∀ l', (if t = thisL then some (RT.node 1 [] [] [], l1) else some (RT.node 2 t [] [], l1)) = some (r, l') → opOK d r := fun l' e => by
    split at e
    · obtain ⟨rfl, _⟩ := Prod.mk.inj (Option.some.inj e); exact leaf1 d
    · rename_i hn
      obtain ⟨rfl, _⟩ := Prod.mk.inj (Option.some.inj e); exact leaf2 d (good_of ht hn)
  split at e
  · split at e
    · rename_i hc
      obtain ⟨rfl, _⟩ := Prod.mk.inj (Option.some.inj e)
      exact leaf3 d (good_of ht hc.2.2.1) (good_of hc.2.1 hc.2.2.2)
    · exact hs _ e
  · exact hs _ e
theorem one_ok : ∀ (d : Nat) (l : Toks) (r : RT) (l' : Toks), dOne d l = some (r, l') → opOK d r := by
  intro d
  induction d with
  | zero =>
    intro l r l' e
    match l, e with
    | t :: l1, e =>
      unfold dOne at e
      by_cases h0 : t = opL
      · simp only [h0, if_true] at e; cases e
      · simp only [h0, if_false] at e
        split at e
        · rename_i ht; exact name_ok 0 t l1 r l' ht e
        · cases e
  | succ d ih =>
    intro l r l' e
    match l, e with
    | t :: l1, e =>
      unfold dOne at e
      by_cases h0 : t = opL
      · simp only [h0, if_true] at e
        cases hg : dOp (dOp (dOne d) andL 5) orL 4 l1 with
        | none => rw [hg] at e; cases e
        | some x =>
          obtain ⟨r2, l2⟩ := x
          rw [hg] at e
          have z := rule_ok ih l1 r2 l2 hg
          simp only at e
          split at e
          · obtain ⟨rfl, rfl⟩ := Prod.mk.inj (Option.some.inj e)
            exact ⟨fun _ => ⟨d, rfl, z⟩, fun _ => okT_more z⟩
          · cases e
      · simp only [h0, if_false] at e
        split at e
        · rename_i ht; exact name_ok (d + 1) t l1 r l' ht e
        · cases e
theorem dRule_ok (d : Nat) (l : Toks) (r : RT) (l' : Toks) (e : dRule d l = some (r, l')) : okT d r := rule_ok (one_ok d) l r l' e
/-- every name and rule of a schema may be written -/
def allS (ts : List TyD) : Prop := ∀ t ∈ ts, good t.1 = true ∧ ∀ x ∈ t.2, (good x.1 = true ∧ x.1 ≠ typeL) ∧ okT 8 x.2
theorem allS_text : ∀ (ts : List TyD), allS ts → ∃ x, tysT ts = some x
  | [], _ => ⟨[], by unfold tysT; rfl⟩
  | (n, rels) :: ts, h => by
    obtain ⟨hn, hr⟩ := h (n, rels) (by simp)
    obtain ⟨u, hu⟩ := allS_text ts fun t ht => h t (List.mem_cons_of_mem _ ht)
    have hrel : ∀ (qs : List RelD), (∀ x ∈ qs, (good x.1 = true ∧ x.1 ≠ typeL) ∧ okT 8 x.2) → ∃ y, relsT qs = some y := by
      intro qs
      induction qs with
      | nil => intro _; exact ⟨[], by unfold relsT; rfl⟩
      | cons q qs ih =>
        intro hq
        obtain ⟨m, r⟩ := q
        obtain ⟨h1, x, hx⟩ := hq (m, r) (by simp)
        obtain ⟨y, hy⟩ := ih fun x hx => hq x (List.mem_cons_of_mem _ hx)
        have e : relT m r = some (m ++ [32, 61, 32] ++ x ++ [10]) := by
          unfold relT; rw [if_pos h1]
          have hx' : ruleT 8 r = some x := hx
          rw [hx']; rfl
        refine ⟨(m ++ [32, 61, 32] ++ x ++ [10]) ++ y, ?_⟩
        conv => lhs; unfold relsT
        rw [e, hy]; rfl
    obtain ⟨y, hy⟩ := hrel rels hr
    have hn' : good n = true := hn
    refine ⟨typeL ++ [32] ++ n ++ [10] ++ (y ++ u), ?_⟩
    rw [tysT_cons, if_pos hn']
    unfold restT
    rw [hy, hu]; rfl
theorem lineD_all {ts ts' : List TyD} {l : Toks} (ha : allS ts) (h : lineD ts l = some ts') : allS ts' := by
  match l, h with
  | [a, b], h =>
    rw [lineD_two'] at h
    split at h
    · rename_i hc
      obtain rfl := Option.some.inj h
      intro t ht
      rcases List.mem_append.1 ht with ht | ht
      · exact ha t ht
      · rw [List.mem_singleton.1 ht]
        exact ⟨hc.2, fun x hx => by cases hx⟩
    · cases h
  | a :: e :: c :: l2, h =>
    rw [lineD_more'] at h
    split at h
    · rename_i hc
      cases hg : dRule 8 (c :: l2) with
      | none => rw [hg] at h; cases h
      | some x =>
        obtain ⟨r, l'⟩ := x
        rw [hg] at h
        have hr := dRule_ok 8 _ r l' hg
        cases l' with
        | nil =>
          obtain rfl := Option.some.inj h
          unfold addRel
          cases hl : ts.getLast? with
          | none => exact ha
          | some x =>
            obtain ⟨n, rels⟩ := x
            obtain ⟨ys, rfl⟩ := List.getLast?_eq_some_iff.1 hl
            rw [List.dropLast_concat]
            intro t ht
            rcases List.mem_append.1 ht with ht | ht
            · exact ha t (List.mem_append_left _ ht)
            · rw [List.mem_singleton.1 ht]
              obtain ⟨h1, h2⟩ := ha (n, rels) (by simp)
              refine ⟨h1, fun x hx => ?_⟩
              rcases List.mem_append.1 hx with hx | hx
              · exact h2 x hx
              · rw [List.mem_singleton.1 hx]
                exact ⟨⟨hc.2.1, hc.2.2.1⟩, hr⟩
        | cons _ _ => cases h
    · cases h
theorem parseD_all : ∀ (ls : List (List UInt8)) (i : Nat) (ts ts' : List TyD) (k : Int), allS ts → parseD ls i ts = (some ts', k) → allS ts'
  | [], i, ts, ts', k, ha, h => by
    obtain ⟨h1, _⟩ := Prod.mk.inj h
    obtain rfl := Option.some.inj h1
    exact ha
  | l :: ls, i, ts, ts', k, ha, h => by
    unfold parseD at h
    split at h
    · exact parseD_all ls _ ts ts' k ha h
    · cases hx : lineX ts l with
      | none => rw [hx] at h; cases (Prod.mk.inj h).1
      | some t2 =>
        rw [hx] at h
        refine parseD_all ls _ t2 ts' k ?_ h
        unfold lineX at hx
        split at hx
        · cases hx
        · exact lineD_all ha hx
/-- what is parsed may be printed -/
theorem parsed_text {ls : List (List UInt8)} {ts : List TyD} {k : Int} (h : parseD ls 0 [] = (some ts, k)) : ∃ x, tysT ts = some x := allS_text ts (parseD_all ls 0 [] ts k (fun t ht => by cases ht) h)
end Go.Proofs.YtkibaaljpbcjeaaDoor
