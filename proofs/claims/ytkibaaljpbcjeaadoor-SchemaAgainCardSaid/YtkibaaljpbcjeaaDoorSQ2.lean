/- The tokens of a printed rule. No program in sight. -/
import Derived.Test.YtkibaaljpbcjeaaDoorSQ1
namespace Go.Proofs.YtkibaaljpbcjeaaDoor
def opS (k : Int) : List UInt8 := if k = 4 then orL else andL
mutual
/-- a rule's tokens -/
def kR : RT → Toks
  | .node k a b ps => if k = 1 then [thisL] else if k = 2 then [a] else if k = 3 then [a, arL, b] else kPs k true ps
def kPs (k : Int) (first : Bool) : List RT → Toks
  | [] => []
  | p :: ps => (if first then [] else [opS k]) ++ (if k = 5 ∧ p.kind = 4 then [opL] ++ kR p ++ [clL] else kR p) ++ kPs k false ps
end
def kP (k : Int) (p : RT) : Toks := if k = 5 ∧ p.kind = 4 then [opL] ++ kR p ++ [clL] else kR p
theorem kPs_nil (k : Int) (first : Bool) : kPs k first [] = [] := by unfold kPs; rfl
theorem kPs_cons (k : Int) (first : Bool) (p : RT) (ps : List RT) : kPs k first (p :: ps) = (if first then [] else [opS k]) ++ kP k p ++ kPs k false ps := by
  conv => lhs; unfold kPs
  rfl
theorem kR_grp {k : Int} (hk : k = 4 ∨ k = 5) (a b : List UInt8) (ps : List RT) : kR (.node k a b ps) = kPs k true ps := by
  conv => lhs; unfold kR
  rw [if_neg (by omega), if_neg (by omega), if_neg (by omega)]
theorem good_both {a : List UInt8} (h : good a = true) : isName a = true ∧ a ≠ thisL := by
  unfold good at h
  rw [Bool.and_eq_true, Bool.not_eq_true'] at h
  exact ⟨h.1, fun e => by rw [e] at h; cases h.2⟩
/-- what may follow a name -/
def stops (y : List UInt8) : Prop := y = [] ∨ (∃ u, y = 32 :: u) ∨ (∃ u, y = 41 :: u) ∨ ∃ u, y = 45 :: 62 :: u
theorem arrow_two {c d : UInt8} {u : List UInt8} (h : arrow (c :: d :: u) = true) : d = 62 := by
  unfold arrow Lib.hasPrefix at h
  simp at h
  first | exact h.2 | exact h.2.symm
theorem arrow_one {c : UInt8} : arrow [c] = false := by
  cases h : arrow [c]
  · rfl
  · unfold arrow Lib.hasPrefix at h
    simp at h
theorem word_stop {y : List UInt8} (h : stops y) : word y = [] := by
  rcases h with rfl | ⟨u, rfl⟩ | ⟨u, rfl⟩ | ⟨u, rfl⟩
  · rfl
  · unfold word; rw [show nameByte 32 = false by decide]; rfl
  · unfold word; rw [show nameByte 41 = false by decide]; rfl
  · unfold word
    have : arrow (45 :: 62 :: u) = true := by unfold arrow Lib.hasPrefix; simp
    rw [this]; simp
theorem arrow_name {c : UInt8} {t y : List UInt8} (ht : ∀ b ∈ t, nameByte b = true) (hy : stops y) : arrow (c :: (t ++ y)) = false := by
  cases h : arrow (c :: (t ++ y))
  · rfl
  · exfalso
    match t, ht, h with
    | d :: t, ht, h =>
      have := arrow_two (u := t ++ y) h
      have hd := ht d (by simp)
      rw [this] at hd
      exact absurd hd (by decide)
    | [], _, h =>
      rw [List.nil_append] at h
      rcases hy with rfl | ⟨u, rfl⟩ | ⟨u, rfl⟩ | ⟨u, rfl⟩
      · rw [arrow_one] at h; cases h
      · exact absurd (arrow_two h) (by decide)
      · exact absurd (arrow_two h) (by decide)
      · exact absurd (arrow_two h) (by decide)
theorem word_stops : ∀ (t y : List UInt8), (∀ b ∈ t, nameByte b = true) → stops y → word (t ++ y) = t
  | [], y, _, hy => by rw [List.nil_append]; exact word_stop hy
  | c :: t, y, ht, hy => by
    have h1 := ht c (by simp)
    have h2 := arrow_name (c := c) (fun b hb => ht b (List.mem_cons_of_mem _ hb)) hy
    rw [List.cons_append]
    unfold word
    rw [h1, h2, word_stops t y (fun b hb => ht b (List.mem_cons_of_mem _ hb)) hy]
    rfl
theorem name_bytes {t : List UInt8} (h : isName t = true) : (∀ b ∈ t, nameByte b = true) ∧ t ≠ [] ∧ t.length ≤ 32 := by
  unfold isName at h
  rw [Bool.and_eq_true, Bool.and_eq_true, List.all_eq_true, decide_eq_true_eq, decide_eq_true_eq] at h
  exact ⟨h.1.1, fun e => by rw [e] at h; simp at h, h.2⟩
theorem name_toks {t y : List UInt8} (h : isName t = true) (hy : stops y) : toks (t ++ y) = t :: toks y := by
  obtain ⟨hb, hne, _⟩ := name_bytes h
  match t, hb, hne with
  | c :: t, hb, _ =>
    have h1 := hb c (by simp)
    have h2 := arrow_name (c := c) (fun b hb' => hb b (List.mem_cons_of_mem _ hb')) hy
    have h3 := word_stops (c :: t) y hb hy
    rw [List.cons_append] at h3 ⊢
    rw [tk_word h1 h2, h3, ← List.cons_append, List.drop_left]
theorem sep_toks {k : Int} (hk : k = 4 ∨ k = 5) (y : List UInt8) : toks (sepT k ++ y) = opS k :: toks y := by
  rcases hk with rfl | rfl
  · show toks (32 :: 124 :: 32 :: y) = orL :: toks y
    rw [tk_blank (by decide), tk_op (by decide), tk_blank (by decide)]; rfl
  · show toks (32 :: 38 :: 32 :: y) = andL :: toks y
    rw [tk_blank (by decide), tk_op (by decide), tk_blank (by decide)]; rfl
theorem stops_sep {k : Int} (y : List UInt8) : stops (sepT k ++ y) := by
  unfold sepT
  split
  · exact .inr (.inl ⟨124 :: 32 :: y, rfl⟩)
  · exact .inr (.inl ⟨38 :: 32 :: y, rfl⟩)
theorem ne_ops : ([] : List UInt8) ≠ opL ∧ ([] : List UInt8) ≠ clL ∧ ([] : List UInt8) ≠ arL ∧ ([] : List UInt8) ≠ orL ∧ ([] : List UInt8) ≠ andL ∧ ([] : List UInt8) ≠ thisL := by decide
/-- a printed rule's tokens -/
theorem rule_toks : ∀ (r : RT) (d : Nat) (x : List UInt8), ruleT d r = some x → (∀ y, stops y → toks (x ++ y) = kR r ++ toks y) ∧ [] ∉ kR r
  | .node k a b ps, d, x, h => by
    by_cases hk : k = 4 ∨ k = 5
    · rw [ruleT_grp hk] at h
      split at h
      · rw [kR_grp hk]
        have hp : ∀ p ∈ ps, ∀ d t, ruleT d p = some t → (∀ y, stops y → toks (t ++ y) = kR p ++ toks y) ∧ [] ∉ kR p := fun p hp d t ht => rule_toks p d t ht
        have hpt : ∀ p ∈ ps, ∀ t, partT k d p = some t → (∀ y, stops y → toks (t ++ y) = kP k p ++ toks y) ∧ [] ∉ kP k p := fun p hpm t ht => by
          unfold kP
          by_cases h5 : k = 5 ∧ p.kind = 4
          · rw [if_pos h5]
            cases d with
            | zero => rw [partT_0 h5.1 h5.2] at ht; cases ht
            | succ d =>
              rw [partT_s h5.1 h5.2] at ht
              cases hr : ruleT d p with
              | none => rw [hr] at ht; cases ht
              | some z =>
                rw [hr] at ht
                obtain rfl := Option.some.inj ht
                obtain ⟨g1, g2⟩ := hp p hpm d z hr
                refine ⟨fun y _ => ?_, fun hm => ?_⟩
                · have e : opL ++ z ++ clL ++ y = 40 :: (z ++ (41 :: y)) := by simp [opL, clL]
                  rw [e, tk_op (by decide), g1 (41 :: y) (.inr (.inr (.inl ⟨y, rfl⟩))), tk_op (by decide)]
                  simp [opL, clL]
                · rcases List.mem_append.1 hm with hm | hm
                  · rcases List.mem_append.1 hm with hm | hm
                    · exact ne_ops.1 (List.mem_singleton.1 hm)
                    · exact g2 hm
                  · exact ne_ops.2.1 (List.mem_singleton.1 hm)
          · rw [if_neg h5]
            rw [partT_ne h5] at ht
            exact hp p hpm d t ht
        have hps : ∀ (qs : List RT), (∀ p ∈ qs, p ∈ ps) → ∀ (first : Bool) (z : List UInt8), partsT k d first qs = some z → (∀ y, stops y → toks (z ++ y) = kPs k first qs ++ toks y) ∧ [] ∉ kPs k first qs ∧ (first = false → ∀ y, stops y → stops (z ++ y)) := by
          intro qs
          induction qs with
          | nil =>
            intro _ first z hz
            unfold partsT at hz
            obtain rfl := Option.some.inj hz
            rw [kPs_nil]
            exact ⟨fun y _ => rfl, by simp, fun _ y hy => hy⟩
          | cons q qs ih =>
            intro hm first z hz
            rw [partsT_cons] at hz
            by_cases hq : q.kind = k
            · rw [if_pos hq] at hz; cases hz
            · rw [if_neg hq] at hz
              cases ht : partT k d q with
              | none => rw [ht] at hz; cases hz
              | some t =>
                rw [ht] at hz
                cases hu : partsT k d false qs with
                | none => rw [hu] at hz; cases hz
                | some u =>
                  rw [hu] at hz
                  obtain rfl := Option.some.inj hz
                  obtain ⟨i1, i2, i3⟩ := ih (fun p hp => hm p (List.mem_cons_of_mem _ hp)) false u hu
                  obtain ⟨g1, g2⟩ := hpt q (hm q (by simp)) t ht
                  rw [kPs_cons]
                  have hbody : ∀ y, stops y → toks (t ++ (u ++ y)) = kP k q ++ (kPs k false qs ++ toks y) := fun y hy => by
                    rw [g1 (u ++ y) (i3 rfl y hy), i1 y hy]
                  refine ⟨fun y hy => ?_, fun hmm => ?_, fun hf y hy => ?_⟩
                  · cases first
                    · have e : (if false = true then [] else sepT k) ++ t ++ u ++ y = sepT k ++ (t ++ (u ++ y)) := by simp
                      rw [e, sep_toks hk, hbody y hy]; simp
                    · have e : (if true = true then [] else sepT k) ++ t ++ u ++ y = t ++ (u ++ y) := by simp
                      rw [e, hbody y hy]; simp
                  · rcases List.mem_append.1 hmm with hmm | hmm
                    · rcases List.mem_append.1 hmm with hmm | hmm
                      · cases first
                        · have h1 := List.mem_singleton.1 (show [] ∈ [opS k] from hmm)
                          unfold opS at h1
                          split at h1
                          · exact ne_ops.2.2.2.1 h1
                          · exact ne_ops.2.2.2.2.1 h1
                        · cases hmm
                      · exact g2 hmm
                    · exact i2 hmm
                  · rw [hf]
                    have e : (if false = true then [] else sepT k) ++ t ++ u ++ y = sepT k ++ (t ++ u ++ y) := by simp
                    rw [e]; exact stops_sep _
        obtain ⟨j1, j2, _⟩ := hps ps (fun _ h => h) true x h
        exact ⟨j1, j2⟩
      · cases h
    · unfold ruleT at h
      unfold kR
      by_cases h1 : k = 1
      · rw [if_pos h1] at h ⊢
        split at h
        · obtain rfl := Option.some.inj h
          refine ⟨fun y hy => name_toks (by decide) hy, fun hm => ne_ops.2.2.2.2.2 (List.mem_singleton.1 hm)⟩
        · cases h
      rw [if_neg h1] at h ⊢
      by_cases h2 : k = 2
      · rw [if_pos h2] at h ⊢
        split at h
        · rename_i hc
          obtain rfl := Option.some.inj h
          exact ⟨fun y hy => name_toks (good_both hc.1).1 hy, fun hm => good_ne hc.1 (List.mem_singleton.1 hm).symm⟩
        · cases h
      rw [if_neg h2] at h ⊢
      by_cases h3 : k = 3
      · rw [if_pos h3] at h ⊢
        split at h
        · rename_i hc
          obtain rfl := Option.some.inj h
          refine ⟨fun y hy => ?_, fun hm => ?_⟩
          · have e : a ++ arL ++ b ++ y = a ++ (45 :: 62 :: (b ++ y)) := by simp [arL]
            rw [e, name_toks (good_both hc.1).1 (.inr (.inr (.inr ⟨_, rfl⟩))), tk_arrow (by unfold arrow Lib.hasPrefix; simp)]
            show a :: arL :: toks (b ++ y) = _
            rw [name_toks (good_both hc.2.1).1 hy]; rfl
          · rcases List.mem_cons.1 hm with hm | hm
            · exact good_ne hc.1 hm.symm
            · rcases List.mem_cons.1 hm with hm | hm
              · exact ne_ops.2.2.1 hm
              · exact good_ne hc.2.1 (List.mem_singleton.1 hm).symm
        · cases h
      rw [if_neg h3, if_neg hk] at h
      cases h
termination_by r => SizeOf.sizeOf r
decreasing_by exact part_lt (r := .node k a b ps) hp
end Go.Proofs.YtkibaaljpbcjeaaDoor
