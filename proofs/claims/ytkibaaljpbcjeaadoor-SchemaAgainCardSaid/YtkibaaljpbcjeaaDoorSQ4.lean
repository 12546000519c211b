/- A printed schema is parsed to that schema; how long its text is. No program in sight. -/
import Derived.Test.YtkibaaljpbcjeaaDoorSQ3
namespace Go.Proofs.YtkibaaljpbcjeaaDoor
theorem nl_name {t : List UInt8} (h : isName t = true) : (10 : UInt8) ∉ t := fun hm => absurd ((name_bytes h).1 10 hm) (by decide)
theorem nl_sep (k : Int) : (10 : UInt8) ∉ sepT k := by unfold sepT; split <;> decide
/-- no line ends in a rule -/
theorem rule_nl : ∀ (r : RT) (d : Nat) (x : List UInt8), ruleT d r = some x → (10 : UInt8) ∉ x
  | .node k a b ps, d, x, h => by
    by_cases hk : k = 4 ∨ k = 5
    · rw [ruleT_grp hk] at h
      split at h
      · have hrec : ∀ p ∈ ps, ∀ d t, ruleT d p = some t → (10 : UInt8) ∉ t := fun p hp d t ht => rule_nl p d t ht
        have hpt : ∀ p ∈ ps, ∀ t, partT k d p = some t → (10 : UInt8) ∉ t := fun p hpm t ht => by
          by_cases h5 : k = 5 ∧ p.kind = 4
          · cases d with
            | zero => rw [partT_0 h5.1 h5.2] at ht; cases ht
            | succ d =>
              rw [partT_s h5.1 h5.2] at ht
              cases hr : ruleT d p with
              | none => rw [hr] at ht; cases ht
              | some z =>
                rw [hr] at ht
                obtain rfl := Option.some.inj ht
                have := hrec p hpm d z hr
                simp [opL, clL, this]
          · rw [partT_ne h5] at ht
            exact hrec p hpm d t ht
        have hps : ∀ (qs : List RT), (∀ p ∈ qs, p ∈ ps) → ∀ (first : Bool) (z : List UInt8), partsT k d first qs = some z → (10 : UInt8) ∉ z := by
          intro qs
          induction qs with
          | nil =>
            intro _ first z hz
            unfold partsT at hz
            obtain rfl := Option.some.inj hz
            simp
          | cons q qs ih =>
            intro hm first z hz
            rw [partsT_cons] at hz
            by_cases hq : q.kind = k
            · rw [if_pos hq] at hz; cases hz
            · rw [if_neg hq] at hz
              cases ht : partT k d q with
              | none => rw [ht] at hz; cases hz
              | some t =>
                rw [ht] at hz
                cases hu : partsT k d false qs with
                | none => rw [hu] at hz; cases hz
                | some u =>
                  rw [hu] at hz
                  obtain rfl := Option.some.inj hz
                  have h1 := hpt q (hm q (by simp)) t ht
                  have h2 := ih (fun p hp => hm p (List.mem_cons_of_mem _ hp)) false u hu
                  have h3 := nl_sep k
                  cases first <;> simp [h1, h2, h3]
        exact hps ps (fun _ h => h) true x h
      · cases h
    · unfold ruleT at h
      by_cases h1 : k = 1
      · rw [if_pos h1] at h
        split at h
        · obtain rfl := Option.some.inj h; decide
        · cases h
      rw [if_neg h1] at h
      by_cases h2 : k = 2
      · rw [if_pos h2] at h
        split at h
        · rename_i hc
          obtain rfl := Option.some.inj h
          exact nl_name (good_both hc.1).1
        · cases h
      rw [if_neg h2] at h
      by_cases h3 : k = 3
      · rw [if_pos h3] at h
        split at h
        · rename_i hc
          obtain rfl := Option.some.inj h
          have e1 := nl_name (good_both hc.1).1
          have e2 := nl_name (good_both hc.2.1).1
          simp [arL, e1, e2]
        · cases h
      rw [if_neg h3, if_neg hk] at h
      cases h
termination_by r => SizeOf.sizeOf r
decreasing_by exact part_lt (r := .node k a b ps) hp
/-- a line that begins with a name says something -/
theorem name_line {c : UInt8} {s : List UInt8} (h : nameByte c = true) : blankL (c :: s) = false := by
  have hb := (name_no h).1
  have e : trimL (c :: s) = c :: s := trim_no hb
  unfold blankL
  rw [e]
  have h47 : c ≠ 47 := fun e => by rw [e] at h; exact absurd h (by decide)
  have e2 : Lib.hasPrefix (c :: s) [47, 47] = ((47 == c) && Lib.hasPrefix s [47]) := rfl
  rw [e2, beq_false_of_ne (Ne.symm h47)]
  rfl
theorem stops_nil : stops [] := .inl rfl
theorem toks_type {n : List UInt8} (h : good n = true) : toks (typeL ++ [32] ++ n) = [typeL, n] := by
  have e : typeL ++ [32] ++ n = typeL ++ (32 :: (n ++ [])) := by simp
  rw [e, name_toks (by decide) (.inr (.inl ⟨_, rfl⟩)), tk_blank (by decide), name_toks (good_both h).1 stops_nil, tk_nil]
theorem lineX_type {n : List UInt8} (h : good n = true) (ts : List TyD) : lineX ts (typeL ++ [32] ++ n) = some (ts ++ [(n, [])]) := by
  unfold lineX
  rw [toks_type h, if_neg, lineD_two', if_pos ⟨rfl, h⟩]
  intro hm
  rcases List.mem_cons.1 hm with hm | hm
  · exact absurd hm (by decide)
  · exact good_ne h (List.mem_singleton.1 hm).symm
theorem toks_rel {m x : List UInt8} {r : RT} (h : good m = true) (hx : ruleT 8 r = some x) : toks (m ++ [32, 61, 32] ++ x) = m :: eqL :: kR r := by
  have e : m ++ [32, 61, 32] ++ x = m ++ (32 :: 61 :: 32 :: (x ++ [])) := by simp
  rw [e, name_toks (good_both h).1 (.inr (.inl ⟨_, rfl⟩)), tk_blank (by decide), tk_op (by decide), tk_blank (by decide), (rule_toks r 8 x hx).1 [] stops_nil, tk_nil, List.append_nil]
  rfl
theorem lineX_rel {m x : List UInt8} {r : RT} (h : good m = true) (hm : m ≠ typeL) (hx : ruleT 8 r = some x) {ts : List TyD} (hts : ts ≠ []) : lineX ts (m ++ [32, 61, 32] ++ x) = some (addRel ts m r) := by
  have hb := (rule_back r 8 x hx).rule [] (by decide) (by decide) (by decide)
  rw [List.append_nil] at hb
  have hne : kR r ≠ [] := fun e => by
    rw [e] at hb
    have : dRule 8 [] = none := by rfl
    rw [this] at hb; cases hb
  unfold lineX
  rw [toks_rel h hx, if_neg]
  · cases hk : kR r with
    | nil => exact absurd hk hne
    | cons c l2 =>
      rw [hk] at hb
      rw [lineD_more', if_pos ⟨hts, h, hm, rfl⟩, hb]
  · intro hmm
    rcases List.mem_cons.1 hmm with hmm | hmm
    · exact good_ne h hmm.symm
    · rcases List.mem_cons.1 hmm with hmm | hmm
      · exact absurd hmm (by decide)
      · exact (rule_toks r 8 x hx).2 hmm
/-- lines of a text that ends a line -/
theorem cutL_line {p y : List UInt8} (h : (10 : UInt8) ∉ p) : cutL (p ++ [10] ++ y) = p :: cutL y := by
  have e : p ++ [10] ++ y = p ++ 10 :: y := by simp
  rw [e, cutL_app p y h]
theorem addRel_last (ts : List TyD) (n : List UInt8) (rels : List RelD) (m : List UInt8) (r : RT) : addRel (ts ++ [(n, rels)]) m r = ts ++ [(n, rels ++ [(m, r)])] := by
  unfold addRel
  rw [List.getLast?_concat, List.dropLast_concat]
theorem rels_back : ∀ (rels : List RelD) (x y : List UInt8) (i : Nat) (ts : List TyD) (n : List UInt8) (done : List RelD), relsT rels = some x → ∃ i', parseD (cutL (x ++ y)) i (ts ++ [(n, done)]) = parseD (cutL y) i' (ts ++ [(n, done ++ rels)])
  | [], x, y, i, ts, n, done, h => by
    unfold relsT at h
    obtain rfl := Option.some.inj h
    exact ⟨i, by rw [List.append_nil]; rfl⟩
  | (m, r) :: rels, x, y, i, ts, n, done, h => by
    unfold relsT at h
    cases hr : relT m r with
    | none => rw [hr] at h; cases h
    | some t =>
      rw [hr] at h
      cases hu : relsT rels with
      | none => rw [hu] at h; cases h
      | some u =>
        rw [hu] at h
        obtain rfl := Option.some.inj h
        unfold relT at hr
        split at hr
        · rename_i hc
          cases hx : ruleT 8 r with
          | none => rw [hx] at hr; cases hr
          | some z =>
            rw [hx] at hr
            obtain rfl := Option.some.inj hr
            obtain ⟨i', hi⟩ := rels_back rels u y (i + 1) ts n (done ++ [(m, r)]) hu
            refine ⟨i', ?_⟩
            have hnl : (10 : UInt8) ∉ m ++ [32, 61, 32] ++ z := by
              have h1 := nl_name (good_both hc.1).1
              have h2 := rule_nl r 8 z hx
              simp [h1, h2]
            have e : m ++ [32, 61, 32] ++ z ++ [10] ++ u ++ y = (m ++ [32, 61, 32] ++ z) ++ [10] ++ (u ++ y) := by simp
            rw [show (fun u => m ++ [32, 61, 32] ++ z ++ [10] ++ u) u = m ++ [32, 61, 32] ++ z ++ [10] ++ u from rfl, e, cutL_line hnl]
            have hbl : blankL (m ++ [32, 61, 32] ++ z) = false := by
              obtain ⟨h1, h2, _⟩ := name_bytes (good_both hc.1).1
              match m, h1, h2 with
              | c :: m, h1, _ => exact name_line (h1 c (by simp))
            conv => lhs; unfold parseD
            rw [hbl, lineX_rel hc.1 hc.2 hx (by simp), addRel_last]
            simp only [Bool.false_eq_true, if_false]
            rw [hi]
            simp
        · cases hr
theorem tys_back : ∀ (ts' : List TyD) (x : List UInt8) (i : Nat) (ts : List TyD), tysT ts' = some x → parseD (cutL x) i ts = (some (ts ++ ts'), 0)
  | [], x, i, ts, h => by
    unfold tysT at h
    obtain rfl := Option.some.inj h
    rw [List.append_nil]
    rfl
  | (n, rels) :: ts', x, i, ts, h => by
    rw [tysT_cons] at h
    split at h
    · rename_i hg
      unfold restT at h
      cases hr : relsT rels with
      | none => rw [hr] at h; cases h
      | some t =>
        rw [hr] at h
        cases hu : tysT ts' with
        | none => rw [hu] at h; cases h
        | some u =>
          rw [hu] at h
          obtain rfl := Option.some.inj h
          have hnl : (10 : UInt8) ∉ typeL ++ [32] ++ n := by
            have h1 := nl_name (good_both hg).1
            have h2 : (10 : UInt8) ∉ typeL := by decide
            simp [h1, h2]
          have e : typeL ++ [32] ++ n ++ [10] ++ (t ++ u) = (typeL ++ [32] ++ n) ++ [10] ++ (t ++ u) := rfl
          obtain ⟨i', hi⟩ := rels_back rels t u (i + 1) ts n [] hr
          show parseD (cutL (typeL ++ [32] ++ n ++ [10] ++ (t ++ u))) i ts = _
          rw [e, cutL_line hnl]
          have hbl : blankL (typeL ++ [32] ++ n) = false := name_line (c := 116) (s := [121, 112, 101] ++ [32] ++ n) (by decide)
          conv => lhs; unfold parseD
          rw [hbl, lineX_type hg]
          simp only [Bool.false_eq_true, if_false]
          rw [hi, List.nil_append, tys_back ts' u i' _ hu]
          simp
    · cases h
/-- a printed schema is parsed to that schema -/
theorem printed_back {ts : List TyD} {x : List UInt8} (h : tysT ts = some x) : parseD (linesG x) 0 [] = (some ts, 0) := by
  rw [linesG_cut]
  exact tys_back ts x 0 [] h
end Go.Proofs.YtkibaaljpbcjeaaDoor
