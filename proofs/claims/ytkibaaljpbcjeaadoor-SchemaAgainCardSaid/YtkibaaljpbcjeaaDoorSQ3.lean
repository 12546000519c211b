/- A printed rule's tokens are parsed to that rule. No program in sight. -/
import Derived.Test.YtkibaaljpbcjeaaDoorSQ2
namespace Go.Proofs.YtkibaaljpbcjeaaDoor
theorem flat_ne_kind {k : Int} {p : RT} (h : p.kind ≠ k) : flat k p = [p] := by unfold flat; rw [if_neg h]
theorem kPs_len (k : Int) : ∀ (ps : List RT), ps.length ≤ (kPs k false ps).length
  | [] => Nat.zero_le _
  | p :: ps => by
    have := kPs_len k ps
    rw [kPs_cons]
    simp only [List.length_append, List.length_cons]
    have e : (if false = true then ([] : Toks) else [opS k]).length = 1 := rfl
    rw [e]; omega
/-- the loop over printed parts -/
theorem loop_back {G : Toks → Option (RT × Toks)} {k : Int} {F : Toks → Prop} (hF : ∀ l, F (opS k :: l)) (rest : Toks) (hR : F rest) (hh : rest.head? ≠ some (opS k)) : ∀ (qs : List RT) (p : RT) (acc : List RT) (n : Nat), (∀ q, q = p ∨ q ∈ qs → q.kind ≠ k ∧ ∀ l, F l → G (kP k q ++ l) = some (q, l)) → qs.length < n → dLoop G (opS k) k n (kP k p ++ kPs k false qs ++ rest) acc = some (joined k (acc ++ p :: qs), rest)
  | [], p, acc, n, h, hn => by
    obtain ⟨n, rfl⟩ : ∃ m, n = m + 1 := ⟨n - 1, by omega⟩
    obtain ⟨h1, h2⟩ := h p (.inl rfl)
    unfold dLoop
    rw [kPs_nil, List.append_nil, h2 rest hR]
    simp only
    rw [if_neg hh, flat_ne_kind h1]
  | q :: qs, p, acc, n, h, hn => by
    obtain ⟨n, rfl⟩ : ∃ m, n = m + 1 := ⟨n - 1, by omega⟩
    obtain ⟨h1, h2⟩ := h p (.inl rfl)
    have e : kP k p ++ kPs k false (q :: qs) ++ rest = kP k p ++ (opS k :: (kP k q ++ kPs k false qs ++ rest)) := by
      rw [kPs_cons]; simp
    unfold dLoop
    rw [e, h2 _ (hF _)]
    simp only
    rw [if_pos (by rfl), flat_ne_kind h1]
    have ih := loop_back hF rest hR hh qs q (acc ++ [p]) n (fun x hx => h x (.inr (by
      rcases hx with rfl | hx
      · simp
      · exact List.mem_cons_of_mem _ hx))) (by simpa using hn)
    rw [List.tail_cons, ih]
    simp
theorem joined_two {k : Int} {ps : List RT} (h : 2 ≤ ps.length) : joined k ps = .node k [] [] ps := by
  unfold joined
  split
  · simp at h
  · rfl
theorem op_back {G : Toks → Option (RT × Toks)} {k : Int} {F : Toks → Prop} (hF : ∀ l, F (opS k :: l)) (rest : Toks) (hR : F rest) (hh : rest.head? ≠ some (opS k)) (ps : List RT) (hl : 2 ≤ ps.length) (h : ∀ q ∈ ps, q.kind ≠ k ∧ ∀ l, F l → G (kP k q ++ l) = some (q, l)) : dOp G (opS k) k (kPs k true ps ++ rest) = some (.node k [] [] ps, rest) := by
  match ps, hl, h with
  | p :: qs, hl, h =>
    have e : kPs k true (p :: qs) = kP k p ++ kPs k false qs := by
      rw [kPs_cons]; simp
    unfold dOp
    rw [e, loop_back hF rest hR hh qs p [] _ (fun q hq => h q (by
      rcases hq with rfl | hq
      · simp
      · exact List.mem_cons_of_mem _ hq)) (by
        have := kPs_len k qs
        simp only [List.length_append]; omega)]
    rw [List.nil_append, joined_two hl]
theorem op_one {G : Toks → Option (RT × Toks)} {op : List UInt8} {k : Int} {l rest : Toks} {r : RT} (h : G l = some (r, rest)) (hk : r.kind ≠ k) (hh : rest.head? ≠ some op) : dOp G op k l = some (r, rest) := by
  unfold dOp dLoop
  rw [h]
  simp only
  rw [if_neg hh, List.nil_append, flat_ne_kind hk]
  rfl
theorem name_op {a : List UInt8} (h : isName a = true) : a ≠ opL := fun e => by rw [e] at h; exact absurd h (by decide)
structure Back (r : RT) (d : Nat) : Prop where
  one : r.kind ≠ 4 → r.kind ≠ 5 → ∀ rest, rest.head? ≠ some arL → dOne d (kR r ++ rest) = some (r, rest)
  both : r.kind ≠ 4 → ∀ rest, rest.head? ≠ some arL → rest.head? ≠ some andL → dOp (dOne d) andL 5 (kR r ++ rest) = some (r, rest)
  rule : ∀ rest, rest.head? ≠ some arL → rest.head? ≠ some andL → rest.head? ≠ some orL → dRule d (kR r ++ rest) = some (r, rest)
theorem Back.leaf {r : RT} {d : Nat} (h4 : r.kind ≠ 4) (h5 : r.kind ≠ 5) (h : ∀ rest, rest.head? ≠ some arL → dOne d (kR r ++ rest) = some (r, rest)) : Back r d := by
  have hb : ∀ rest, rest.head? ≠ some arL → rest.head? ≠ some andL → dOp (dOne d) andL 5 (kR r ++ rest) = some (r, rest) := fun rest h1 h2 => op_one (h rest h1) h5 h2
  exact ⟨fun _ _ => h, fun _ => hb, fun rest h1 h2 h3 => op_one (hb rest h1 h2) h4 h3⟩
theorem dOne_cons (d : Nat) (t : List UInt8) (l1 : Toks) (h0 : t ≠ opL) (h1 : isName t = true) : dOne d (t :: l1) = dName t l1 := by
  unfold dOne
  cases d <;> simp only [if_neg h0, if_pos h1]
theorem dName_this (l1 : Toks) : dName thisL l1 = some (.node 1 [] [] [], l1) := by
  unfold dName
  split
  · rw [if_neg (fun e => e.2.2.1 rfl), if_pos rfl]
  · rw [if_pos rfl]
theorem dName_same {t : List UInt8} {l1 : Toks} (ht : t ≠ thisL) (h : l1.head? ≠ some arL) : dName t l1 = some (.node 2 t [] [], l1) := by
  unfold dName
  split
  · rw [if_neg (fun e => h (by rw [e.1]; rfl)), if_neg ht]
  · rw [if_neg ht]
theorem dName_via {t u : List UInt8} {l1 : Toks} (ht : t ≠ thisL) (hu : isName u = true) (hu2 : u ≠ thisL) : dName t (arL :: u :: l1) = some (.node 3 t u [], l1) := by
  unfold dName
  exact if_pos ⟨rfl, hu, ht, hu2⟩
theorem rule_back : ∀ (r : RT) (d : Nat) (x : List UInt8), ruleT d r = some x → Back r d
  | .node k a b ps, d, x, h => by
    by_cases hk : k = 4 ∨ k = 5
    · rw [ruleT_grp hk] at h
      split at h
      · rename_i hc
        obtain ⟨rfl, rfl, hl⟩ := hc
        have hin := partsT_inv ps true x h
        have hrec : ∀ p ∈ ps, ∀ d t, ruleT d p = some t → Back p d := fun p hp d t ht => rule_back p d t ht
        have hK : kR (.node k [] [] ps) = kPs k true ps := kR_grp hk _ _ _
        rcases hk with rfl | rfl
        · have hrule : ∀ rest, rest.head? ≠ some arL → rest.head? ≠ some andL → rest.head? ≠ some orL → dRule d (kR (.node 4 [] [] ps) ++ rest) = some (.node 4 [] [] ps, rest) := fun rest h1 h2 h3 => by
            rw [hK]
            refine op_back (k := 4) (F := fun l => l.head? ≠ some arL ∧ l.head? ≠ some andL) (fun l => ⟨by show some orL ≠ some arL; decide, by show some orL ≠ some andL; decide⟩) rest ⟨h1, h2⟩ h3 ps hl fun q hq => ?_
            obtain ⟨hqk, t, ht⟩ := hin q hq
            rw [partT_ne (fun e => absurd e.1 (by decide))] at ht
            refine ⟨hqk, fun l hF => ?_⟩
            unfold kP
            rw [if_neg (fun e => absurd e.1 (by decide))]
            exact (hrec q hq d t ht).both hqk l hF.1 hF.2
          exact ⟨fun e => absurd rfl e, fun e => absurd rfl e, hrule⟩
        · have hboth : ∀ rest, rest.head? ≠ some arL → rest.head? ≠ some andL → dOp (dOne d) andL 5 (kR (.node 5 [] [] ps) ++ rest) = some (.node 5 [] [] ps, rest) := fun rest h1 h2 => by
            rw [hK]
            refine op_back (k := 5) (F := fun l => l.head? ≠ some arL) (fun l => by show some andL ≠ some arL; decide) rest h1 h2 ps hl fun q hq => ?_
            obtain ⟨hqk, t, ht⟩ := hin q hq
            refine ⟨hqk, fun l hF => ?_⟩
            unfold kP
            by_cases h4 : q.kind = 4
            · rw [if_pos ⟨rfl, h4⟩]
              cases d with
              | zero => rw [partT_0 rfl h4] at ht; cases ht
              | succ d =>
                rw [partT_s rfl h4] at ht
                cases hr : ruleT d q with
                | none => rw [hr] at ht; cases ht
                | some z =>
                  have hb := (hrec q hq d z hr).rule (clL :: l) (by show some clL ≠ some arL; decide) (by show some clL ≠ some andL; decide) (by show some clL ≠ some orL; decide)
                  have e : [opL] ++ kR q ++ [clL] ++ l = opL :: (kR q ++ (clL :: l)) := by simp
                  rw [e]
                  unfold dOne
                  unfold dRule at hb
                  simp only [if_true, hb]
                  rw [if_pos (by rfl)]
                  rfl
            · rw [if_neg (fun e => h4 e.2)]
              rw [partT_ne (fun e => h4 e.2)] at ht
              exact (hrec q hq d t ht).one h4 hqk l hF
          exact ⟨fun _ e => absurd rfl e, fun _ => hboth, fun rest h1 h2 h3 => op_one (hboth rest h1 h2) (show (5 : Int) ≠ 4 by decide) h3⟩
      · cases h
    · have h4 : (RT.node k a b ps).kind ≠ 4 := fun e => hk (.inl e)
      have h5 : (RT.node k a b ps).kind ≠ 5 := fun e => hk (.inr e)
      refine Back.leaf h4 h5 fun rest hh => ?_
      unfold ruleT at h
      unfold kR
      by_cases h1 : k = 1
      · rw [if_pos h1] at h ⊢
        split at h
        · rename_i hc
          obtain ⟨rfl, rfl, rfl⟩ := hc
          subst h1
          show dOne d (thisL :: rest) = _
          rw [dOne_cons d thisL rest (by decide) (by decide), dName_this]
        · cases h
      rw [if_neg h1] at h ⊢
      by_cases h2 : k = 2
      · rw [if_pos h2] at h ⊢
        split at h
        · rename_i hc
          obtain ⟨hg, rfl, rfl⟩ := hc
          subst h2
          obtain ⟨n1, n2⟩ := good_both hg
          show dOne d (a :: rest) = _
          rw [dOne_cons d a rest (name_op n1) n1, dName_same n2 hh]
        · cases h
      rw [if_neg h2] at h ⊢
      by_cases h3 : k = 3
      · rw [if_pos h3] at h ⊢
        split at h
        · rename_i hc
          obtain ⟨hg, hg2, rfl⟩ := hc
          subst h3
          obtain ⟨n1, n2⟩ := good_both hg
          obtain ⟨m1, m2⟩ := good_both hg2
          show dOne d (a :: arL :: b :: rest) = _
          rw [dOne_cons d a _ (name_op n1) n1, dName_via n2 m1 m2]
        · cases h
      rw [if_neg h3, if_neg hk] at h
      cases h
termination_by r => SizeOf.sizeOf r
decreasing_by exact part_lt (r := .node k a b ps) hp
end Go.Proofs.YtkibaaljpbcjeaaDoor
