/- How great a parsed schema is at most. No program in sight. The fixed texts: what they say, by reckoning. -/
import Derived.Test.YtkibaaljpbcjeaaDoorSPp
import Derived.Test.YtkibaaljpbcjeaaDoorSC1
namespace Go.Proofs.YtkibaaljpbcjeaaDoor
/-- tokens' weight -/
def tw : Toks → Nat
  | [] => 0
  | x :: l => x.length + 1 + tw l
theorem tw_tail {l : Toks} {a : List UInt8} (h : l.head? = some a) : tw l.tail + 1 ≤ tw l := by
  cases l with
  | nil => cases h
  | cons b l => show tw l + 1 ≤ b.length + 1 + tw l; omega
theorem wtL_nil : wtL [] = 0 := by unfold wtL; rfl
theorem tysW_nil : tysW [] = 0 := by unfold tysW; rfl
theorem relsW_nil : relsW [] = 0 := by unfold relsW; rfl
theorem wtL_app : ∀ (a b : List RT), wtL (a ++ b) = wtL a + wtL b
  | [], b => by rw [List.nil_append, wtL_nil, Nat.zero_add]
  | p :: a, b => by
    rw [List.cons_append]
    have e : ∀ l, wtL (p :: l) = p.wt + 8 + wtL l := fun l => by conv => lhs; unfold wtL
    rw [e, e, wtL_app a b]; omega
theorem wtL_one (r : RT) : wtL [r] = r.wt + 8 := by
  have e : wtL [r] = r.wt + 8 + wtL [] := by conv => lhs; unfold wtL
  rw [e, wtL_nil]
theorem wt_parts (r : RT) : 8 + wtL r.parts ≤ r.wt := by
  cases r with
  | node k a b ps =>
    rw [RT.wt_eq]
    show 8 + wtL ps ≤ a.length + b.length + 8 + wtL ps
    omega
theorem wt_grp (k : Int) (ps : List RT) : (RT.node k [] [] ps).wt = 8 + wtL ps := by
  rw [RT.wt_eq]
  show 0 + 0 + 8 + wtL ps = _
  omega
theorem wtL_flat (k : Int) (r : RT) : wtL (flat k r) ≤ r.wt + 8 := by
  unfold flat
  split
  · have := wt_parts r; omega
  · rw [wtL_one]; exact Nat.le_refl _
theorem wt_joined (k : Int) (ps : List RT) : (joined k ps).wt ≤ 8 + wtL ps := by
  unfold joined
  split
  · rename_i r; rw [wtL_one]; omega
  · rw [wt_grp]; exact Nat.le_refl _
theorem wt_joined_flat (k : Int) (r : RT) : (joined k (flat k r)).wt ≤ r.wt := by
  unfold flat
  split
  · have h1 := wt_joined k r.parts
    have h2 := wt_parts r
    omega
  · exact Nat.le_refl _
/-- a parse takes that much -/
def WG (G : Toks → Option (RT × Toks)) : Prop := ∀ l r l', G l = some (r, l') → r.wt + 16 + 32 * tw l' ≤ 32 * tw l
theorem loop_wt {G : Toks → Option (RT × Toks)} {op : List UInt8} {kind : Int} (hG : WG G) (L : Nat) : ∀ (n : Nat) (l : Toks) (acc : List RT) (r : RT) (l' : Toks), ((acc = [] ∧ tw l ≤ L) ∨ wtL acc + 24 + 32 * tw l ≤ 32 * L) → dLoop G op kind n l acc = some (r, l') → r.wt + 16 + 32 * tw l' ≤ 32 * L
  | 0, _, _, _, _, _, e => by cases e
  | n + 1, l, acc, r, l', h, e => by
    unfold dLoop at e
    cases hg : G l with
    | none => rw [hg] at e; cases e
    | some x =>
      obtain ⟨r1, l1⟩ := x
      rw [hg] at e
      have hw := hG l r1 l1 hg
      have hf := wtL_flat kind r1
      have ha := wtL_app acc (flat kind r1)
      simp only at e
      split at e
      · rename_i hh
        have ht := tw_tail hh
        refine loop_wt hG L n _ _ r l' (.inr ?_) e
        rw [ha]
        rcases h with ⟨rfl, h⟩ | h
        · have := wtL_nil
          omega
        · omega
      · obtain ⟨rfl, rfl⟩ := Prod.mk.inj (Option.some.inj e)
        rcases h with ⟨rfl, h⟩ | h
        · have := wt_joined_flat kind r1
          rw [List.nil_append]; omega
        · have := wt_joined kind (acc ++ flat kind r1)
          omega
theorem op_wt {G : Toks → Option (RT × Toks)} {op : List UInt8} {kind : Int} (hG : WG G) : WG (dOp G op kind) := fun l r l' e => loop_wt hG (tw l) _ l [] r l' (.inl ⟨rfl, Nat.le_refl _⟩) e
theorem wt_leaf (k : Int) (a b : List UInt8) : (RT.node k a b []).wt = a.length + b.length + 8 := by
  rw [RT.wt_eq]
  show _ + _ + 8 + wtL [] = _
  rw [wtL_nil]
theorem name_wt (t : List UInt8) (l1 : Toks) (r : RT) (l' : Toks) (e : dName t l1 = some (r, l')) : r.wt + 16 + 32 * tw l' ≤ 32 * tw (t :: l1) := by
  unfold dName at e
  have h1 : tw (t :: l1) = t.length + 1 + tw l1 := rfl
  have hleaf : ∀ k, r = .node k t [] [] ∨ r = .node k [] [] [] → l' = l1 → r.wt + 16 + 32 * tw l' ≤ 32 * tw (t :: l1) := fun k h hl => by
    subst hl
    rcases h with rfl | rfl <;> rw [wt_leaf, h1] <;> simp only [List.length_nil] <;> omega
  split at e
  · rename_i a t2 l2
    split at e
    · obtain ⟨rfl, rfl⟩ := Prod.mk.inj (Option.some.inj e)
      have h2 : tw (a :: t2 :: l2) = a.length + 1 + (t2.length + 1 + tw l2) := rfl
      rw [wt_leaf, h1, h2]; omega
    · split at e
      · obtain ⟨e1, e2⟩ := Prod.mk.inj (Option.some.inj e); exact hleaf 1 (.inr e1.symm) e2.symm
      · obtain ⟨e1, e2⟩ := Prod.mk.inj (Option.some.inj e); exact hleaf 2 (.inl e1.symm) e2.symm
  · split at e
    · obtain ⟨e1, e2⟩ := Prod.mk.inj (Option.some.inj e); exact hleaf 1 (.inr e1.symm) e2.symm
    · obtain ⟨e1, e2⟩ := Prod.mk.inj (Option.some.inj e); exact hleaf 2 (.inl e1.symm) e2.symm
theorem one_wt : ∀ (d : Nat), WG (dOne d) := by
  intro d
  induction d with
  | zero =>
    intro l r l' e
    match l, e with
    | t :: l1, e =>
      unfold dOne at e
      by_cases h0 : t = opL
      · simp only [h0, if_true] at e; cases e
      · simp only [h0, if_false] at e
        split at e
        · exact name_wt t l1 r l' e
        · cases e
  | succ d ih =>
    intro l r l' e
    match l, e with
    | t :: l1, e =>
      unfold dOne at e
      by_cases h0 : t = opL
      · simp only [h0, if_true] at e
        cases hg : dOp (dOp (dOne d) andL 5) orL 4 l1 with
        | none => rw [hg] at e; cases e
        | some x =>
          obtain ⟨r2, l2⟩ := x
          rw [hg] at e
          have z := op_wt (op_wt ih) l1 r2 l2 hg
          simp only at e
          split at e
          · rename_i hc
            obtain ⟨rfl, rfl⟩ := Prod.mk.inj (Option.some.inj e)
            have := tw_tail hc
            have h1 : tw (t :: l1) = t.length + 1 + tw l1 := rfl
            omega
          · cases e
      · simp only [h0, if_false] at e
        split at e
        · exact name_wt t l1 r l' e
        · cases e
theorem rule_wt (d : Nat) : WG (dRule d) := op_wt (op_wt (one_wt d))
theorem toksF_tw : ∀ (n : Nat) (s : List UInt8), tw (toksF n s) ≤ 2 * s.length
  | 0, s => by show 0 ≤ _; omega
  | n + 1, s => by
    unfold toksF
    have h1 := trimL_le s
    split
    · show 0 ≤ _; omega
    · rename_i h
      have hne : 1 ≤ (trimL s).length := by
        rcases Nat.eq_zero_or_pos (trimL s).length with h0 | h0
        · exact absurd (by rw [List.isEmpty_iff]; exact List.eq_nil_of_length_eq_zero h0) h
        · exact h0
      split
      · show 0 + 1 + 0 ≤ _; omega
      · rename_i h2
        have hpk : 1 ≤ (pk s).length := by
          rcases Nat.eq_zero_or_pos (pk s).length with h0 | h0
          · exact absurd (by rw [List.isEmpty_iff]; exact List.eq_nil_of_length_eq_zero h0) h2
          · exact h0
        have ih := toksF_tw n (rest s)
        have hr : (rest s).length = (trimL s).length - (pk s).length := by unfold rest; rw [List.length_drop]
        have hp := pk_le s
        show (pk s).length + 1 + tw (toksF n (rest s)) ≤ _
        omega
theorem toks_tw (s : List UInt8) : tw (toks s) ≤ 2 * s.length := toksF_tw _ s
theorem tysW_app : ∀ (a b : List TyD), tysW (a ++ b) = tysW a + tysW b
  | [], b => by rw [List.nil_append, tysW_nil, Nat.zero_add]
  | (n, rels) :: a, b => by rw [List.cons_append, tysW_cons, tysW_cons]; unfold restW; rw [tysW_app a b]; omega
theorem relsW_app : ∀ (a b : List RelD), relsW (a ++ b) = relsW a + relsW b
  | [], b => by rw [List.nil_append, relsW_nil, Nat.zero_add]
  | (m, r) :: a, b => by
    rw [List.cons_append]
    have e : ∀ l, relsW ((m, r) :: l) = m.length + r.wt + 8 + relsW l := fun l => by conv => lhs; unfold relsW
    rw [e, e, relsW_app a b]; omega
theorem tysW_one (n : List UInt8) (rels : List RelD) : tysW [(n, rels)] = n.length + 16 + relsW rels := by
  rw [tysW_cons]; unfold restW; rw [tysW_nil]; omega
theorem addRel_W (ts : List TyD) (m : List UInt8) (r : RT) : tysW (addRel ts m r) ≤ tysW ts + (m.length + r.wt + 8) := by
  unfold addRel
  cases hl : ts.getLast? with
  | none => show tysW ts ≤ _; omega
  | some x =>
    obtain ⟨n, rels⟩ := x
    have hd : ts = ts.dropLast ++ [(n, rels)] := by
      obtain ⟨ys, rfl⟩ := List.getLast?_eq_some_iff.1 hl
      rw [List.dropLast_concat]
    have e1 : relsW [(m, r)] = m.length + r.wt + 8 := by
      have e : relsW [(m, r)] = m.length + r.wt + 8 + relsW [] := by conv => lhs; unfold relsW
      rw [e, relsW_nil]
    have e2 : tysW ts = tysW ts.dropLast + (n.length + 16 + relsW rels) := by
      conv => lhs; rw [hd]
      rw [tysW_app, tysW_one]
    show tysW (ts.dropLast ++ [(n, rels ++ [(m, r)])]) ≤ _
    rw [tysW_app, tysW_one, relsW_app, e1, e2]; omega
theorem lineD_two' (ts : List TyD) (a b : List UInt8) : lineD ts [a, b] = if a = typeL ∧ good b = true then some (ts ++ [(b, [])]) else none := rfl
theorem lineD_more' (ts : List TyD) (a e c : List UInt8) (l2 : Toks) : lineD ts (a :: e :: c :: l2) = if ts ≠ [] ∧ good a = true ∧ a ≠ typeL ∧ e = eqL then match dRule 8 (c :: l2) with
      | some (r, []) => some (addRel ts a r)
      | _ => none
    else none := rfl
theorem lineD_W {ts ts' : List TyD} {l : Toks} (h : lineD ts l = some ts') : tysW ts' ≤ tysW ts + 32 * tw l := by
  match l, h with
  | [a, b], h =>
    rw [lineD_two'] at h
    split at h
    · obtain rfl := Option.some.inj h
      have : tw [a, b] = a.length + 1 + (b.length + 1 + 0) := rfl
      rw [tysW_app, tysW_one, this, relsW_nil]; omega
    · cases h
  | a :: e :: c :: l2, h =>
    rw [lineD_more'] at h
    split at h
    · cases hg : dRule 8 (c :: l2) with
      | none => rw [hg] at h; cases h
      | some x =>
        obtain ⟨r, l'⟩ := x
        rw [hg] at h
        have hw := rule_wt 8 _ r l' hg
        cases l' with
        | nil =>
          obtain rfl := Option.some.inj h
          have := addRel_W ts a r
          have h1 : tw (a :: e :: c :: l2) = a.length + 1 + (e.length + 1 + tw (c :: l2)) := rfl
          omega
        | cons _ _ => cases h
    · cases h
theorem lineX_W {ts ts' : List TyD} {s : List UInt8} (h : lineX ts s = some ts') : tysW ts' ≤ tysW ts + 64 * s.length := by
  unfold lineX at h
  split at h
  · cases h
  · have h1 := lineD_W h
    have h2 := toks_tw s
    omega
def sumL : List (List UInt8) → Nat
  | [] => 0
  | l :: ls => l.length + sumL ls
theorem parseD_W : ∀ (ls : List (List UInt8)) (i : Nat) (ts ts' : List TyD) (k : Int), parseD ls i ts = (some ts', k) → tysW ts' ≤ tysW ts + 64 * sumL ls
  | [], i, ts, ts', k, h => by
    obtain ⟨h1, _⟩ := Prod.mk.inj h
    obtain rfl := Option.some.inj h1
    omega
  | l :: ls, i, ts, ts', k, h => by
    unfold parseD at h
    have hs : sumL (l :: ls) = l.length + sumL ls := rfl
    split at h
    · have := parseD_W ls _ ts ts' k h
      omega
    · cases hx : lineX ts l with
      | none => rw [hx] at h; cases (Prod.mk.inj h).1
      | some t2 =>
        rw [hx] at h
        have h1 := parseD_W ls _ t2 ts' k h
        have h2 := lineX_W hx
        omega
theorem cutL_sum : ∀ l : List UInt8, sumL (cutL l) ≤ l.length
  | [] => by show 0 + 0 ≤ 0; omega
  | b :: l => by
    have ih := cutL_sum l
    unfold cutL
    split
    · show 0 + sumL (cutL l) ≤ _
      simp only [List.length_cons]; omega
    · cases hc : cutL l with
      | nil => exact absurd hc (cutL_ne l)
      | cons p ps =>
        rw [hc] at ih
        show (b :: p).length + sumL ps ≤ _
        have : sumL (p :: ps) = p.length + sumL ps := rfl
        simp only [List.length_cons]; omega
theorem parse_W {s : List UInt8} {ts : List TyD} {k : Int} (h : parseD (linesG s) 0 [] = (some ts, k)) : tysW ts ≤ 64 * s.length := by
  have h1 := parseD_W _ _ _ _ _ h
  rw [linesG_cut] at h1
  have h2 := cutL_sum s
  have h3 := tysW_nil
  omega
theorem wtL_len : ∀ ps : List RT, ps.length ≤ wtL ps
  | [] => Nat.zero_le _
  | p :: ps => by
    have e : wtL (p :: ps) = p.wt + 8 + wtL ps := by conv => lhs; unfold wtL
    have := wtL_len ps
    rw [e, List.length_cons]; omega
theorem small_of : ∀ (N : Nat) (r : RT), r.wt ≤ N → r.small N
  | N, .node k a b ps, h => by
    have hw := wt_parts (.node k a b ps)
    have e : (RT.node k a b ps).parts = ps := rfl
    rw [e] at hw
    refine .mk (by have := wtL_len ps; omega) fun p hp => ?_
    have := wtL_mem hp
    exact small_of N p (by omega)
termination_by _ r => SizeOf.sizeOf r
decreasing_by exact part_lt (r := .node k a b ps) hp
theorem relsW_mem {rels : List RelD} {x : RelD} (h : x ∈ rels) : x.2.wt ≤ relsW rels := by
  induction rels with
  | nil => cases h
  | cons q rels ih =>
    obtain ⟨m, r⟩ := q
    have e : relsW ((m, r) :: rels) = m.length + r.wt + 8 + relsW rels := by conv => lhs; unfold relsW
    rw [e]
    rcases List.mem_cons.1 h with rfl | h
    · show r.wt ≤ _; omega
    · have := ih h; omega
theorem relsW_len : ∀ rels : List RelD, rels.length ≤ relsW rels
  | [] => Nat.zero_le _
  | (m, r) :: rels => by
    have e : relsW ((m, r) :: rels) = m.length + r.wt + 8 + relsW rels := by conv => lhs; unfold relsW
    have := relsW_len rels
    rw [e, List.length_cons]; omega
theorem tysW_mem {ts : List TyD} {t : TyD} (h : t ∈ ts) : relsW t.2 ≤ tysW ts := by
  induction ts with
  | nil => cases h
  | cons q ts ih =>
    obtain ⟨n, rels⟩ := q
    rw [tysW_cons]; unfold restW
    rcases List.mem_cons.1 h with rfl | h
    · show relsW rels ≤ _; omega
    · have := ih h; omega
theorem tysW_len : ∀ ts : List TyD, ts.length ≤ tysW ts
  | [] => Nat.zero_le _
  | (n, rels) :: ts => by
    have := tysW_len ts
    rw [tysW_cons, List.length_cons]; unfold restW; omega
theorem tsSmall_of {N : Nat} {ts : List TyD} (h : tysW ts ≤ N) : TsSmall N ts := by
  refine ⟨Nat.le_trans (tysW_len ts) h, fun t ht => ?_⟩
  have h1 := tysW_mem ht
  refine ⟨by have := relsW_len t.2; omega, fun x hx => small_of N _ ?_⟩
  have := relsW_mem hx
  omega
end Go.Proofs.YtkibaaljpbcjeaaDoor
namespace Go.Proofs.YtkibaaljpbcjeaaDoor
open Go.RowKit
def fx1 : ByteArray := ⟨#[116, 121, 112, 101, 32, 100, 111, 99, 10, 32, 118, 105, 101, 119, 101, 114, 32, 61, 32, 116, 104, 105, 115, 32, 124, 32, 111, 119, 110, 101, 114, 32, 38, 32, 112, 97, 114, 101, 110, 116, 45, 62, 118, 105, 101, 119, 101, 114, 10]⟩
def fx2 : ByteArray := ⟨#[10, 97, 32, 61, 32, 116, 104, 105, 115]⟩
def fx3 : List UInt8 := [116, 121, 112, 101, 32, 100, 111, 99, 10, 118, 105, 101, 119, 101, 114, 32, 61, 32, 116, 104, 105, 115, 32, 124, 32, 111, 119, 110, 101, 114, 32, 38, 32, 112, 97, 114, 101, 110, 116, 45, 62, 118, 105, 101, 119, 101, 114, 10]
def vwr : List UInt8 := [118, 105, 101, 119, 101, 114]
def fxs : List TyD := [([100, 111, 99], [(vwr, .node 4 [] [] [.node 1 [] [] [], .node 5 [] [] [.node 2 [111, 119, 110, 101, 114] [] [], .node 3 [112, 97, 114, 101, 110, 116] vwr []]])])]
theorem fx1_lines : (linesB fx1).map (·.data.toList) = [[116, 121, 112, 101, 32, 100, 111, 99], [32, 118, 105, 101, 119, 101, 114, 32, 61, 32, 116, 104, 105, 115, 32, 124, 32, 111, 119, 110, 101, 114, 32, 38, 32, 112, 97, 114, 101, 110, 116, 45, 62, 118, 105, 101, 119, 101, 114], []] := by
  rw [linesB_cut, linesG_cut]
  decide +kernel
theorem fx2_lines : (linesB fx2).map (·.data.toList) = [[], [97, 32, 61, 32, 116, 104, 105, 115]] := by
  rw [linesB_cut, linesG_cut]
  decide +kernel
theorem fx1_parse : parseG ((linesB fx1).map (·.data.toList)) 0 [] = (some fxs, 0) := by
  rw [fx1_lines]
  kernel_rfl
theorem fx2_parse : parseG ((linesB fx2).map (·.data.toList)) 0 [] = (none, 2) := by
  rw [fx2_lines]
  kernel_rfl
theorem fxs_print : tysT fxs = some fx3 := by kernel_rfl
theorem fxs_W : tysW fxs ≤ 1000 := of_decide_eq_true (by kernel_rfl)
end Go.Proofs.YtkibaaljpbcjeaaDoor
