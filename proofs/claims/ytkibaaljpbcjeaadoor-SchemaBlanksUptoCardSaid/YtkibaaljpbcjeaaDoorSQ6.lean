/- A schema that is few has no long text. No program in sight. -/
import Derived.Test.YtkibaaljpbcjeaaDoorSF6
import Derived.Test.YtkibaaljpbcjeaaDoorSQ5
namespace Go.Proofs.YtkibaaljpbcjeaaDoor
mutual
/-- how many rules a rule holds -/
def RT.cnt : RT → Nat
  | .node _ _ _ ps => 1 + cntL ps
def cntL : List RT → Nat
  | [] => 0
  | p :: ps => p.cnt + cntL ps
end
theorem cntL_nil : cntL [] = 0 := by unfold cntL; rfl
theorem cntL_cons (p : RT) (ps : List RT) : cntL (p :: ps) = p.cnt + cntL ps := by conv => lhs; unfold cntL
theorem cnt_node (k : Int) (a b : List UInt8) (ps : List RT) : (RT.node k a b ps).cnt = 1 + cntL ps := by conv => lhs; unfold RT.cnt
theorem smallL_neg {x : Int} (h : x < 0) : ∀ ps : List RT, smallL ps x = x
  | [] => smallL_nil x
  | p :: ps => by rw [smallL_cons, if_pos h]
/-- what is left tells how many there are -/
theorem small_cnt : ∀ (r : RT) (x : Int), 0 ≤ small r x → small r x + (r.cnt : Int) ≤ x
  | .node k a b ps, x, h => by
    have hrec : ∀ p ∈ ps, ∀ y, 0 ≤ small p y → small p y + (p.cnt : Int) ≤ y := fun p hp y hy => small_cnt p y hy
    have hL : ∀ (qs : List RT), (∀ p ∈ qs, p ∈ ps) → ∀ y, 0 ≤ smallL qs y → smallL qs y + (cntL qs : Int) ≤ y := by
      intro qs
      induction qs with
      | nil => intro _ y hy; rw [smallL_nil, cntL_nil]; simp
      | cons q qs ih =>
        intro hm y hy
        rw [smallL_cons] at hy ⊢
        by_cases h0 : y < 0
        · rw [if_pos h0] at hy; omega
        · rw [if_neg h0] at hy ⊢
          by_cases h1 : small q y < 0
          · rw [smallL_neg h1] at hy; omega
          · have h2 := hrec q (hm q (by simp)) y (by omega)
            have h3 := ih (fun p hp => hm p (List.mem_cons_of_mem _ hp)) (small q y) hy
            rw [cntL_cons]
            omega
    rw [small_eq] at h ⊢
    rw [cnt_node]
    have := hL ps (fun _ h => h) _ h
    show smallL ps (x - 1 - ((a.length / 100 : Nat) : Int) - ((b.length / 100 : Nat) : Int)) + _ ≤ _
    omega
termination_by r => SizeOf.sizeOf r
decreasing_by exact part_lt (r := .node k a b ps) hp
def cntR : List RelD → Nat
  | [] => 0
  | (_, r) :: rels => r.cnt + cntR rels
def cntT : List TyD → Nat
  | [] => 0
  | (_, rels) :: ts => 1 + cntR rels + cntT ts
theorem fewN_cnt : ∀ (ts : List TyD) (rels : List RelD) (x : Int), fewN rels ts x = true → (cntR rels : Int) + (cntT ts : Int) ≤ x := by
  intro ts
  have hrels : ∀ (ts : List TyD), (∀ x, fewN [] ts x = true → (cntT ts : Int) ≤ x) → ∀ (rels : List RelD) (x : Int), fewN rels ts x = true → (cntR rels : Int) + (cntT ts : Int) ≤ x := by
    intro ts h rels
    induction rels with
    | nil => intro x hx; have := h x hx; show (0 : Int) + _ ≤ _; omega
    | cons q rels ih =>
      obtain ⟨m, r⟩ := q
      intro x hx
      rw [fewN_rel] at hx
      by_cases h0 : x < 0
      · rw [if_pos h0] at hx; cases hx
      · rw [if_neg h0] at hx
        have h1 := ih _ hx
        have h2 := small_cnt r (x - ((m.length / 100 : Nat) : Int)) (by omega)
        show ((r.cnt + cntR rels : Nat) : Int) + _ ≤ x
        omega
  induction ts with
  | nil =>
    refine hrels [] fun x hx => ?_
    have h : decide (0 ≤ x) = true := hx
    exact of_decide_eq_true h
  | cons t ts ih =>
    obtain ⟨n, rels0⟩ := t
    refine hrels _ fun x hx => ?_
    rw [fewN_type] at hx
    have := ih rels0 _ hx
    show ((1 + cntR rels0 + cntT ts : Nat) : Int) ≤ x
    omega
/-- a printed rule is no longer than its rules' number allows -/
theorem tl_cnt : ∀ (r : RT) (d : Nat) (x : List UInt8), ruleT d r = some x → r.tl + 5 ≤ 73 * r.cnt
  | .node k a b ps, d, x, h => by
    rw [tl_node, cnt_node]
    by_cases hk : k = 4 ∨ k = 5
    · rw [ruleT_grp hk] at h
      split at h
      · rename_i hc
        obtain ⟨rfl, rfl, _⟩ := hc
        have hin := partsT_inv ps true x h
        have hrec : ∀ p ∈ ps, p.tl + 5 ≤ 73 * p.cnt := fun p hp => by
          obtain ⟨_, t, ht⟩ := hin p hp
          by_cases h5 : k = 5 ∧ p.kind = 4
          · cases d with
            | zero => rw [partT_0 h5.1 h5.2] at ht; cases ht
            | succ d =>
              rw [partT_s h5.1 h5.2] at ht
              cases hr : ruleT d p with
              | none => rw [hr] at ht; cases ht
              | some z => exact tl_cnt p d z hr
          · rw [partT_ne h5] at ht
            exact tl_cnt p d t ht
        have hL : ∀ (qs : List RT), (∀ p ∈ qs, p ∈ ps) → tlL qs ≤ 73 * cntL qs := by
          intro qs
          induction qs with
          | nil => intro _; rw [tlL_nil, cntL_nil]; exact Nat.le_refl _
          | cons q qs ih =>
            intro hm
            rw [tlL_cons, cntL_cons]
            have h1 := hrec q (hm q (by simp))
            have h2 := ih fun p hp => hm p (List.mem_cons_of_mem _ hp)
            omega
        have := hL ps fun _ h => h
        simp only [List.length_nil]
        omega
      · cases h
    · have h2 : a.length ≤ 32 ∧ b.length ≤ 32 ∧ ps = [] := by
        have hg : ∀ {t : List UInt8}, good t = true → t.length ≤ 32 := fun {t} ht => (name_bytes (good_both ht).1).2.2
        unfold ruleT at h
        by_cases h1 : k = 1
        · rw [if_pos h1] at h
          split at h
          · rename_i hc; obtain ⟨rfl, rfl, rfl⟩ := hc; exact ⟨by simp, by simp, rfl⟩
          · cases h
        rw [if_neg h1] at h
        by_cases h2 : k = 2
        · rw [if_pos h2] at h
          split at h
          · rename_i hc; obtain ⟨h3, rfl, rfl⟩ := hc; exact ⟨hg h3, by simp, rfl⟩
          · cases h
        rw [if_neg h2] at h
        by_cases h3 : k = 3
        · rw [if_pos h3] at h
          split at h
          · rename_i hc; obtain ⟨h4, h5, rfl⟩ := hc; exact ⟨hg h4, hg h5, rfl⟩
          · cases h
        rw [if_neg h3, if_neg hk] at h
        cases h
      obtain ⟨h3, h4, rfl⟩ := h2
      rw [tlL_nil, cntL_nil]
      omega
termination_by r => SizeOf.sizeOf r
decreasing_by all_goals exact part_lt (r := .node k _ _ ps) hp
theorem rels_cnt : ∀ (rels : List RelD) (x : List UInt8), relsT rels = some x → relsL rels ≤ 109 * cntR rels
  | [], x, _ => Nat.le_refl _
  | (m, r) :: rels, x, h => by
    unfold relsT at h
    cases hr : relT m r with
    | none => rw [hr] at h; cases h
    | some t =>
      rw [hr] at h
      cases hu : relsT rels with
      | none => rw [hu] at h; cases h
      | some u =>
        have h1 := rels_cnt rels u hu
        unfold relT at hr
        split at hr
        · rename_i hc
          cases hx : ruleT 8 r with
          | none => rw [hx] at hr; cases hr
          | some z =>
            have h2 := tl_cnt r 8 z hx
            have h3 := (name_bytes (good_both hc.1).1).2.2
            have h4 : 1 ≤ r.cnt := by cases r; rw [cnt_node]; omega
            show m.length + r.tl + 4 + relsL rels ≤ 109 * (r.cnt + cntR rels)
            omega
        · cases hr
theorem tys_cnt : ∀ (ts : List TyD) (x : List UInt8), tysT ts = some x → tysL ts ≤ 109 * cntT ts
  | [], x, _ => Nat.le_refl _
  | (n, rels) :: ts, x, h => by
    rw [tysT_cons] at h
    split at h
    · rename_i hg
      unfold restT at h
      cases hr : relsT rels with
      | none => rw [hr] at h; cases h
      | some t =>
        rw [hr] at h
        cases hu : tysT ts with
        | none => rw [hu] at h; cases h
        | some u =>
          have h1 := rels_cnt rels t hr
          have h2 := tys_cnt ts u hu
          have h3 := (name_bytes (good_both hg).1).2.2
          show n.length + 6 + relsL rels + tysL ts ≤ 109 * (1 + cntR rels + cntT ts)
          omega
    · cases h
/-- a schema that is few, printed -/
theorem few_len {ts : List TyD} {x : List UInt8} (hf : few ts = true) (hx : tysT ts = some x) : x.length ≤ 21800 := by
  have h1 := fewN_cnt ts [] 200 hf
  have h2 := tys_cnt ts x hx
  have h3 := tys_len ts x hx
  have h4 : cntR [] = 0 := rfl
  rw [h4] at h1
  omega
end Go.Proofs.YtkibaaljpbcjeaaDoor
