/- A line's meaning: the document's way, on its tokens. No program in sight. A line's meaning: the program's way and the document's are one. No program in sight. -/
import Derived.Test.YtkibaaljpbcjeaaDoorSTx
import Derived.Test.YtkibaaljpbcjeaaDoorSPl
namespace Go.Proofs.YtkibaaljpbcjeaaDoor
/-- the document's way with a line's tokens -/
def lineD (ts : List TyD) (l : Toks) : Option (List TyD) := match l with
  | [a, b] => if a = typeL ∧ good b = true then some (ts ++ [(b, [])]) else none
  | a :: e :: l2 => if ts ≠ [] ∧ good a = true ∧ a ≠ typeL ∧ e = eqL then match dRule 8 l2 with
      | some (r, []) => some (addRel ts a r)
      | _ => none
    else none
  | _ => none
theorem keeps_bad_loop {G : Toks → Option (RT × Toks)} {op : List UInt8} {kind : Int} (hop : op ≠ []) (h : ∀ l r l', G l = some (r, l') → [] ∈ l → [] ∈ l') : ∀ (n : Nat) (l : Toks) (acc : List RT) (r : RT) (l' : Toks), gLoop G op kind n l acc = some (r, l') → [] ∈ l → [] ∈ l'
  | 0, _, _, _, _, e, _ => by cases e
  | n + 1, l, acc, r, l', e, hm => by
    unfold gLoop at e
    cases hg : G l with
    | none => rw [hg] at e; cases e
    | some x =>
      obtain ⟨r1, l1⟩ := x
      rw [hg] at e
      have h1 := h l r1 l1 hg hm
      simp only at e
      split at e
      · rename_i hh
        refine keeps_bad_loop hop h n _ _ r l' e ?_
        match l1, hh, h1 with
        | a :: l2, hh, h1 =>
          rcases List.mem_cons.1 h1 with e2 | h1
          · rw [← e2] at hh; exact absurd (Option.some.inj hh).symm hop
          · exact h1
      · split at e
        · cases e
        · obtain ⟨_, rfl⟩ := Prod.mk.inj (Option.some.inj e); exact h1
theorem tail_bad {l : Toks} {a : List UInt8} (ha : a ≠ []) (h : l.head? = some a) (hm : [] ∈ l) : [] ∈ l.tail := by
  match l, h, hm with
  | b :: l2, h, hm =>
    rcases List.mem_cons.1 hm with e | h1
    · rw [← e] at h; exact absurd (Option.some.inj h).symm ha
    · exact h1
theorem good_ne {t : List UInt8} (h : good t = true) : t ≠ [] := fun e => by rw [e] at h; cases h
theorem keeps_bad_rest {t : List UInt8} {l1 : Toks} {r : RT} {l' : Toks} (h : (if t = thisL then (if l1.head? = some arL then none else some (RT.node 1 [] [] [], l1)) else if good t then (if l1.head? = some arL then (match l1.tail with
      | [] => none
      | t2 :: l2 => if good t2 then some (.node 3 t t2 [], l2) else none) else if l1.head? = some [] then none else some (.node 2 t [] [], l1)) else none) = some (r, l')) (hm : [] ∈ t :: l1) : [] ∈ l' := by
  split at h
  · rename_i ht
    have hm1 : [] ∈ l1 := by
      rcases List.mem_cons.1 hm with e | e
      · rw [ht] at e; cases e
      · exact e
    split at h
    · cases h
    · obtain ⟨_, rfl⟩ := Prod.mk.inj (Option.some.inj h); exact hm1
  · split at h
    · rename_i hg
      have hm1 : [] ∈ l1 := by
        rcases List.mem_cons.1 hm with e | e
        · exact absurd e.symm (good_ne hg)
        · exact e
      split at h
      · rename_i ha
        have hm2 := tail_bad (by decide) ha hm1
        split at h
        · cases h
        · rename_i t2 l2 e2
          rw [e2] at hm2
          split at h
          · rename_i hg2
            obtain ⟨_, rfl⟩ := Prod.mk.inj (Option.some.inj h)
            rcases List.mem_cons.1 hm2 with e | e
            · exact absurd e.symm (good_ne hg2)
            · exact e
          · cases h
      · split at h
        · cases h
        · obtain ⟨_, rfl⟩ := Prod.mk.inj (Option.some.inj h); exact hm1
    · cases h
theorem one_bad : ∀ (d : Nat) (l : Toks) (r : RT) (l' : Toks), gOne d l = some (r, l') → [] ∈ l → [] ∈ l' := by
  intro d
  induction d with
  | zero =>
    intro l r l' h hm
    match l, h, hm with
    | t :: l1, h, hm =>
      unfold gOne at h
      by_cases h0 : t = opL
      · simp only [h0, if_true] at h; cases h
      · simp only [h0, if_false] at h
        exact keeps_bad_rest h hm
  | succ d ih =>
    intro l r l' h hm
    match l, h, hm with
    | t :: l1, h, hm =>
      unfold gOne at h
      by_cases h0 : t = opL
      · simp only [h0, if_true] at h
        have hm1 : [] ∈ l1 := by
          rcases List.mem_cons.1 hm with e | e
          · rw [h0] at e; cases e
          · exact e
        cases hg : gOp (gOp (gOne d) andL 5) orL 4 l1 with
        | none => rw [hg] at h; cases h
        | some x =>
          obtain ⟨r2, l2⟩ := x
          rw [hg] at h
          have hm2 := keeps_bad_loop (by decide) (fun l r l' e => keeps_bad_loop (by decide) ih _ l [] r l' e) _ l1 [] r2 l2 hg hm1
          simp only at h
          split at h
          · rename_i hc
            obtain ⟨_, rfl⟩ := Prod.mk.inj (Option.some.inj h)
            exact tail_bad (by decide) hc hm2
          · cases h
      · simp only [h0, if_false] at h
        exact keeps_bad_rest h hm
theorem rule_bad (d : Nat) (l : Toks) (r : RT) (l' : Toks) (h : gRule d l = some (r, l')) (hm : [] ∈ l) : [] ∈ l' :=
  keeps_bad_loop (by decide) (fun l r l' e => keeps_bad_loop (by decide) (one_bad d) _ l [] r l' e) _ l [] r l' h hm
end Go.Proofs.YtkibaaljpbcjeaaDoor
namespace Go.Proofs.YtkibaaljpbcjeaaDoor
theorem rule_match (l : Toks) (hb : [] ∉ l) (f : RT → List TyD) : (match gRule 8 l with
    | some (r, []) => some (f r)
    | _ => none) = match dRule 8 l with
    | some (r, []) => some (f r)
    | _ => none := by
  have h := rule_same 8 l hb
  cases hg : gRule 8 l with
  | none =>
    cases hd : dRule 8 l with
    | none => rfl
    | some x =>
      obtain ⟨r, l'⟩ := x
      cases l' with
      | nil => have := (h r).2 hd; rw [hg] at this; cases this
      | cons _ _ => rfl
  | some x =>
    obtain ⟨r, l'⟩ := x
    have hd := (rule_near 8 l hb).fwd r l' hg
    rw [hd]
theorem line_same (ts : List TyD) (s : List UInt8) : lineG ts s = if [] ∈ toks s then none else lineD ts (toks s) := by
  by_cases ha : pk s = []
  · have h1 : lineG ts s = none := by
      unfold lineG
      rw [ha, if_neg (fun e : good [] = true ∧ _ => by cases e.1), if_neg (fun e : ([] : List UInt8) = typeL ∧ _ => by cases e.1), ite_self]
    rw [h1]
    cases he : (trimL s).isEmpty
    · rw [toks_bad (by rw [pbad_of ha, he]; rfl)]; rfl
    · rw [toks_end he]; rfl
  · rw [toks_cons ha]
    by_cases hb : pk (rest s) = []
    · have h1 : lineG ts s = none := by
        unfold lineG
        rw [hb, if_neg (fun e : ([] : List UInt8) = eqL ∧ _ => by cases e.1), if_neg (fun e => by cases e.2.1)]
      rw [h1]
      cases he : (trimL (rest s)).isEmpty
      · rw [toks_bad (by rw [pbad_of hb, he]; rfl), if_pos (by simp)]
      · rw [toks_end he, if_neg (by simpa using Ne.symm ha)]; rfl
    · rw [toks_cons hb]
      unfold lineG
      generalize toks (rest (rest s)) = l2
      generalize pk s = a at *
      generalize pk (rest s) = b at *
      by_cases hm : [] ∈ l2
      · have hR : (if [] ∈ a :: b :: l2 then none else lineD ts (a :: b :: l2)) = none := if_pos (by simp [hm])
        rw [hR]
        have e2 : ¬ (a = typeL ∧ good b = true ∧ l2 = []) := fun e => by rw [e.2.2] at hm; cases hm
        rw [if_neg e2]
        split
        · split
          · split
            · rename_i r hg
              have := rule_bad 8 l2 r [] hg hm
              cases this
            · rfl
          · rfl
        · rfl
      · have hR : (if [] ∈ a :: b :: l2 then none else lineD ts (a :: b :: l2)) = lineD ts (a :: b :: l2) := if_neg (by simp [hm, Ne.symm ha, Ne.symm hb])
        rw [hR]
        clear hR
        cases l2 with
        | nil =>
          show _ = if a = typeL ∧ good b = true then _ else none
          by_cases hc : b = eqL ∧ ts ≠ []
          · rw [if_pos hc]
            have hg : good b = false := by rw [hc.1]; decide
            have hR : (if a = typeL ∧ good b = true then some (ts ++ [(b, [])]) else none) = none := if_neg (fun e => by rw [hg] at e; cases e.2)
            rw [hR]
            have hn : gRule 8 [] = none := rfl
            rw [hn]
            split <;> rfl
          · rw [if_neg hc]
            simp
        | cons c l3 =>
          show _ = if ts ≠ [] ∧ good a = true ∧ a ≠ typeL ∧ b = eqL then _ else none
          rw [if_neg (fun e : a = typeL ∧ good b = true ∧ c :: l3 = [] => by cases e.2.2)]
          by_cases hc : b = eqL ∧ ts ≠ []
          · rw [if_pos hc]
            by_cases hg : good a = true ∧ a ≠ typeL
            · rw [if_pos hg, if_pos ⟨hc.2, hg.1, hg.2, hc.1⟩]
              exact rule_match _ hm _
            · rw [if_neg hg, if_neg fun e => hg ⟨e.2.1, e.2.2.1⟩]
          · rw [if_neg hc, if_neg fun e => hc ⟨e.2.2.2, e.1⟩]
end Go.Proofs.YtkibaaljpbcjeaaDoor
