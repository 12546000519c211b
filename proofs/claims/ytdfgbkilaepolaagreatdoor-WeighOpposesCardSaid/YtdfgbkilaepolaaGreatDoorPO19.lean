/- What is written of a condition, of its Not, of both together. No program in sight. The law WeighOpposes in plain words. No program in sight. Walks: the kind of a condition: by its own kind. -/
import Derived.Test.YtdfgbkilaepolaaGreatDoorPO18
import Derived.Test.YtdfgbkilaepolaaGreatDoorPO13
namespace Go.Proofs.YtdfgbkilaepolaaGreatDoor
theorem partW_len {cond : Wr} {c : CT} (h : ∀ d x, cond d c = some x → (textP x).length ≤ c.cw) {d least : Nat} {x : List Piece} (hp : partW cond d least c = some x) : (textP x).length ≤ c.cw + 2 := by
  unfold partW at hp
  split at hp
  · have := h d x hp; omega
  · cases d with
    | zero => cases hp
    | succ d =>
      obtain ⟨y, hy, rfl⟩ := Option.map_eq_some_iff.1 hp
      have := h d y hy
      have e : textP (mk openL :: y ++ [mk closeL]) = [40] ++ textP y ++ [41] := by unfold textP; simp [pieceT, mk, openL, closeL]
      rw [e, List.length_append, List.length_append]
      simp; omega
theorem partsW_len {cond : Wr} (h : ∀ d c x, cond d c = some x → (textP x).length ≤ c.cw) {d least : Nat} {sep : List Piece} (hs : (textP sep).length ≤ 6) : ∀ (ps : List CT) (x : List Piece), partsW cond d least sep ps = some x → (textP x).length ≤ cwL ps
  | [], x, hp => by obtain rfl := Option.some.inj hp; exact Nat.zero_le _
  | [c], x, hp => by
    have := partW_len (fun d x => h d c x) (show partW cond d least c = some x from hp)
    rw [cwL_cons]; omega
  | c :: c2 :: l, x, hp => by
    rw [cwL_cons]
    have hp2 : (match partW cond d least c with | none => none | some x => (partsW cond d least sep (c2 :: l)).map fun y => x ++ sep ++ y) = some x := hp
    cases hc : partW cond d least c with
    | none => rw [hc] at hp2; cases hp2
    | some a =>
      rw [hc] at hp2
      obtain ⟨y, hy, rfl⟩ := Option.map_eq_some_iff.1 hp2
      have h1 := partW_len (fun d x => h d c x) hc
      have h2 := partsW_len h hs (c2 :: l) y hy
      rw [len_app]
      omega
theorem twoW_len {cond : Wr} (h : ∀ d c x, cond d c = some x → (textP x).length ≤ c.cw) {d l1 l2 : Nat} {sep : List Piece} (hs : (textP sep).length ≤ 6) {ps : List CT} {x : List Piece} (hp : twoW cond d l1 l2 sep ps = some x) : (textP x).length ≤ cwL ps := by
  match ps, hp with
  | [a, b], hp =>
    have hp2 : (match partW cond d l1 a with | none => none | some x => (partW cond d l2 b).map fun y => x ++ sep ++ y) = some x := hp
    cases hc : partW cond d l1 a with
    | none => rw [hc] at hp2; cases hp2
    | some u =>
      rw [hc] at hp2
      obtain ⟨y, hy, rfl⟩ := Option.map_eq_some_iff.1 hp2
      have h1 := partW_len (fun d x => h d a x) hc
      have h2 := partW_len (fun d x => h d b x) hy
      rw [len_app, cwL_cons, cwL_cons, cwL_nil]
      omega
theorem dec_len17 {n : Int} (h1 : -1000000000000000 ≤ n) (h2 : n ≤ 1000000000000000) : (textP (numP n)).length ≤ 32 := by
  have h3 : ∀ (b m : Nat), m < 10 ^ (b + 1) → (Lib.decDigits m).length ≤ b + 1 := by
    intro b
    induction b with
    | zero => intro m hm; unfold Lib.decDigits; rw [dif_pos (by omega)]; simp
    | succ b ih =>
      intro m hm
      unfold Lib.decDigits
      split
      · simp
      · rw [List.length_append]
        have := ih (m / 10) (by rw [Nat.pow_succ] at hm; omega)
        simp; omega
  have h4 := h3 15 n.natAbs (by omega)
  unfold numP textP decL
  split
  · simp [pieceT, minusL]; omega
  · simp [pieceT]; omega
theorem headD_mem {ps : List CT} (h : ps ≠ []) : ps.headD (leaf 0 0 []) ∈ ps := by
  cases ps with
  | nil => exact absurd rfl h
  | cons a l => exact List.mem_cons_self
theorem condW_len : ∀ f d c x, condW f d c = some x → (textP x).length ≤ c.cw
  | 0, _, _, _, h => by cases h
  | f + 1, d, c, x, h => by
    have ih := condW_len f
    have hcw := cw_node c
    have h : stepW (condW f) d c = some x := h
    unfold stepW at h
    by_cases hr : rightC c = false
    · rw [if_pos hr] at h; cases h
    · rw [if_neg hr] at h
      have hr : rightC c = true := by simpa using hr
      by_cases hu : unlikeC c = true
      · rw [if_pos hu] at h
        have h1 := partsW_len ih (sep := spc (mk [33, 61])) (by decide) _ _ h
        have h2 : cwL (c.parts.headD (leaf 0 0 [])).parts ≤ cwL c.parts := by
          cases hp : c.parts with
          | nil => exact Nat.le_refl _
          | cons a l =>
            show cwL a.parts ≤ cwL (a :: l)
            rw [cwL_cons]
            have := cw_node a
            omega
        omega
      · rw [if_neg hu] at h
        by_cases k1 : c.kind = 1
        · rw [if_pos k1] at h
          obtain rfl := Option.some.inj h
          have : (textP [wd trueL]).length = 4 := rfl
          omega
        rw [if_neg k1] at h
        by_cases k2 : c.kind = 2
        · rw [if_pos k2] at h
          obtain rfl := Option.some.inj h
          have : (textP [wd falseL]).length = 5 := rfl
          omega
        rw [if_neg k2] at h
        by_cases k3 : c.kind = 3
        · rw [if_pos k3] at h
          obtain rfl := Option.some.inj h
          unfold rightC at hr
          rw [if_neg (by omega), if_pos k3] at hr
          simp only [Bool.and_eq_true, decide_eq_true_eq] at hr
          have := dec_len17 hr.1.2 hr.2
          omega
        rw [if_neg k3] at h
        by_cases k4 : c.kind = 4
        · rw [if_pos k4] at h
          obtain rfl := Option.some.inj h
          have e : textP [some (5, c.str, false)] = 39 :: c.str ++ [39] := by unfold textP; simp [pieceT]
          rw [e]
          simp; omega
        rw [if_neg k4] at h
        by_cases k5 : c.kind = 5
        · rw [if_pos k5] at h
          obtain rfl := Option.some.inj h
          have e : textP [wd c.str] = c.str := by unfold textP; simp [pieceT, wd]
          rw [e]; omega
        rw [if_neg k5] at h
        by_cases k6 : c.kind = 6
        · rw [if_pos k6] at h
          obtain ⟨y, hy, rfl⟩ := Option.map_eq_some_iff.1 h
          have hne : c.parts ≠ [] := by
            unfold rightC at hr
            rw [if_neg (by omega), if_neg k3, if_neg k4, if_neg k5, if_pos k6] at hr
            simp only [Bool.and_eq_true, decide_eq_true_eq] at hr
            intro e; rw [e] at hr; simp at hr
          have h1 := partW_len (fun d x => ih d _ x) hy
          have h2 := cwL_mem (headD_mem hne)
          have e : textP (wd notL :: none :: y) = [110, 111, 116, 32] ++ textP y := rfl
          rw [e, List.length_append]
          simp; omega
        rw [if_neg k6] at h
        by_cases k8 : c.kind = 8
        · rw [if_pos k8] at h
          have := partsW_len ih (sep := spc (wd orL)) (by decide) _ _ h; omega
        rw [if_neg k8] at h
        by_cases k7 : c.kind = 7
        · rw [if_pos k7] at h
          have := partsW_len ih (sep := spc (wd andL)) (by decide) _ _ h; omega
        rw [if_neg k7] at h
        by_cases k15 : c.kind = 15
        · rw [if_pos k15] at h
          cases hc : partW (condW f) d 5 (c.parts.headD (leaf 0 0 [])) with
          | none => rw [hc] at h; cases h
          | some u =>
            rw [hc] at h
            obtain ⟨y, hy, rfl⟩ := Option.map_eq_some_iff.1 h
            have h1 := partW_len (fun d x => ih d _ x) hc
            have h2 := partsW_len ih (sep := [mk [44], none]) (by decide) _ _ hy
            have hne : c.parts ≠ [] := by
              unfold rightC at hr
              rw [if_neg (by omega), if_neg k3, if_neg k4, if_neg k5, if_neg k6, if_neg (by omega), if_pos k15] at hr
              simp only [Bool.and_eq_true, decide_eq_true_eq] at hr
              intro e; rw [e] at hr; simp at hr
            have h3 : (c.parts.headD (leaf 0 0 [])).cw + 8 + cwL c.parts.tail = cwL c.parts := by
              cases hp : c.parts with
              | nil => exact absurd hp hne
              | cons a l => rw [cwL_cons]; rfl
            have e : textP (u ++ [none, wd inL, none, mk [91]] ++ y ++ [mk [93]]) = textP u ++ [32, 105, 110, 32, 91] ++ textP y ++ [93] := by unfold textP; simp [pieceT, wd, mk, inL]
            rw [e]
            simp only [List.length_append, List.length_cons, List.length_nil]
            omega
        rw [if_neg k15] at h
        by_cases k9 : c.kind = 9
        · rw [if_pos k9] at h
          have := partsW_len ih (sep := spc (mk [61])) (by decide) _ _ h; omega
        rw [if_neg k9] at h
        by_cases k10 : c.kind = 10
        · rw [if_pos k10] at h
          have := partsW_len ih (sep := spc (mk [60])) (by decide) _ _ h; omega
        rw [if_neg k10] at h
        by_cases k11 : c.kind = 11
        · rw [if_pos k11] at h
          have := partsW_len ih (sep := spc (mk [60, 61])) (by decide) _ _ h; omega
        rw [if_neg k11] at h
        by_cases k13 : c.kind = 13
        · rw [if_pos k13] at h
          have := twoW_len ih (sep := spc (mk minusL)) (by decide) h; omega
        rw [if_neg k13] at h
        by_cases k14 : c.kind = 14
        · rw [if_pos k14] at h
          have := twoW_len ih (sep := spc (mk [42])) (by decide) h; omega
        rw [if_neg k14] at h
        have := twoW_len ih (sep := spc (mk [43])) (by decide) h; omega
theorem printC_ok {c : CT} : (printC c).2 = 0 ↔ c.size ≤ 256 ∧ ∃ ps, printP c = some ps ∧ (textP ps).length ≤ 4096 := by
  unfold printC
  by_cases h1 : 256 < c.size
  · rw [if_pos h1]
    exact ⟨fun h => absurd h (by decide), fun h => by omega⟩
  · rw [if_neg h1]
    cases hp : printP c with
    | none => exact ⟨fun h => absurd h (by decide), fun ⟨_, ps, h, _⟩ => by cases h⟩
    | some ps =>
      show (if 4096 < (textP ps).length then (([] : List UInt8), (9 : Int)) else (textP ps, 0)).2 = 0 ↔ _
      by_cases h2 : 4096 < (textP ps).length
      · rw [if_pos h2]
        exact ⟨fun h => absurd h (by decide), fun ⟨_, qs, h, h3⟩ => by obtain rfl := Option.some.inj h; omega⟩
      · rw [if_neg h2]
        exact ⟨fun _ => ⟨by omega, ps, rfl, by omega⟩, fun _ => rfl⟩
theorem print_pr {c : CT} (h : (printC c).2 = 0) (hk : 3 ≤ rankC c) : ∃ n, n ≤ c.cw ∧ Pr 8 3 n c := by
  obtain ⟨_, ps, hp, _⟩ := printC_ok.1 h
  have hp2 : condW c.size 8 c = some ps := by
    unfold printP partW at hp
    rwa [if_pos (Nat.zero_le _)] at hp
  refine ⟨(textP ps).length, condW_len _ _ _ _ hp2, ps, fun f hf => ?_, Nat.le_refl _⟩
  refine part_fuel hf ?_
  unfold partW
  rw [if_pos hk]
  exact hp2
theorem pr_lower {d i j n : Nat} {c : CT} (h : Pr d j n c) (hi : i ≤ j) (hk : j ≤ rankC c) : Pr d i n c := by
  obtain ⟨x, h1, h2⟩ := h
  refine ⟨x, fun f hf => ?_, h2⟩
  have := h1 f hf
  unfold partW at this ⊢
  rw [if_pos hk] at this
  rw [if_pos (by omega)]
  exact this
theorem pr_print {j n : Nat} {c : CT} (h : Pr 8 j n c) (hj : j ≤ rankC c) (hn : n ≤ 4096) (hs : c.size ≤ 256) : (printC c).2 = 0 := by
  obtain ⟨x, h1, h2⟩ := pr_lower h (Nat.zero_le j) hj
  exact printC_ok.2 ⟨hs, x, h1 c.size (Nat.le_refl _), Nat.le_trans h2 hn⟩
theorem rank_not (c : CT) : 3 ≤ rankC (notC c) := by
  show 3 ≤ (if c.kind = 9 then 4 else 3)
  split <;> omega
theorem rank_3 {c : CT} (h7 : c.kind ≠ 7) (h8 : c.kind ≠ 8) : 3 ≤ rankC c := by
  unfold rankC
  rw [if_neg h8, if_neg h7]
  by_cases h6 : c.kind = 6
  · rw [if_pos h6]
    split
    · split <;> omega
    · omega
  · rw [if_neg h6]
    split
    · omega
    · split
      · omega
      · split <;> omega
/-- what may be written may be written with a Not, and both in a row -/
theorem print_all {c : CT} (h : (printC c).2 = 0) (h7 : c.kind ≠ 7) (h8 : c.kind ≠ 8) (hs : c.size ≤ 100) (hw : c.cw ≤ 2000) : (printC (notC c)).2 = 0 ∧ (printC (orC c (notC c))).2 = 0 ∧ (printC (andC c (notC c))).2 = 0 := by
  have hr := rank_3 h7 h8
  obtain ⟨n, hn, hp⟩ := print_pr h hr
  have hnot := hp.not
  have sn : (notC c).size = 1 + c.size := by unfold notC; rw [size_eq, sizeL_cons, sizeL_nil]; omega
  refine ⟨pr_print hnot (rank_not c) (by omega) (by omega), ?_, ?_⟩
  · have hl := PrL.cons (sep := spc (wd orL)) (pr_lower hp (show 2 ≤ 3 by decide) hr) (PrL.one (pr_lower hnot (show 2 ≤ 3 by decide) (rank_not c))) (by simp)
    have h3 := Pr.row8 hl (by simp) (fun p hp => by
      rcases List.mem_cons.1 hp with rfl | hp
      · exact h8
      · rcases List.mem_cons.1 hp with rfl | hp
        · exact (by decide : (6 : Int) ≠ 8)
        · cases hp)
    have e : (textP (spc (wd orL))).length = 4 := rfl
    refine pr_print h3 (by decide : 1 ≤ 1) (by omega) ?_
    show (CT.node 8 0 [] [c, notC c]).size ≤ 256
    rw [size_eq, sizeL2]; omega
  · have hl := PrL.cons (sep := spc (wd andL)) hp (PrL.one hnot) (by simp)
    have h3 := Pr.row7 hl (by simp) (fun p hp => by
      rcases List.mem_cons.1 hp with rfl | hp
      · exact h7
      · rcases List.mem_cons.1 hp with rfl | hp
        · exact (by decide : (6 : Int) ≠ 7)
        · cases hp)
    have e : (textP (spc (wd andL))).length = 5 := rfl
    refine pr_print h3 (by decide : 2 ≤ 2) (by omega) ?_
    show (CT.node 7 0 [] [c, notC c]).size ≤ 256
    rw [size_eq, sizeL2]; omega
end Go.Proofs.YtdfgbkilaepolaaGreatDoor
namespace Go.Proofs.YtdfgbkilaepolaaGreatDoor
theorem partW_congr {cond cond' : Wr} {c : CT} (h : ∀ d, cond d c = cond' d c) (d least : Nat) : partW cond d least c = partW cond' d least c := by
  unfold partW
  split
  · exact h d
  · cases d with
    | zero => rfl
    | succ d => show Option.map _ (cond d c) = Option.map _ (cond' d c); rw [h d]
theorem partsW_congr {cond cond' : Wr} {d least : Nat} {sep : List Piece} : ∀ {ps : List CT}, (∀ p ∈ ps, ∀ d, cond d p = cond' d p) → partsW cond d least sep ps = partsW cond' d least sep ps
  | [], _ => rfl
  | [c], h => partW_congr (h c List.mem_cons_self) d least
  | c :: c2 :: l, h => by
    show (match partW cond d least c with | none => none | some x => (partsW cond d least sep (c2 :: l)).map fun y => x ++ sep ++ y) = (match partW cond' d least c with | none => none | some x => (partsW cond' d least sep (c2 :: l)).map fun y => x ++ sep ++ y)
    rw [partW_congr (h c List.mem_cons_self) d least, partsW_congr fun p hp => h p (List.mem_cons_of_mem _ hp)]
theorem twoW_congr {cond cond' : Wr} {d l1 l2 : Nat} {sep : List Piece} {ps : List CT} (h : ∀ p ∈ ps, ∀ d, cond d p = cond' d p) : twoW cond d l1 l2 sep ps = twoW cond' d l1 l2 sep ps := by
  match ps, h with
  | [], _ => rfl
  | [_], _ => rfl
  | [a, b], h =>
    show (match partW cond d l1 a with | none => none | some x => (partW cond d l2 b).map fun y => x ++ sep ++ y) = (match partW cond' d l1 a with | none => none | some x => (partW cond' d l2 b).map fun y => x ++ sep ++ y)
    rw [partW_congr (h a List.mem_cons_self) d l1, partW_congr (h b (List.mem_cons_of_mem _ List.mem_cons_self)) d l2]
  | _ :: _ :: _ :: _, _ => rfl
theorem size_part {c p : CT} (h : p ∈ c.parts) : p.size < c.size := by
  rw [size_node c]
  have : p.size ≤ sizeLc c.parts := by
    obtain ⟨i, hi⟩ := List.getElem?_of_mem h
    have h1 := sizeL_take hi
    have h2 := sizeL_le (ps := c.parts) (i + 1)
    omega
  omega
theorem step_congr {cond cond' : Wr} {d : Nat} {c : CT} (h : ∀ p, p.size < c.size → ∀ d, cond d p = cond' d p) : stepW cond d c = stepW cond' d c := by
  have h1 : ∀ p ∈ c.parts, ∀ d, cond d p = cond' d p := fun p hp => h p (size_part hp)
  cases hps : c.parts with
  | nil =>
    unfold stepW
    rw [hps]
    by_cases hr : rightC c = false
    · rw [if_pos hr, if_pos hr]
    · rw [if_neg hr, if_neg hr]
      have hr : rightC c = true := by simpa using hr
      have hk : c.kind = 1 ∨ c.kind = 2 ∨ c.kind = 3 ∨ c.kind = 4 ∨ c.kind = 5 := by
        unfold rightC at hr
        rw [hps] at hr
        by_cases k1 : c.kind = 1 ∨ c.kind = 2
        · omega
        rw [if_neg k1] at hr
        by_cases k3 : c.kind = 3
        · omega
        rw [if_neg k3] at hr
        by_cases k4 : c.kind = 4
        · omega
        rw [if_neg k4] at hr
        by_cases k5 : c.kind = 5
        · omega
        rw [if_neg k5] at hr
        exfalso
        split at hr
        · simp at hr
        · split at hr
          · simp at hr
          · split at hr
            · simp at hr
            · split at hr
              · simp at hr
              · cases hr
      have hu : unlikeC c = false := by
        unfold unlikeC
        rw [hps]
        cases (c.kind == 6) <;> rfl
      rw [hu]
      rcases hk with k | k | k | k | k <;> simp [k]
  | cons a l =>
    have ha : a ∈ c.parts := by rw [hps]; exact List.mem_cons_self
    have e1 : ∀ least sep, partsW cond d least sep c.parts = partsW cond' d least sep c.parts := fun least sep => partsW_congr h1
    have e2 : ∀ least sep, partsW cond d least sep (c.parts.headD (leaf 0 0 [])).parts = partsW cond' d least sep (c.parts.headD (leaf 0 0 [])).parts := fun least sep => by
      rw [hps]
      exact partsW_congr fun p hp => h p (Nat.lt_trans (size_part hp) (size_part ha))
    have e3 : ∀ least, partW cond d least (c.parts.headD (leaf 0 0 [])) = partW cond' d least (c.parts.headD (leaf 0 0 [])) := fun least => by
      rw [hps]; exact partW_congr (h1 a ha) d least
    have e4 : ∀ least sep, partsW cond d least sep c.parts.tail = partsW cond' d least sep c.parts.tail := fun least sep => partsW_congr fun p hp => h1 p (List.mem_of_mem_tail hp)
    have e5 : ∀ l1 l2 sep, twoW cond d l1 l2 sep c.parts = twoW cond' d l1 l2 sep c.parts := fun l1 l2 sep => twoW_congr h1
    unfold stepW
    simp only [e1, e2, e3, e4, e5]
/-- fuel beyond the size counts for nothing -/
theorem fuel_eq : ∀ (f : Nat) (c : CT) (d : Nat), c.size ≤ f → condW (f + 1) d c = condW f d c
  | 0, c, d, h => by have := size_pos c; omega
  | f + 1, c, d, h => by
    show stepW (condW (f + 1)) d c = stepW (condW f) d c
    exact step_congr fun p hp d => fuel_eq f p d (by omega)
theorem right_step {cond : Wr} {d : Nat} {c : CT} {x : List Piece} (h : stepW cond d c = some x) : rightC c = true := by
  unfold stepW at h
  by_cases hr : rightC c = false
  · rw [if_pos hr] at h; cases h
  · simpa using hr
/-- what is written with a Not is written without -/
theorem print_of_not {c : CT} (h : (printC (notC c)).2 = 0) (h7 : c.kind ≠ 7) (h8 : c.kind ≠ 8) : (printC c).2 = 0 := by
  obtain ⟨hs, y, hp, hl⟩ := printC_ok.1 h
  have sn : (notC c).size = c.size + 1 := by unfold notC; rw [size_eq, sizeL_cons, sizeL_nil]; omega
  have hp2 : stepW (condW c.size) 8 (notC c) = some y := by
    unfold printP partW at hp
    rw [if_pos (Nat.zero_le _), sn] at hp
    exact hp
  have hr := rank_3 h7 h8
  by_cases hu : unlikeC (notC c) = true
  · have h1 : partsW (condW c.size) 8 5 (spc (mk [33, 61])) c.parts = some y := by
      unfold stepW at hp2
      rw [if_neg (by rw [right_step (show stepW (condW c.size) 8 (notC c) = some y from hp2)]; simp), if_pos hu] at hp2
      exact hp2
    obtain ⟨k, m, s, ps⟩ := c
    have hu2 : (k == 9 && decide (ps.length = 2) && (m == 0 && s.isEmpty)) = true := hu
    simp only [Bool.and_eq_true, beq_iff_eq, decide_eq_true_eq, List.isEmpty_iff] at hu2
    obtain ⟨⟨rfl, hlen⟩, rfl, rfl⟩ := hu2
    obtain ⟨a, b, xa, xb, rfl, ha, hb, rfl⟩ := parts2_inv hlen h1
    have hrc : rightC (.node 9 0 [] [a, b]) = true := rfl
    have hst : stepW (condW (CT.node 9 0 [] [a, b]).size) 8 (.node 9 0 [] [a, b]) = some (xa ++ spc (mk [61]) ++ xb) := by
      rw [st9 hrc]
      exact parts_mk ha hb
    have hcond : condW (CT.node 9 0 [] [a, b]).size 8 (.node 9 0 [] [a, b]) = some (xa ++ spc (mk [61]) ++ xb) := by
      rw [← fuel_eq _ _ _ (Nat.le_refl _)]
      exact hst
    refine printC_ok.2 ⟨by omega, xa ++ spc (mk [61]) ++ xb, ?_, ?_⟩
    · unfold printP partW; rw [if_pos (Nat.zero_le _)]; exact hcond
    · rw [len_app] at hl ⊢
      have e1 : (textP (spc (mk [33, 61]))).length = 4 := rfl
      have e2 : (textP (spc (mk [61]))).length = 3 := rfl
      omega
  · have hu2 : unlikeC (notC c) = false := by simpa using hu
    unfold notC at hp2 hu2
    rw [st6 rfl hu2] at hp2
    obtain ⟨x, hx, rfl⟩ := Option.map_eq_some_iff.1 hp2
    have hx2 : partW (condW c.size) 8 3 c = some x := hx
    unfold partW at hx2
    rw [if_pos hr] at hx2
    refine printC_ok.2 ⟨by omega, x, ?_, ?_⟩
    · unfold printP partW; rw [if_pos (Nat.zero_le _)]; exact hx2
    · have e : textP (wd notL :: none :: x) = [110, 111, 116, 32] ++ textP x := rfl
      rw [e, List.length_append] at hl
      omega
/-- the value of a condition, or why it has none: oe is what opening the book tells -/
def evalC (K : List UInt8 → Int) (B : List UInt8 → Vl) (oe : Int) (c : CT) : Vl × Int :=
  if (printC c).2 ≠ 0 then (⟨0, 0, []⟩, (printC c).2) else if ((namesC c).any fun n => decide (K n = 0)) = true then (⟨0, 0, []⟩, 4) else if kindC K c ≤ 0 then (⟨0, 0, []⟩, 1) else if oe ≠ 0 then (⟨0, 0, []⟩, oe) else match valueC B c with
    | none => (⟨0, 0, []⟩, 10)
    | some v => (v, 0)
theorem names_not (c : CT) : namesC (notC c) = namesC c := by
  rw [namesC_eq]
  show (if (6 : Int) = 5 then [[]] else []) ++ [c].flatMap namesC = _
  simp
theorem names_two {a b : CT} {k : Int} (hk : k = 7 ∨ k = 8) : namesC (.node k 0 [] [a, b]) = namesC a ++ namesC b := by
  rw [namesC_eq]
  show (if k = 5 then [[]] else []) ++ [a, b].flatMap namesC = _
  rw [if_neg (by omega)]
  simp
/-- a condition and its Not have opposite values; both together are 1 with "or", 0 with "and" -/
theorem opposes {K : List UInt8 → Int} {B : List UInt8 → Vl} {oe : Int} (hB : oe = 0 → Goes K B) {c : CT} (h7 : c.kind ≠ 7) (h8 : c.kind ≠ 8) (hs : c.size ≤ 100) (hw : c.cw ≤ 2000) :
    if (evalC K B oe c).2 ≠ 0 ∨ (evalC K B oe c).1.kind ≠ 1 then (evalC K B oe c).2 = (evalC K B oe (notC c)).2 ∨ (evalC K B oe (notC c)).2 ≠ 0
    else (evalC K B oe (notC c)).2 = 0 ∧ (evalC K B oe c).1.n ≠ (evalC K B oe (notC c)).1.n ∧ (evalC K B oe (orC c (notC c))).2 = 0 ∧ (evalC K B oe (andC c (notC c))).2 = 0 ∧ (evalC K B oe (orC c (notC c))).1.n = 1 ∧ (evalC K B oe (andC c (notC c))).1.n = 0 := by
  -- what a Not that has a value tells
  have hn : (evalC K B oe (notC c)).2 = 0 → (printC c).2 = 0 ∧ ((namesC c).any fun n => decide (K n = 0)) = false ∧ kindC K c = 1 ∧ oe = 0 ∧ ∃ v, valueC B c = some v := by
    intro h
    unfold evalC at h
    by_cases hp : (printC (notC c)).2 ≠ 0
    · rw [if_pos hp] at h; exact absurd h hp
    rw [if_neg hp, names_not] at h
    by_cases hm : ((namesC c).any fun n => decide (K n = 0)) = true
    · rw [if_pos hm] at h; exact absurd h (by decide)
    rw [if_neg hm, kind_not] at h
    by_cases hk : kindC K c = 1
    · rw [if_pos hk, if_neg (by decide)] at h
      by_cases ho : oe ≠ 0
      · rw [if_pos ho] at h; exact absurd h ho
      rw [if_neg ho, value_not] at h
      refine ⟨print_of_not (by simpa using hp) h7 h8, by simpa using hm, hk, by simpa using ho, ?_⟩
      cases hv : valueC B c with
      | none => rw [hv] at h; exact absurd h (by decide)
      | some v => exact ⟨v, rfl⟩
    · rw [if_neg hk, if_pos (by decide)] at h; exact absurd h (by decide)
  by_cases hg : (evalC K B oe c).2 ≠ 0 ∨ (evalC K B oe c).1.kind ≠ 1
  · rw [if_pos hg]
    by_cases hz : (evalC K B oe (notC c)).2 = 0
    · exfalso
      obtain ⟨q1, q2, q3, q4, v, q5⟩ := hn hz
      have e : evalC K B oe c = (v, 0) := by
        unfold evalC
        rw [if_neg (by simpa using q1), if_neg (by rw [q2]; simp), if_neg (by rw [q3]; decide), if_neg (by simpa using q4), q5]
      obtain ⟨_, ps, hp, _⟩ := printC_ok.1 q1
      have hr : rightC c = true := by
        unfold printP partW at hp
        rw [if_pos (Nat.zero_le _)] at hp
        have := size_pos c
        obtain ⟨f, hf⟩ : ∃ f, c.size = f + 1 := ⟨c.size - 1, by omega⟩
        rw [hf] at hp
        exact right_step (show stepW (condW f) 8 c = some ps from hp)
      have hok := value_ok (hB q4) c hr (by rw [q3]; decide) q5
      rw [q3] at hok
      rw [e] at hg
      rcases hg with hg | hg
      · exact hg rfl
      · exact hg hok.kind
    · exact .inr hz
  · rw [if_neg hg]
    have hg1 : (evalC K B oe c).2 = 0 := by
      rcases Classical.em ((evalC K B oe c).2 = 0) with h | h
      · exact h
      · exact absurd (.inl h) hg
    have hg2 : (evalC K B oe c).1.kind = 1 := by
      rcases Classical.em ((evalC K B oe c).1.kind = 1) with h | h
      · exact h
      · exact absurd (.inr h) hg
    have hc : (printC c).2 = 0 ∧ ((namesC c).any fun n => decide (K n = 0)) = false ∧ 0 < kindC K c ∧ oe = 0 ∧ ∃ v, valueC B c = some v ∧ evalC K B oe c = (v, 0) := by
      have h := hg1
      unfold evalC at h
      by_cases hp : (printC c).2 ≠ 0
      · rw [if_pos hp] at h; exact absurd h hp
      rw [if_neg hp] at h
      by_cases hm : ((namesC c).any fun n => decide (K n = 0)) = true
      · rw [if_pos hm] at h; exact absurd h (by decide)
      rw [if_neg hm] at h
      by_cases hk : kindC K c ≤ 0
      · rw [if_pos hk] at h; exact absurd h (by decide)
      rw [if_neg hk] at h
      by_cases ho : oe ≠ 0
      · rw [if_pos ho] at h; exact absurd h ho
      rw [if_neg ho] at h
      cases hv : valueC B c with
      | none => rw [hv] at h; exact absurd h (by decide)
      | some v =>
        refine ⟨by simpa using hp, by simpa using hm, by omega, by simpa using ho, v, rfl, ?_⟩
        unfold evalC
        rw [if_neg hp, if_neg hm, if_neg hk, if_neg ho, hv]
    obtain ⟨q1, q2, q3, q4, v, q5, q6⟩ := hc
    obtain ⟨_, ps, hp, _⟩ := printC_ok.1 q1
    have hr : rightC c = true := by
      unfold printP partW at hp
      rw [if_pos (Nat.zero_le _)] at hp
      have := size_pos c
      obtain ⟨f, hf⟩ : ∃ f, c.size = f + 1 := ⟨c.size - 1, by omega⟩
      rw [hf] at hp
      exact right_step (show stepW (condW f) 8 c = some ps from hp)
    have hok := value_ok (hB q4) c hr q3 q5
    rw [q6] at hg2
    have hk1 : kindC K c = 1 := by rw [← hok.kind]; exact hg2
    rw [hk1] at hok
    have hvf := hok.is_flag
    obtain ⟨b, hb⟩ : ∃ b, decide (v.n = 1) = b := ⟨_, rfl⟩
    rw [hb] at hvf
    subst hvf
    obtain ⟨p1, p2, p3⟩ := print_all q1 h7 h8 hs hw
    have kn : kindC K (notC c) = 1 := by rw [kind_not, if_pos hk1]
    have en : evalC K B oe (notC c) = (flagV (!b), 0) := by
      unfold evalC
      rw [if_neg (by simpa using p1), names_not, if_neg (by rw [q2]; simp), kn, if_neg (by decide), if_neg (by simpa using q4), value_not, q5]
      cases b <;> rfl
    have eo : evalC K B oe (orC c (notC c)) = (flagV true, 0) := by
      unfold evalC
      rw [if_neg (by simpa using p2), show namesC (orC c (notC c)) = namesC c ++ namesC (notC c) from names_two (.inr rfl), names_not, List.any_append, q2, if_neg (by simp), show kindC K (orC c (notC c)) = 1 from kind_two 8 (.inr rfl) hk1 kn, if_neg (by decide), if_neg (by simpa using q4), value_or q5]
    have ea : evalC K B oe (andC c (notC c)) = (flagV false, 0) := by
      unfold evalC
      rw [if_neg (by simpa using p3), show namesC (andC c (notC c)) = namesC c ++ namesC (notC c) from names_two (.inl rfl), names_not, List.any_append, q2, if_neg (by simp), show kindC K (andC c (notC c)) = 1 from kind_two 7 (.inl rfl) hk1 kn, if_neg (by decide), if_neg (by simpa using q4), value_and q5]
    rw [q6, en, eo, ea]
    refine ⟨rfl, ?_, rfl, rfl, rfl, rfl⟩
    cases b <;> decide
end Go.Proofs.YtdfgbkilaepolaaGreatDoor
namespace Go.Proofs.YtdfgbkilaepolaaGreatDoor
open Go.RowKit Go.Maps
/-- a closure that answers of an int -/
def TakesSaid (f : Nat) (t : Int → Bool) : Prop := ∀ (k : Int) (w : World), Calls Tryz.prog f #[.int .i64 k] w fun e w' => e = .returned (.bool (t k)) ∧ w' = w
theorem takes2 : TakesSaid 60 (fun k => decide (k = 1)) := fun k w => by
  show Calls Tryz.prog 60 #[.int .i64 k] w fun e w' => e = .returned (.bool (k == 1)) ∧ w' = w
  go_enter Tryz.func60, Tryz.ntmps60
  go_wp2_with fail
  go_ret
  exact ⟨rfl, rfl⟩
theorem takes3 : TakesSaid 61 (fun _ => true) := fun k w => by
  show Calls Tryz.prog 61 #[.int .i64 k] w fun e w' => e = .returned (.bool true) ∧ w' = w
  go_enter Tryz.func61, Tryz.ntmps61
  go_wp2_with fail
  go_ret
  exact ⟨rfl, rfl⟩
theorem takes4 : TakesSaid 62 (fun k => !decide (k = 1)) := fun k w => by
  show Calls Tryz.prog 62 #[.int .i64 k] w fun e w' => e = .returned (.bool (k != 1)) ∧ w' = w
  go_enter Tryz.func62, Tryz.ntmps62
  go_wp2_with fail
  go_ret
  exact ⟨rfl, rfl⟩
theorem takes5 : TakesSaid 63 (fun k => decide (k = 2)) := fun k w => by
  show Calls Tryz.prog 63 #[.int .i64 k] w fun e w' => e = .returned (.bool (k == 2)) ∧ w' = w
  go_enter Tryz.func63, Tryz.ntmps63
  go_wp2_with fail
  go_ret
  exact ⟨rfl, rfl⟩
set_option maxHeartbeats 4000000 in
set_option maxRecDepth 100000 in
/-- 'of', over a row whose parts' common kind is T -/
theorem of_calls (f : Nat) (hen : ∀ args w, (callFunc f args).run Tryz.prog w = .ok (.enter f args) w) (t : Int → Bool) (hf : TakesSaid f t) (tells T : Int) (b gb gc : Nat) (k m : Int) (a : ByteArray) (v : Value) (w : World) (hb : Blk w gb 71 #[.map (some b)]) (hc : Blk w gc 28 #[.int .i64 k, .int .i64 m, .string a, v])
    (hT : Calls Tryz.prog 59 #[.map (some b), v] w fun e w' => e = .returned (.int .i64 T) ∧ Below w.heap.size w w') :
    Calls Tryz.prog 58 #[.func (.func f) #[] #[], .int .i64 tells, .pointer (some ⟨gb, 0, none⟩), .pointer (some ⟨gc, 0, none⟩)] w fun e w' => e = .returned (.int .i64 (if 0 < T ∧ t T = true then tells else 0)) ∧ Below w.heap.size w w' := by
  obtain ⟨R, hR⟩ : ∃ R, (if 0 < T ∧ t T = true then tells else 0) = R := ⟨_, rfl⟩
  rw [hR]
  have hR' := Lib.hid hR
  have hT' := Lib.hid hT
  have hF := Lib.hid (hf T)
  have bc := hb.cell
  have cc := hc.cell
  clear hb hc hT hf hR
  go_enter Tryz.func58, Tryz.ntmps58
  go_wp2_with fail
  refine hT'.out.mono ?_
  rintro e w1 ⟨rfl, hb1⟩
  have hB1 := Lib.hid hb1
  clear hb1 hT' bc cc
  by_cases h0 : 0 < T
  · generalize ht : t T = tt at *
    have F3 := Lib.hid (hF.out w1)
    clear hF ht
    go_wp2_with fail
    refine F3.out.mono ?_
    rintro e w' ⟨rfl, rfl⟩
    cases tt
    · go_wp2_with fail
      go_ret
      exact ⟨by rw [← hR'.out]; simp, hB1.out⟩
    · go_wp2_with fail
      go_ret
      exact ⟨by rw [← hR'.out]; simp [h0], hB1.out⟩
  · go_wp2_with fail
    go_ret
    exact ⟨by rw [← hR'.out, if_neg (fun h => by have := h.1; omega)]; rfl, hB1.out⟩
/-- every part of it is rightly made -/
inductive CT.well : CT → Prop
  | mk {k n : Int} {s : List UInt8} {ps : List CT} (h : rightC (.node k n s ps) = true) (hp : ∀ p ∈ ps, CT.well p) : CT.well (.node k n s ps)
theorem CT.well.right {r : CT} (h : r.well) : rightC r = true := by cases h with | mk h _ => exact h
theorem CT.well.part {r p : CT} (h : r.well) (hp : p ∈ r.parts) : p.well := by cases h with | mk _ h => exact h p hp
theorem CT.well.kinds {r : CT} (h : r.well) : (1 ≤ r.kind ∧ r.kind ≤ 5 ∧ r.parts = []) ∨ (r.kind = 6 ∧ r.parts.length = 1) ∨ ((r.kind = 7 ∨ r.kind = 8 ∨ r.kind = 15) ∧ 2 ≤ r.parts.length) ∨ (9 ≤ r.kind ∧ r.kind ≤ 14 ∧ r.parts.length = 2) := by
  have hr := h.right
  unfold rightC at hr
  by_cases k1 : r.kind = 1 ∨ r.kind = 2
  · rw [if_pos k1] at hr
    simp only [Bool.and_eq_true, List.isEmpty_iff] at hr
    exact .inl ⟨by omega, by omega, hr.1⟩
  rw [if_neg k1] at hr
  by_cases k3 : r.kind = 3
  · rw [if_pos k3] at hr
    simp only [Bool.and_eq_true, List.isEmpty_iff] at hr
    exact .inl ⟨by omega, by omega, hr.1.1.1⟩
  rw [if_neg k3] at hr
  by_cases k4 : r.kind = 4
  · rw [if_pos k4] at hr
    simp only [Bool.and_eq_true, List.isEmpty_iff] at hr
    exact .inl ⟨by omega, by omega, hr.1.1⟩
  rw [if_neg k4] at hr
  by_cases k5 : r.kind = 5
  · rw [if_pos k5] at hr
    simp only [Bool.and_eq_true, List.isEmpty_iff] at hr
    exact .inl ⟨by omega, by omega, hr.1.1⟩
  rw [if_neg k5] at hr
  by_cases k6 : r.kind = 6
  · rw [if_pos k6] at hr
    simp only [Bool.and_eq_true, decide_eq_true_eq] at hr
    exact .inr (.inl ⟨k6, hr.1⟩)
  rw [if_neg k6] at hr
  by_cases k7 : r.kind = 7 ∨ r.kind = 8
  · rw [if_pos k7] at hr
    simp only [Bool.and_eq_true, decide_eq_true_eq] at hr
    exact .inr (.inr (.inl ⟨by omega, hr.1.1⟩))
  rw [if_neg k7] at hr
  by_cases k15 : r.kind = 15
  · rw [if_pos k15] at hr
    simp only [Bool.and_eq_true, decide_eq_true_eq] at hr
    exact .inr (.inr (.inl ⟨by omega, hr.1⟩))
  rw [if_neg k15] at hr
  by_cases k9 : 9 ≤ r.kind ∧ r.kind ≤ 14
  · rw [if_pos k9] at hr
    simp only [Bool.and_eq_true, decide_eq_true_eq] at hr
    exact .inr (.inr (.inr ⟨k9.1, k9.2, hr.1⟩))
  rw [if_neg k9] at hr
  cases hr
set_option maxHeartbeats 4000000 in
set_option maxRecDepth 100000 in
theorem kind_step (pa : List Par) (hnd : (pa.map (·.1)).Nodup) (r : CT) (hrec : ∀ q ∈ r.parts, KindSaid pa q) (hs : r.slim) (hw : r.well) : KindSaid pa r := by
  intro cs w b n hR hM
  obtain ⟨k, m, a, p, c, ds, ecs, hq, hrow, hlen, hp⟩ := hR.form
  have hkk : r.kind = k := by rw [hq]; rfl
  have hss : r.str = a.data.toList := by rw [hq]; rfl
  have ha : a.size ≤ maxLen := by
    have := hs.str
    rw [hss] at this
    rw [Lib.size_eq]; unfold maxLen; omega
  have hkinds := hw.kinds
  rw [ecs]
  have b0 := Blk.new w 71 #[.map (some b)]
  have B0 := (Below.refl w.heap.size w).alloc (Nat.le_refl _) (.cells #[.map (some b)] 71)
  obtain ⟨w0, e0⟩ : ∃ w0, w.alloc (.cells #[.map (some b)] 71) = w0 := ⟨_, rfl⟩
  rw [e0] at b0 B0
  have c1 := Blk.new w0 28 #[.int .i64 k, .int .i64 m, .string a, .slice p r.parts.length c]
  have b1 := b0.alloc (.cells #[.int .i64 k, .int .i64 m, .string a, .slice p r.parts.length c] 28)
  have B1 := B0.alloc B0.size (.cells #[.int .i64 k, .int .i64 m, .string a, .slice p r.parts.length c] 28)
  obtain ⟨w1, e1⟩ : ∃ w1, w0.alloc (.cells #[.int .i64 k, .int .i64 m, .string a, .slice p r.parts.length c] 28) = w1 := ⟨_, rfl⟩
  rw [e1] at c1 b1 B1
  have cc := c1.cell
  have bc := b1.cell
  have hB1 := Lib.hid B1
  obtain ⟨R, hRR⟩ : ∃ R, kindC (kindOf pa) r = R := ⟨_, rfl⟩
  rw [hRR]
  rw [kindC_eq, hkk, hss] at hRR
  by_cases k1 : k = 1 ∨ k = 2
  · have hE : Hid (R = 1) := Lib.hid (by rw [← hRR, if_pos k1])
    clear hRR hkinds hR hM hrec hrow hlen hp hq hkk hss ecs hs hw b0 c1 b1 B0 B1
    rcases k1 with rfl | rfl
    · go_enter Tryz.func31, Tryz.ntmps31
      go_wp2_with fail
      go_ret
      exact ⟨by rw [hE.out]; rfl, hB1.out⟩
    · go_enter Tryz.func31, Tryz.ntmps31
      go_wp2_with fail
      go_ret
      exact ⟨by rw [hE.out]; rfl, hB1.out⟩
  rw [if_neg k1] at hRR
  by_cases k3 : k = 3
  · have hE : Hid (R = 2) := Lib.hid (by rw [← hRR, if_pos k3])
    clear hRR hkinds hR hM hrec hrow hlen hp hq hkk hss ecs hs hw b0 c1 b1 B0 B1
    subst k3
    go_enter Tryz.func31, Tryz.ntmps31
    go_wp2_with fail
    go_ret
    exact ⟨by rw [hE.out]; rfl, hB1.out⟩
  rw [if_neg k3] at hRR
  by_cases k4 : k = 4
  · have hE : Hid (R = 3) := Lib.hid (by rw [← hRR, if_pos k4])
    clear hRR hkinds hR hM hrec hrow hlen hp hq hkk hss ecs hs hw b0 c1 b1 B0 B1
    subst k4
    go_enter Tryz.func31, Tryz.ntmps31
    go_wp2_with fail
    go_ret
    exact ⟨by rw [hE.out]; rfl, hB1.out⟩
  rw [if_neg k4] at hRR
  by_cases k5 : k = 5
  · have hE : Hid (R = kindOf pa a.data.toList) := Lib.hid (by rw [← hRR, if_pos k5])
    have hl := kind_look (hM.later (B1.mono (Nat.le_refl _))) hnd ha
    clear hRR hkinds hR hM hrec hrow hlen hp hq hkk hss ecs hs hw b0 c1 b1 B0 B1
    subst k5
    generalize kindOf pa a.data.toList = X at *
    go_enter Tryz.func31, Tryz.ntmps31
    go_wp2_with fail
    go_ret
    exact ⟨by rw [hE.out]; rfl, hB1.out⟩
  rw [if_neg k5] at hRR
  have hne : r.parts ≠ [] := by
    rcases hkinds with h | h | h | h
    · omega
    · intro e; rw [e] at h; simp at h
    · intro e; rw [e] at h; simp at h
    · intro e; rw [e] at h; simp at h
  obtain ⟨p0, ps, hps⟩ : ∃ p0 ps, r.parts = p0 :: ps := by
    cases h : r.parts with
    | nil => exact absurd h hne
    | cons a l => exact ⟨a, l, rfl⟩
  have hT : Calls Tryz.prog 59 #[.map (some b), .slice p r.parts.length c] w1 fun e w' => e = .returned (.int .i64 (togI (r.parts.map (kindC (kindOf pa))))) ∧ Below w1.heap.size w1 w' := by
    have hrow1 := hrow.below (B1.mono (Nat.le_refl _))
    have hp1 : ∀ (i : Nat) (q : CT), r.parts[i]? = some q → CV w1 ((ds.drop (i * 4)).take 4) q := fun i q hi => (hp i q hi).later B1
    have hM1 := hM.later B1
    rw [hps] at hrec hrow1 hp1 ⊢
    exact together_calls pa p0 ps hrec (.slice p (p0 :: ps).length c) ds w1 b n hrow1 hp1 hM1
  generalize togI (r.parts.map (kindC (kindOf pa))) = T at *
  have bne : w.heap.size ≠ w0.heap.size := by rw [← e0]; simp
  have O := fun (f : Nat) hen (t : Int → Bool) (hf : TakesSaid f t) (tells : Int) => of_calls f hen t hf tells T b w.heap.size w0.heap.size k m a (.slice p r.parts.length c) w1 b1 c1 hT
  have hkind : k = 6 ∨ k = 7 ∨ k = 8 ∨ k = 9 ∨ k = 10 ∨ k = 11 ∨ k = 12 ∨ k = 13 ∨ k = 14 ∨ k = 15 := by omega
  have O2 := Lib.hid (O 60 (enters_of Tryz.func60 (by kernel_rfl) rfl) _ takes2 1)
  have O3 := Lib.hid (O 61 (enters_of Tryz.func61 (by kernel_rfl) rfl) _ takes3 1)
  have O4 := Lib.hid (O 62 (enters_of Tryz.func62 (by kernel_rfl) rfl) _ takes4 1)
  have O5 := Lib.hid (O 63 (enters_of Tryz.func63 (by kernel_rfl) rfl) _ takes5 2)
  clear hkinds hR hM hrec hrow hlen hp hq hkk hss ecs hs hw b0 c1 b1 B0 B1 O hT hps hne
  rcases hkind with rfl | rfl | rfl | rfl | rfl | rfl | rfl | rfl | rfl | rfl
  · have hE : Hid (R = (if 0 < T ∧ decide (T = 1) = true then 1 else 0)) := Lib.hid (by rw [← hRR]; rfl)
    have P := O2.out
    try dsimp only at P
    rw [← hE.out] at P
    have P2 := Lib.hid P
    clear hRR O2 O3 O4 O5 P hE k1 k3 k4 k5
    go_enter Tryz.func31, Tryz.ntmps31
    go_wp2_with fail
    refine P2.out.mono ?_
    rintro e w2 ⟨rfl, hb2⟩
    have hB2 := Lib.hid (hB1.out.trans (hb2.mono hB1.out.size))
    clear hb2 P2
    go_wp2_with fail
    go_ret
    exact ⟨rfl, hB2.out⟩
  · have hE : Hid (R = (if 0 < T ∧ decide (T = 1) = true then 1 else 0)) := Lib.hid (by rw [← hRR]; rfl)
    have P := O2.out
    try dsimp only at P
    rw [← hE.out] at P
    have P2 := Lib.hid P
    clear hRR O2 O3 O4 O5 P hE k1 k3 k4 k5
    go_enter Tryz.func31, Tryz.ntmps31
    go_wp2_with fail
    refine P2.out.mono ?_
    rintro e w2 ⟨rfl, hb2⟩
    have hB2 := Lib.hid (hB1.out.trans (hb2.mono hB1.out.size))
    clear hb2 P2
    go_wp2_with fail
    go_ret
    exact ⟨rfl, hB2.out⟩
  · have hE : Hid (R = (if 0 < T ∧ decide (T = 1) = true then 1 else 0)) := Lib.hid (by rw [← hRR]; rfl)
    have P := O2.out
    try dsimp only at P
    rw [← hE.out] at P
    have P2 := Lib.hid P
    clear hRR O2 O3 O4 O5 P hE k1 k3 k4 k5
    go_enter Tryz.func31, Tryz.ntmps31
    go_wp2_with fail
    refine P2.out.mono ?_
    rintro e w2 ⟨rfl, hb2⟩
    have hB2 := Lib.hid (hB1.out.trans (hb2.mono hB1.out.size))
    clear hb2 P2
    go_wp2_with fail
    go_ret
    exact ⟨rfl, hB2.out⟩
  · have hE : Hid (R = (if 0 < T ∧ true = true then 1 else 0)) := Lib.hid (by rw [← hRR]; rfl)
    have P := O3.out
    try dsimp only at P
    rw [← hE.out] at P
    have P2 := Lib.hid P
    clear hRR O2 O3 O4 O5 P hE k1 k3 k4 k5
    go_enter Tryz.func31, Tryz.ntmps31
    go_wp2_with fail
    refine P2.out.mono ?_
    rintro e w2 ⟨rfl, hb2⟩
    have hB2 := Lib.hid (hB1.out.trans (hb2.mono hB1.out.size))
    clear hb2 P2
    go_wp2_with fail
    go_ret
    exact ⟨rfl, hB2.out⟩
  · have hE : Hid (R = (if 0 < T ∧ (!decide (T = 1)) = true then 1 else 0)) := Lib.hid (by rw [← hRR]; rfl)
    have P := O4.out
    try dsimp only at P
    rw [← hE.out] at P
    have P2 := Lib.hid P
    clear hRR O2 O3 O4 O5 P hE k1 k3 k4 k5
    go_enter Tryz.func31, Tryz.ntmps31
    go_wp2_with fail
    refine P2.out.mono ?_
    rintro e w2 ⟨rfl, hb2⟩
    have hB2 := Lib.hid (hB1.out.trans (hb2.mono hB1.out.size))
    clear hb2 P2
    go_wp2_with fail
    go_ret
    exact ⟨rfl, hB2.out⟩
  · have hE : Hid (R = (if 0 < T ∧ (!decide (T = 1)) = true then 1 else 0)) := Lib.hid (by rw [← hRR]; rfl)
    have P := O4.out
    try dsimp only at P
    rw [← hE.out] at P
    have P2 := Lib.hid P
    clear hRR O2 O3 O4 O5 P hE k1 k3 k4 k5
    go_enter Tryz.func31, Tryz.ntmps31
    go_wp2_with fail
    refine P2.out.mono ?_
    rintro e w2 ⟨rfl, hb2⟩
    have hB2 := Lib.hid (hB1.out.trans (hb2.mono hB1.out.size))
    clear hb2 P2
    go_wp2_with fail
    go_ret
    exact ⟨rfl, hB2.out⟩
  · have hE : Hid (R = (if 0 < T ∧ decide (T = 2) = true then 2 else 0)) := Lib.hid (by rw [← hRR]; rfl)
    have P := O5.out
    try dsimp only at P
    rw [← hE.out] at P
    have P2 := Lib.hid P
    clear hRR O2 O3 O4 O5 P hE k1 k3 k4 k5
    go_enter Tryz.func31, Tryz.ntmps31
    go_wp2_with fail
    refine P2.out.mono ?_
    rintro e w2 ⟨rfl, hb2⟩
    have hB2 := Lib.hid (hB1.out.trans (hb2.mono hB1.out.size))
    clear hb2 P2
    go_wp2_with fail
    go_ret
    exact ⟨rfl, hB2.out⟩
  · have hE : Hid (R = (if 0 < T ∧ decide (T = 2) = true then 2 else 0)) := Lib.hid (by rw [← hRR]; rfl)
    have P := O5.out
    try dsimp only at P
    rw [← hE.out] at P
    have P2 := Lib.hid P
    clear hRR O2 O3 O4 O5 P hE k1 k3 k4 k5
    go_enter Tryz.func31, Tryz.ntmps31
    go_wp2_with fail
    refine P2.out.mono ?_
    rintro e w2 ⟨rfl, hb2⟩
    have hB2 := Lib.hid (hB1.out.trans (hb2.mono hB1.out.size))
    clear hb2 P2
    go_wp2_with fail
    go_ret
    exact ⟨rfl, hB2.out⟩
  · have hE : Hid (R = (if 0 < T ∧ decide (T = 2) = true then 2 else 0)) := Lib.hid (by rw [← hRR]; rfl)
    have P := O5.out
    try dsimp only at P
    rw [← hE.out] at P
    have P2 := Lib.hid P
    clear hRR O2 O3 O4 O5 P hE k1 k3 k4 k5
    go_enter Tryz.func31, Tryz.ntmps31
    go_wp2_with fail
    refine P2.out.mono ?_
    rintro e w2 ⟨rfl, hb2⟩
    have hB2 := Lib.hid (hB1.out.trans (hb2.mono hB1.out.size))
    clear hb2 P2
    go_wp2_with fail
    go_ret
    exact ⟨rfl, hB2.out⟩
  · have hE : Hid (R = (if 0 < T ∧ true = true then 1 else 0)) := Lib.hid (by rw [← hRR]; rfl)
    have P := O3.out
    try dsimp only at P
    rw [← hE.out] at P
    have P2 := Lib.hid P
    clear hRR O2 O3 O4 O5 P hE k1 k3 k4 k5
    go_enter Tryz.func31, Tryz.ntmps31
    go_wp2_with fail
    refine P2.out.mono ?_
    rintro e w2 ⟨rfl, hb2⟩
    have hB2 := Lib.hid (hB1.out.trans (hb2.mono hB1.out.size))
    clear hb2 P2
    go_wp2_with fail
    go_ret
    exact ⟨rfl, hB2.out⟩
theorem kind_calls (pa : List Par) (hnd : (pa.map (·.1)).Nodup) (r : CT) (hs : r.slim) (hw : r.well) : KindSaid pa r :=
  kind_step pa hnd r (fun q hq => kind_calls pa hnd q (hs.part hq) (hw.part hq)) hs hw
termination_by SizeOf.sizeOf r
decreasing_by exact partc_lt hq
end Go.Proofs.YtdfgbkilaepolaaGreatDoor
