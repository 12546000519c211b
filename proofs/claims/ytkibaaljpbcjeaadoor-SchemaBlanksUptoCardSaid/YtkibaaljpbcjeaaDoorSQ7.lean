/- Blanks at lines' ends, empty lines and remarks change nothing. No program in sight. -/
import Derived.Test.YtkibaaljpbcjeaaDoorSQ6
namespace Go.Proofs.YtkibaaljpbcjeaaDoor
/-- what may stand for a line's end -/
def suf : Nat → List UInt8
  | 0 => [10]
  | 1 => [32, 9, 10]
  | 2 => [10, 10]
  | 3 => [10, 47, 47, 32, 116, 121, 112, 101, 32, 120, 10]
  | _ => [10, 32, 9]
/-- a text with other line ends, the n-th as K says -/
def other (K : Nat → Nat) : List UInt8 → Nat → List UInt8
  | [], _ => []
  | c :: s, n => if c = 10 then suf (K n) ++ other K s (n + 1) else c :: other K s n
theorem other_cons (K : Nat → Nat) (c : UInt8) (s : List UInt8) (n : Nat) : other K (c :: s) n = if c = 10 then suf (K n) ++ other K s (n + 1) else c :: other K s n := rfl
theorem other_line (K : Nat → Nat) : ∀ (p y : List UInt8) (n : Nat), (10 : UInt8) ∉ p → other K (p ++ [10] ++ y) n = p ++ suf (K n) ++ other K y (n + 1)
  | [], y, n, _ => by
    show other K (10 :: y) n = _
    rw [other_cons, if_pos rfl]; rfl
  | c :: p, y, n, h => by
    have hc : ¬ c = 10 := fun e => h (by rw [e]; simp)
    show other K (c :: (p ++ [10] ++ y)) n = _
    rw [other_cons, if_neg hc, other_line K p y n fun hm => h (List.mem_cons_of_mem _ hm)]
    rfl
theorem suf_len (k : Nat) : (suf k).length ≤ 11 := by
  match k with
  | 0 | 1 | 2 | 3 => decide
  | _ + 4 => show 3 ≤ 11; decide
def nl : List UInt8 → Nat
  | [] => 0
  | c :: s => (if c = 10 then 1 else 0) + nl s
theorem nl_app : ∀ (a b : List UInt8), nl (a ++ b) = nl a + nl b
  | [], b => by rw [List.nil_append]; exact (Nat.zero_add _).symm
  | c :: a, b => by
    show (if c = 10 then 1 else 0) + nl (a ++ b) = (if c = 10 then 1 else 0) + nl a + nl b
    rw [nl_app a b]; omega
theorem nl_none : ∀ (a : List UInt8), (10 : UInt8) ∉ a → nl a = 0
  | [], _ => rfl
  | c :: a, h => by
    have hc : ¬ c = 10 := fun e => h (by rw [e]; simp)
    show (if c = 10 then 1 else 0) + nl a = 0
    rw [if_neg hc, nl_none a fun hm => h (List.mem_cons_of_mem _ hm)]
theorem other_len (K : Nat → Nat) : ∀ (s : List UInt8) (n : Nat), (other K s n).length ≤ s.length + 10 * nl s
  | [], n => Nat.zero_le _
  | c :: s, n => by
    rw [other_cons]
    show _ ≤ s.length + 1 + 10 * ((if c = 10 then 1 else 0) + nl s)
    by_cases h : c = 10
    · rw [if_pos h, if_pos h, List.length_append]
      have := other_len K s (n + 1)
      have := suf_len (K n)
      omega
    · rw [if_neg h, if_neg h, List.length_cons]
      have := other_len K s n
      omega
theorem rels_nl : ∀ (rels : List RelD) (x : List UInt8), relsT rels = some x → nl x ≤ cntR rels
  | [], x, h => by
    unfold relsT at h
    obtain rfl := Option.some.inj h
    exact Nat.le_refl _
  | (m, r) :: rels, x, h => by
    unfold relsT at h
    cases hr : relT m r with
    | none => rw [hr] at h; cases h
    | some t =>
      rw [hr] at h
      cases hu : relsT rels with
      | none => rw [hu] at h; cases h
      | some u =>
        rw [hu] at h
        obtain rfl := Option.some.inj h
        have h1 := rels_nl rels u hu
        unfold relT at hr
        split at hr
        · rename_i hc
          cases hx : ruleT 8 r with
          | none => rw [hx] at hr; cases hr
          | some z =>
            rw [hx] at hr
            obtain rfl := Option.some.inj hr
            have h4 : 1 ≤ r.cnt := by cases r; rw [cnt_node]; omega
            have e1 := nl_none _ (nl_name (good_both hc.1).1)
            have e2 := nl_none _ (rule_nl r 8 z hx)
            show nl (m ++ [32, 61, 32] ++ z ++ [10] ++ u) ≤ r.cnt + cntR rels
            rw [nl_app, nl_app, nl_app, nl_app, e1, e2, show nl [32, 61, 32] = 0 from rfl, show nl [10] = 1 from rfl]
            omega
        · cases hr
theorem tys_nl : ∀ (ts : List TyD) (x : List UInt8), tysT ts = some x → nl x ≤ cntT ts
  | [], x, h => by
    unfold tysT at h
    obtain rfl := Option.some.inj h
    exact Nat.le_refl _
  | (n, rels) :: ts, x, h => by
    rw [tysT_cons] at h
    split at h
    · rename_i hg
      unfold restT at h
      cases hr : relsT rels with
      | none => rw [hr] at h; cases h
      | some t =>
        rw [hr] at h
        cases hu : tysT ts with
        | none => rw [hu] at h; cases h
        | some u =>
          rw [hu] at h
          obtain rfl := Option.some.inj h
          have h1 := rels_nl rels t hr
          have h2 := tys_nl ts u hu
          have e1 := nl_none _ (nl_name (good_both hg).1)
          show nl (typeL ++ [32] ++ n ++ [10] ++ (t ++ u)) ≤ 1 + cntR rels + cntT ts
          rw [nl_app, nl_app, nl_app, nl_app, nl_app, e1, show nl typeL = 0 from rfl, show nl [32] = 0 from rfl, show nl [10] = 1 from rfl]
          omega
    · cases h
theorem few_other {ts : List TyD} {x : List UInt8} (hf : few ts = true) (hx : tysT ts = some x) (K : Nat → Nat) (n : Nat) : (other K x n).length ≤ 24000 := by
  have h1 := fewN_cnt ts [] 200 hf
  have h2 := tys_nl ts x hx
  have h3 := few_len hf hx
  have h4 : cntR [] = 0 := rfl
  have h5 := other_len K x n
  rw [h4] at h1
  omega
/-- blanks ahead and behind change nothing -/
def isPre (p : List UInt8) : Prop := p = [] ∨ p = [32, 9]
theorem pre_trim {p s : List UInt8} (hp : isPre p) : trimL (p ++ s) = trimL s := by
  rcases hp with rfl | rfl
  · rfl
  · show trimL (32 :: 9 :: s) = trimL s
    rw [trimL_cons, if_pos (by decide), trimL_cons, if_pos (by decide)]
theorem pre_toks {p s : List UInt8} (hp : isPre p) : toks (p ++ s) = toks s := by
  rcases hp with rfl | rfl
  · rfl
  · show toks (32 :: 9 :: s) = toks s
    rw [tk_blank (by decide), tk_blank (by decide)]
theorem line_pre {p q s : List UInt8} (hp : isPre p) (hq : isPre q) (ts : List TyD) : lineX ts (p ++ s ++ q) = lineX ts s := by
  have hb : allBl q := by
    rcases hq with rfl | rfl
    · intro b hb; cases hb
    · intro b hb
      rcases List.mem_cons.1 hb with rfl | hb
      · decide
      · rw [List.mem_singleton.1 hb]; decide
  have e : toks (p ++ s ++ q) = toks s := by
    rw [List.append_assoc, pre_toks hp, toks_app q hb _ s (Nat.le_refl _)]
  unfold lineX
  rw [e]
theorem blank_pre {p q s : List UInt8} (hp : isPre p) {c : UInt8} {u : List UInt8} (hs : s = c :: u) (hc : nameByte c = true) : blankL (p ++ s ++ q) = false := by
  have e : blankL (p ++ s ++ q) = blankL (s ++ q) := by
    unfold blankL
    rw [List.append_assoc, pre_trim hp]
  rw [e, hs]
  exact name_line hc
theorem pre_nl {p : List UInt8} (hp : isPre p) : (10 : UInt8) ∉ p := by rcases hp with rfl | rfl <;> decide
/-- one line, with any end -/
theorem line_step {p s z : List UInt8} (hp : isPre p) {c : UInt8} {u : List UInt8} (hs : s = c :: u) (hc : nameByte c = true) (hnl : (10 : UInt8) ∉ s) (k i : Nat) {ts ts' : List TyD} (hl : lineX ts s = some ts') : ∃ p' i', isPre p' ∧ parseD (cutL (p ++ (s ++ suf k ++ z))) i ts = parseD (cutL (p' ++ z)) i' ts' := by
  have hone : ∀ (q : List UInt8) (y : List UInt8), isPre q → parseD (cutL (p ++ s ++ q ++ [10] ++ y)) i ts = parseD (cutL y) (i + 1) ts' := fun q y hq => by
    have hn : (10 : UInt8) ∉ p ++ s ++ q := by
      have h1 := pre_nl hp
      have h2 := pre_nl hq
      simp [h1, h2, hnl]
    rw [cutL_line hn]
    conv => lhs; unfold parseD
    rw [blank_pre hp hs hc, line_pre hp hq, hl]
    rfl
  have hn : isPre [] := .inl rfl
  match k with
  | 0 =>
    refine ⟨[], i + 1, hn, ?_⟩
    have e : p ++ (s ++ suf 0 ++ z) = p ++ s ++ [] ++ [10] ++ z := by simp [suf]
    rw [e, hone [] z hn]; rfl
  | 1 =>
    refine ⟨[], i + 1, hn, ?_⟩
    have e : p ++ (s ++ suf 1 ++ z) = p ++ s ++ [32, 9] ++ [10] ++ z := by simp [suf]
    rw [e, hone [32, 9] z (.inr rfl)]; rfl
  | 2 =>
    refine ⟨[], i + 2, hn, ?_⟩
    have e : p ++ (s ++ suf 2 ++ z) = p ++ s ++ [] ++ [10] ++ ([] ++ [10] ++ z) := by simp [suf]
    rw [e, hone [] _ hn, cutL_line (p := []) (by simp)]
    conv => lhs; unfold parseD
    rfl
  | 3 =>
    refine ⟨[], i + 2, hn, ?_⟩
    have e : p ++ (s ++ suf 3 ++ z) = p ++ s ++ [] ++ [10] ++ ([47, 47, 32, 116, 121, 112, 101, 32, 120] ++ [10] ++ z) := by simp [suf]
    rw [e, hone [] _ hn, cutL_line (p := [47, 47, 32, 116, 121, 112, 101, 32, 120]) (by decide)]
    conv => lhs; unfold parseD
    rw [show blankL [47, 47, 32, 116, 121, 112, 101, 32, 120] = true from by decide +kernel]
    rfl
  | k + 4 =>
    refine ⟨[32, 9], i + 1, .inr rfl, ?_⟩
    have e : p ++ (s ++ suf (k + 4) ++ z) = p ++ s ++ [] ++ [10] ++ ([32, 9] ++ z) := by simp [suf]
    rw [e, hone [] _ hn]
theorem name_head {m s : List UInt8} (h : good m = true) : ∃ c u, m ++ s = c :: u ∧ nameByte c = true := by
  obtain ⟨h1, h2, _⟩ := name_bytes (good_both h).1
  match m, h1, h2 with
  | c :: m, h1, _ => exact ⟨c, m ++ s, rfl, h1 c (by simp)⟩
theorem rels_other (K : Nat → Nat) : ∀ (rels : List RelD) (x y p : List UInt8) (n i : Nat) (ts : List TyD) (nm : List UInt8) (done : List RelD), isPre p → relsT rels = some x → ∃ p' n' i', isPre p' ∧ parseD (cutL (p ++ other K (x ++ y) n)) i (ts ++ [(nm, done)]) = parseD (cutL (p' ++ other K y n')) i' (ts ++ [(nm, done ++ rels)])
  | [], x, y, p, n, i, ts, nm, done, hp, h => by
    unfold relsT at h
    obtain rfl := Option.some.inj h
    exact ⟨p, n, i, hp, by rw [List.append_nil]; rfl⟩
  | (m, r) :: rels, x, y, p, n, i, ts, nm, done, hp, h => by
    unfold relsT at h
    cases hr : relT m r with
    | none => rw [hr] at h; cases h
    | some t =>
      rw [hr] at h
      cases hu : relsT rels with
      | none => rw [hu] at h; cases h
      | some u =>
        rw [hu] at h
        obtain rfl := Option.some.inj h
        unfold relT at hr
        split at hr
        · rename_i hc
          cases hx : ruleT 8 r with
          | none => rw [hx] at hr; cases hr
          | some z =>
            rw [hx] at hr
            obtain rfl := Option.some.inj hr
            have hnl : (10 : UInt8) ∉ m ++ [32, 61, 32] ++ z := by
              have h1 := nl_name (good_both hc.1).1
              have h2 := rule_nl r 8 z hx
              simp [h1, h2]
            have e : m ++ [32, 61, 32] ++ z ++ [10] ++ u ++ y = (m ++ [32, 61, 32] ++ z) ++ [10] ++ (u ++ y) := by simp
            obtain ⟨c, v, hcv, hcb⟩ := name_head (s := [32, 61, 32] ++ z) hc.1
            obtain ⟨p1, i1, hp1, h1⟩ := line_step (z := other K (u ++ y) (n + 1)) hp (by rw [List.append_assoc]; exact hcv) hcb hnl (K n) i (lineX_rel (ts := ts ++ [(nm, done)]) hc.1 hc.2 hx (by simp))
            obtain ⟨p2, n2, i2, hp2, h2⟩ := rels_other K rels u y p1 (n + 1) i1 ts nm (done ++ [(m, r)]) hp1 hu
            refine ⟨p2, n2, i2, hp2, ?_⟩
            show parseD (cutL (p ++ other K (m ++ [32, 61, 32] ++ z ++ [10] ++ u ++ y) n)) i _ = _
            rw [e, other_line K _ _ _ hnl, h1, addRel_last, h2]
            simp
        · cases hr
theorem end_other {p : List UInt8} (hp : isPre p) (i : Nat) (ts : List TyD) : parseD (cutL (p ++ [])) i ts = (some ts, 0) := by
  rcases hp with rfl | rfl
  · rfl
  · show parseD (cutL [32, 9]) i ts = _
    have e : cutL [32, 9] = [[32, 9]] := rfl
    rw [e]
    unfold parseD
    rw [show blankL [32, 9] = true from by decide +kernel]
    rfl
theorem tys_other (K : Nat → Nat) : ∀ (ts' : List TyD) (x p : List UInt8) (n i : Nat) (ts : List TyD), isPre p → tysT ts' = some x → parseD (cutL (p ++ other K x n)) i ts = (some (ts ++ ts'), 0)
  | [], x, p, n, i, ts, hp, h => by
    unfold tysT at h
    obtain rfl := Option.some.inj h
    rw [List.append_nil]
    exact end_other hp i ts
  | (nm, rels) :: ts', x, p, n, i, ts, hp, h => by
    rw [tysT_cons] at h
    split at h
    · rename_i hg
      unfold restT at h
      cases hr : relsT rels with
      | none => rw [hr] at h; cases h
      | some t =>
        rw [hr] at h
        cases hu : tysT ts' with
        | none => rw [hu] at h; cases h
        | some u =>
          rw [hu] at h
          obtain rfl := Option.some.inj h
          have hnl : (10 : UInt8) ∉ typeL ++ [32] ++ nm := by
            have h1 := nl_name (good_both hg).1
            have h2 : (10 : UInt8) ∉ typeL := by decide
            simp [h1, h2]
          obtain ⟨p1, i1, hp1, h1⟩ := line_step (s := typeL ++ [32] ++ nm) (z := other K (t ++ u) (n + 1)) (c := 116) (u := [121, 112, 101] ++ [32] ++ nm) hp rfl (by decide) hnl (K n) i (lineX_type hg ts)
          obtain ⟨p2, n2, i2, hp2, h2⟩ := rels_other K rels t u p1 (n + 1) i1 ts nm [] hp1 hr
          show parseD (cutL (p ++ other K ((typeL ++ [32] ++ nm) ++ [10] ++ (t ++ u)) n)) i ts = _
          rw [other_line K _ _ _ hnl, h1, h2, List.nil_append, tys_other K ts' u p2 n2 i2 _ hp2 hu]
          simp
    · cases h
/-- blanks, empty lines and remarks change nothing -/
theorem other_back {ts : List TyD} {x : List UInt8} (h : tysT ts = some x) (K : Nat → Nat) : parseD (linesG (other K x 0)) 0 [] = (some ts, 0) := by
  rw [linesG_cut]
  exact tys_other K ts x [] 0 0 [] (.inl rfl) h
end Go.Proofs.YtkibaaljpbcjeaaDoor
