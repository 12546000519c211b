/- The document's parse of tokens: how much it takes. No program in sight. The document's parse of lines, and that it is the program's. No program in sight. -/
import Derived.Test.YtkibaaljpbcjeaaDoorSPl
import Derived.Test.YtkibaaljpbcjeaaDoorSW6
import Derived.Test.YtkibaaljpbcjeaaDoorSCt
import Derived.Test.YtkibaaljpbcjeaaDoorSBl
namespace Go.Proofs.YtkibaaljpbcjeaaDoor
/-- what a parse of l leaves, and how many parts came of what was taken -/
structure DSz (l l' : Toks) (r : RT) : Prop where
  ok : okR r
  lt : l'.length < l.length
  parts : r.parts.length + l'.length ≤ l.length + 1
theorem DSz.leaf {l l' : Toks} {k : Int} {a b : List UInt8} (hk : k ≠ 4 ∧ k ≠ 5) (h : l'.length < l.length) : DSz l l' (.node k a b []) := ⟨.inr ⟨hk.1, hk.2, rfl⟩, h, by show 0 + _ ≤ _; omega⟩
theorem DSz.wide {l l' m m' : Toks} {r : RT} (h : DSz l l' r) (h1 : l.length ≤ m.length) (h2 : m'.length ≤ l'.length) : DSz m m' r := ⟨h.ok, by have := h.lt; omega, by have := h.parts; omega⟩
/-- parts that a parse from l on has gathered, and what is left -/
structure DAcc (kind : Int) (l : Toks) (acc : List RT) (l' : Toks) : Prop where
  le : acc.length + l'.length ≤ l.length + 1
  one : ∀ x, acc = [x] → DSz l l' x ∧ x.kind ≠ kind
  lt : l'.length < l.length
  full : acc ≠ []
theorem DAcc.step {kind : Int} (hk : kind = 4 ∨ kind = 5) {l l1 l' : Toks} {acc : List RT} {r : RT} (h : acc.length + l1.length ≤ l.length) (hz : DSz l1 l' r) : DAcc kind l (acc ++ flat kind r) l' := by
  have hlt := hz.lt
  have hp := hz.parts
  rcases flat_len hz.ok kind hk with ⟨e, h2, h3⟩ | ⟨e, h3⟩
  · refine ⟨by rw [List.length_append, h3]; omega, fun x hx => ?_, by omega, fun e => ?_⟩
    · have := congrArg List.length hx
      rw [List.length_append, List.length_singleton] at this; omega
    · have := congrArg List.length e
      rw [List.length_append, List.length_nil] at this; omega
  · refine ⟨by rw [List.length_append, h3, List.length_singleton]; omega, fun x hx => ?_, by omega, fun e => by rw [h3] at e; simp at e⟩
    rw [h3] at hx
    have hl := congrArg List.length hx
    rw [List.length_append, List.length_singleton, List.length_singleton] at hl
    have ha : acc = [] := List.eq_nil_of_length_eq_zero (by omega)
    rw [ha, List.nil_append] at hx
    obtain rfl := (List.cons.inj hx).1
    exact ⟨hz.wide (by omega) (Nat.le_refl _), e⟩
theorem DAcc.end_ {kind : Int} (hk : kind = 4 ∨ kind = 5) {l l' : Toks} {acc : List RT} (h : DAcc kind l acc l') : DSz l l' (joined kind acc) := by
  unfold joined
  split
  · rename_i x; exact (h.one x rfl).1
  · rename_i hne
    have h2 : 2 ≤ acc.length := by
      have := h.full
      match acc, hne, this with
      | [], _, h => exact absurd rfl h
      | [x], hne, _ => exact absurd rfl (hne x)
      | _ :: _ :: _, _, _ => simp
    exact ⟨.inl ⟨hk, h2⟩, h.lt, h.le⟩
theorem head_tail {l : Toks} {a : List UInt8} (h : l.head? = some a) : l.tail.length + 1 = l.length := by
  cases l with
  | nil => cases h
  | cons b l => rfl
theorem dLoop_sz {G : Toks → Option (RT × Toks)} {op : List UInt8} {kind : Int} (hk : kind = 4 ∨ kind = 5) (hG : ∀ l r l', G l = some (r, l') → DSz l l' r) (l0 : Toks) : ∀ (n : Nat) (l : Toks) (acc : List RT) (r : RT) (l' : Toks), acc.length + l.length ≤ l0.length → dLoop G op kind n l acc = some (r, l') → DSz l0 l' r
  | 0, _, _, _, _, _, e => by cases e
  | n + 1, l, acc, r, l', h, e => by
    unfold dLoop at e
    cases hg : G l with
    | none => rw [hg] at e; cases e
    | some x =>
      obtain ⟨r1, l1⟩ := x
      rw [hg] at e
      have A := DAcc.step hk h (hG l r1 l1 hg)
      simp only at e
      split at e
      · rename_i hh
        have := head_tail hh
        have := A.le
        exact dLoop_sz hk hG l0 n _ _ r l' (by omega) e
      · obtain ⟨rfl, rfl⟩ := Prod.mk.inj (Option.some.inj e)
        exact A.end_ hk
theorem dOp_sz {G : Toks → Option (RT × Toks)} {op : List UInt8} {kind : Int} (hk : kind = 4 ∨ kind = 5) (hG : ∀ l r l', G l = some (r, l') → DSz l l' r) (l : Toks) (r : RT) (l' : Toks) (e : dOp G op kind l = some (r, l')) : DSz l l' r := dLoop_sz hk hG l _ l [] r l' (by simp) e
theorem dName_sz (t : List UInt8) (l1 : Toks) (r : RT) (l' : Toks) (e : dName t l1 = some (r, l')) : DSz (t :: l1) l' r := by
  unfold dName at e
  split at e
  · split at e
    · obtain ⟨rfl, rfl⟩ := Prod.mk.inj (Option.some.inj e); exact .leaf (by decide) (by simp; omega)
    · split at e
      · obtain ⟨rfl, rfl⟩ := Prod.mk.inj (Option.some.inj e); exact .leaf (by decide) (by simp)
      · obtain ⟨rfl, rfl⟩ := Prod.mk.inj (Option.some.inj e); exact .leaf (by decide) (by simp)
  · split at e
    · obtain ⟨rfl, rfl⟩ := Prod.mk.inj (Option.some.inj e); exact .leaf (by decide) (by simp)
    · obtain ⟨rfl, rfl⟩ := Prod.mk.inj (Option.some.inj e); exact .leaf (by decide) (by simp)
theorem dOne_sz : ∀ (d : Nat) (l : Toks) (r : RT) (l' : Toks), dOne d l = some (r, l') → DSz l l' r := by
  intro d
  induction d with
  | zero =>
    intro l r l' e
    match l, e with
    | t :: l1, e =>
      unfold dOne at e
      by_cases h0 : t = opL
      · simp only [h0, if_true] at e; cases e
      · simp only [h0, if_false] at e
        split at e
        · exact dName_sz t l1 r l' e
        · cases e
  | succ d ih =>
    intro l r l' e
    match l, e with
    | t :: l1, e =>
      unfold dOne at e
      by_cases h0 : t = opL
      · simp only [h0, if_true] at e
        cases hg : dOp (dOp (dOne d) andL 5) orL 4 l1 with
        | none => rw [hg] at e; cases e
        | some x =>
          obtain ⟨r2, l2⟩ := x
          rw [hg] at e
          have z := dOp_sz (.inl rfl) (fun l r l' e => dOp_sz (.inr rfl) ih l r l' e) l1 r2 l2 hg
          simp only at e
          split at e
          · rename_i hc
            obtain ⟨rfl, rfl⟩ := Prod.mk.inj (Option.some.inj e)
            exact z.wide (by simp) (by simp)
          · cases e
      · simp only [h0, if_false] at e
        split at e
        · exact dName_sz t l1 r l' e
        · cases e
theorem dBoth_sz (d : Nat) (l : Toks) (r : RT) (l' : Toks) (e : dOp (dOne d) andL 5 l = some (r, l')) : DSz l l' r := dOp_sz (.inr rfl) (dOne_sz d) l r l' e
theorem dRule_sz (d : Nat) (l : Toks) (r : RT) (l' : Toks) (e : dRule d l = some (r, l')) : DSz l l' r := dOp_sz (.inl rfl) (dBoth_sz d) l r l' e
end Go.Proofs.YtkibaaljpbcjeaaDoor
namespace Go.Proofs.YtkibaaljpbcjeaaDoor
open Go.RowKit
def lineX (ts : List TyD) (s : List UInt8) : Option (List TyD) := if [] ∈ toks s then none else lineD ts (toks s)
/-- what lines make of a schema, from the i-th on, the document's way; none: that line is wrong -/
def parseD : List (List UInt8) → Nat → List TyD → Option (List TyD) × Int
  | [], _, ts => (some ts, 0)
  | l :: ls, i, ts => if blankL l then parseD ls (i + 1) ts else match lineX ts l with
    | none => (none, i + 1)
    | some ts' => parseD ls (i + 1) ts'
def allBl (y : List UInt8) : Prop := ∀ b ∈ y, isBl b = true
theorem bl_bl (b : UInt8) : ([32, 9] : List UInt8).contains b = isBl b := by unfold isBl; simp only [List.contains_cons, List.contains_nil, Bool.or_false]
theorem toks_bl : ∀ (y : List UInt8), allBl y → toks y = []
  | [], _ => tk_nil
  | b :: y, h => by rw [tk_blank (h b (by simp))]; exact toks_bl y fun x hx => h x (List.mem_cons_of_mem _ hx)
theorem isBl_int {b : UInt8} (h : isBl b = true) : b = 32 ∨ b = 9 := by
  unfold isBl at h; simpa using h
theorem arrow_app : ∀ (s y : List UInt8), allBl y → arrow (s ++ y) = arrow s
  | [], [], _ => rfl
  | [], b :: y, h => by
    rcases isBl_int (h b (by simp)) with rfl | rfl <;> rfl
  | [c], [], _ => by simp
  | [c], b :: y, h => by
    rcases isBl_int (h b (by simp)) with rfl | rfl <;> (unfold arrow Lib.hasPrefix; simp [List.isPrefixOf])
  | c :: d :: s, y, _ => by unfold arrow Lib.hasPrefix; simp [List.isPrefixOf]
theorem word_bl : ∀ (y : List UInt8), allBl y → word y = []
  | [], _ => rfl
  | b :: y, h => by
    unfold word
    rcases isBl_int (h b (by simp)) with rfl | rfl <;> rfl
theorem word_app : ∀ (s y : List UInt8), allBl y → word (s ++ y) = word s
  | [], y, h => by rw [List.nil_append, word_bl y h]; rfl
  | c :: s, y, h => by
    have h1 : word (c :: s ++ y) = if nameByte c && !arrow (c :: s ++ y) then c :: word (s ++ y) else [] := rfl
    have h2 : word (c :: s) = if nameByte c && !arrow (c :: s) then c :: word s else [] := rfl
    rw [h1, h2, arrow_app (c :: s) y h, word_app s y h]
theorem toks_app (y : List UInt8) (h : allBl y) : ∀ (n : Nat) (s : List UInt8), s.length ≤ n → toks (s ++ y) = toks s
  | _, [], _ => by rw [List.nil_append, toks_bl y h, tk_nil]
  | n + 1, c :: s, hn => by
    have hs : s.length ≤ n := by simpa using hn
    rw [List.cons_append]
    cases hb : isBl c
    · cases ho : isOp c
      · have ea : arrow (c :: (s ++ y)) = arrow (c :: s) := arrow_app (c :: s) y h
        cases ha : arrow (c :: s)
        · rw [ha] at ea
          cases hn : nameByte c
          · rw [tk_bad hb ho ea hn, tk_bad hb ho ha hn]
          · have ew : word (c :: (s ++ y)) = word (c :: s) := word_app (c :: s) y h
            rw [tk_word hn ea, tk_word hn ha, ew]
            have hp := (word_pre (c :: s)).length_le
            have hpos : 0 < (word (c :: s)).length := by
              cases hh : word (c :: s) with
              | nil => exact absurd hh (word_ne hn ha)
              | cons _ _ => exact Nat.succ_pos _
            have e : (c :: (s ++ y)).drop (word (c :: s)).length = (c :: s).drop (word (c :: s)).length ++ y := by
              rw [← List.cons_append, List.drop_append_of_le_length hp]
            rw [e, toks_app y h n _ (by rw [List.length_drop, List.length_cons]; omega)]
        · rw [ha] at ea
          rw [tk_arrow ea, tk_arrow ha]
          have h2 : 2 ≤ (c :: s).length := by
            match s, ha with
            | [], ha => unfold arrow Lib.hasPrefix at ha; simp [List.isPrefixOf] at ha
            | _ :: _, _ => simp
          have e : (c :: (s ++ y)).drop 2 = (c :: s).drop 2 ++ y := by
            rw [← List.cons_append, List.drop_append_of_le_length h2]
          rw [e, toks_app y h n _ (by rw [List.length_drop, List.length_cons]; omega)]
      · rw [tk_op ho, tk_op ho, toks_app y h n s hs]
    · rw [tk_blank hb, tk_blank hb, toks_app y h n s hs]
theorem toks_left (s : List UInt8) : toks (trimL s) = toks s := by
  have e : pk (trimL s) = pk s := by unfold pk; rw [trim_trim]
  have e2 : rest (trimL s) = rest s := by unfold rest; rw [trim_trim, e]
  rw [toks_eq (trimL s), toks_eq s, trim_trim, e, e2]
theorem toks_trimB (s : List UInt8) : toks (trimB s) = toks s := by
  obtain ⟨y, e, hy⟩ := right_parts s
  have hy' : allBl y := fun b hb => by rw [← bl_bl]; exact hy b hb
  have h1 : trimB s = trimL (Lib.trimRightS s [32, 9]) := rfl
  rw [h1, toks_left]
  conv => rhs; rw [e]
  exact (toks_app y hy' _ _ (Nat.le_refl _)).symm
theorem line_trim (ts : List TyD) (s : List UInt8) : lineG ts (trimB s) = lineX ts s := by
  rw [line_same, toks_trimB]; rfl
theorem parse_same : ∀ (ls : List (List UInt8)) (i : Nat) (ts : List TyD), parseG ls i ts = parseD ls i ts
  | [], _, _ => rfl
  | l :: ls, i, ts => by
    unfold parseG parseD
    rw [skip_blank, line_trim]
    split
    · exact parse_same ls _ _
    · cases lineX ts l with
      | none => rfl
      | some ts' => exact parse_same ls _ _
theorem lineX_few {n : Nat} {ts ts' : List TyD} {s : List UInt8} (h : Few_ n ts) (hl : lineX ts s = some ts') : Few_ (n + 1) ts' := lineG_few h (by rw [line_trim]; exact hl)
theorem cutL_len : ∀ l : List UInt8, (cutL l).length ≤ l.length + 1 ∧ ∀ p ∈ cutL l, p.length ≤ l.length
  | [] => ⟨by decide, fun p hp => by have : p = [] := by simpa [cutL] using hp
                                     rw [this]; exact Nat.le_refl _⟩
  | c :: l => by
    obtain ⟨h1, h2⟩ := cutL_len l
    unfold cutL
    split
    · exact ⟨by simp; exact h1, fun p hp => by
        rcases List.mem_cons.1 hp with rfl | hp
        · simp
        · have := h2 p hp; simp; omega⟩
    · cases hc : cutL l with
      | nil => exact absurd hc (cutL_ne l)
      | cons q qs =>
        rw [hc] at h1 h2
        refine ⟨by simp at h1 ⊢; omega, fun p hp => ?_⟩
        rcases List.mem_cons.1 hp with rfl | hp
        · have := h2 q (by simp); simp; omega
        · have := h2 p (List.mem_cons_of_mem _ hp); simp; omega
end Go.Proofs.YtkibaaljpbcjeaaDoor
