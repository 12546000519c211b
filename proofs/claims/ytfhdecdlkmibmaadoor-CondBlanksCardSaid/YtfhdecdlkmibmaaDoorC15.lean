/- The laws of conditions, in plain words: parsed, printed and parsed again; more blanks; brackets; fixed texts. No program in sight. -/
import Derived.Test.YtfhdecdlkmibmaaDoorC14
namespace Go.Proofs.YtfhdecdlkmibmaaDoor
theorem parse_ok {s : List UInt8} {c : CT} {p : Nat} (h : parseC s = (c, p, 0)) : s.length ≤ 4096 ∧ c.size ≤ 256 ∧ ∃ t r, gCond 8 (lex 0 s) = .ok (c, t :: r) ∧ t.sort = 1 ∧ p = 0 := by
  unfold parseC at h
  by_cases h1 : 4096 < s.length
  · rw [if_pos h1] at h; cases h
  rw [if_neg h1] at h
  cases hg : gCond 8 (lex 0 s) with
  | error e => rw [hg] at h; cases h
  | ok q =>
    obtain ⟨c1, l⟩ := q
    rw [hg] at h
    cases l with
    | nil => cases h
    | cons t r =>
      simp only at h
      by_cases h2 : t.sort = 1
      · rw [if_pos h2] at h
        by_cases h3 : 256 < c1.size
        · rw [if_pos h3] at h; cases h
        · rw [if_neg h3] at h
          injection h with h4 h5
          injection h5 with h5 h6
          subst h4 h5
          exact ⟨by omega, by omega, t, r, rfl, h2, rfl⟩
      · rw [if_neg h2] at h; cases h
theorem parse_bad {s : List UInt8} {c : CT} {p : Nat} {e : Int} (h : parseC s = (c, p, e)) (he : e ≠ 0) : c = leaf 0 0 [] := by
  unfold parseC at h
  by_cases h1 : 4096 < s.length
  · rw [if_pos h1] at h; cases h; rfl
  rw [if_neg h1] at h
  cases hg : gCond 8 (lex 0 s) with
  | error e => rw [hg] at h; cases h; rfl
  | ok q =>
    obtain ⟨c1, l⟩ := q
    rw [hg] at h
    cases l with
    | nil => cases h; rfl
    | cons t r =>
      simp only at h
      by_cases h2 : t.sort = 1
      · rw [if_pos h2] at h
        by_cases h3 : 256 < c1.size
        · rw [if_pos h3] at h; cases h; rfl
        · rw [if_neg h3] at h; cases h; exact absurd rfl he
      · rw [if_neg h2] at h; cases h; rfl
/-- pieces that stand well and are those of a condition are parsed as it -/
theorem pieces_parse {c : CT} {x y : List Piece} (h : printP c = some x) (hy : goodP y) (hk : keysP y = keysP x) (hl : (textP y).length ≤ 4096) (hs : c.size ≤ 256) : parseC (textP y) = (c, 0, 0) := by
  obtain ⟨lx, t, h1, h2, h3⟩ := lex_pieces y hy ((textP y).length + 1) 0 (Nat.lt_succ_self _)
  have h4 := print_read num_ok h (h2.trans hk) h3
  unfold parseC
  rw [if_neg (by omega)]
  unfold lex
  rw [h1, h4]
  show (if t.sort = 1 then (if 256 < c.size then (leaf 0 0 [], 0, 10) else (c, 0, 0)) else (leaf 0 0 [], t.pos, 9)) = _
  rw [if_pos h3, if_neg (by omega)]
/-- parsed, printed, parsed again -/
theorem again_law {s : List UInt8} {c : CT} {p : Nat} (hs : s.length ≤ 600) (h : parseC s = (c, p, 0)) : ∃ t, printC c = (t, 0) ∧ parseC t = (c, 0, 0) ∧ t.length ≤ 4096 := by
  obtain ⟨h1, h2, t, r, h3, h4, _⟩ := parse_ok h
  obtain ⟨w1, w2⟩ := lexF_facts (s.length + 1) 0 s (Nat.lt_succ_self _)
  obtain ⟨_, k, k2, x, hx, hn⟩ := cond_cl 8 _ c _ w1 h3
  have hp : printP c = some x := by
    have := hx c.size (Nat.le_refl _)
    unfold partW at this
    rw [if_pos (rank_pos c).1] at this
    unfold printP partW
    rw [if_pos (Nat.zero_le _)]; exact this
  have hle : W (lexF (s.length + 1) 0 s) ≤ 600 := by omega
  have hk : k ≤ 600 := by
    have : W (lex 0 s) = W (lexF (s.length + 1) 0 s) := rfl
    omega
  have hl : (textP x).length ≤ 4096 := by omega
  refine ⟨textP x, ?_, pieces_parse hp (good_print hp) rfl hl h2, hl⟩
  unfold printC
  rw [if_neg (by omega), hp]
  show (if 4096 < (textP x).length then _ else _) = _
  rw [if_neg (by omega)]
/-- one blank more behind -/
theorem good_end : ∀ a : List Piece, goodP a → goodP (a ++ [none])
  | [], _ => trivial
  | none :: r, h => good_end r h
  | some (k, x, b) :: r, h => by
    refine ⟨?_, good_end r h.2⟩
    have h1 := h.1
    show tokOk k x b (textP (r ++ [none])).head?
    rw [textP_app]
    cases hr : textP r with
    | cons c t => rw [hr] at h1; exact h1
    | nil =>
      rw [hr] at h1
      show tokOk k x b (some 32)
      rcases h1 with ⟨a1, a2, a3, a4, _⟩ | ⟨a1, a2, a3, _⟩ | ⟨a1, a2, a3⟩ | ⟨a1, a2, a3⟩ | ⟨a1, a2, a3, a4⟩
      · exact .inl ⟨a1, a2, a3, a4, fun c e => by obtain rfl := Option.some.inj e; rfl⟩
      · exact .inr (.inl ⟨a1, a2, a3, fun c e => by obtain rfl := Option.some.inj e; rfl⟩)
      · exact .inr (.inr (.inl ⟨a1, a2, a3⟩))
      · exact .inr (.inr (.inr (.inl ⟨a1, a2, a3⟩)))
      · exact .inr (.inr (.inr (.inr ⟨a1, a2, by decide, a4⟩)))
/-- what the law does with a text: so many blanks more behind each blank that stands in no quotes -/
def widen (n : Nat) : Bool → List UInt8 → List UInt8
  | _, [] => []
  | q, c :: t => c :: ((if c = 32 ∧ (if c = 39 then !q else q) = false then List.replicate n 32 else []) ++ widen n (if c = 39 then !q else q) t)
theorem widen_plain (n : Nat) (q : Bool) : ∀ a t : List UInt8, (∀ c ∈ a, c ≠ 32 ∧ c ≠ 39) → widen n q (a ++ t) = a ++ widen n q t
  | [], _, _ => rfl
  | c :: a, t, h => by
    obtain ⟨h1, h2⟩ := h c (by simp)
    show c :: _ = c :: _
    rw [if_neg (fun e => h1 e.1), if_neg h2, List.nil_append]
    exact congrArg _ (widen_plain n q a t fun c hc => h c (List.mem_cons_of_mem _ hc))
theorem widen_quoted (n : Nat) : ∀ a t : List UInt8, (∀ c ∈ a, c ≠ 39) → widen n true (a ++ t) = a ++ widen n true t
  | [], _, _ => rfl
  | c :: a, t, h => by
    have h2 := h c (by simp)
    show c :: _ = c :: _
    rw [if_neg h2, if_neg (fun e => by cases e.2), List.nil_append]
    exact congrArg _ (widen_quoted n a t fun c hc => h c (List.mem_cons_of_mem _ hc))
theorem wrd_ne {c : UInt8} (h : isWrd c = true) : c ≠ 32 ∧ c ≠ 39 := ⟨fun e => by rw [e] at h; exact absurd h (by decide), fun e => by rw [e] at h; exact absurd h (by decide)⟩
theorem tok_plain {k : Nat} {x : List UInt8} {b : Bool} {nx : Option UInt8} (h : tokOk k x b nx) (hk : k ≠ 5) : ∀ c ∈ x, c ≠ 32 ∧ c ≠ 39 := by
  intro c hc
  rcases h with ⟨_, _, hd, _⟩ | ⟨_, ⟨a, y, rfl, ha, hy⟩, _⟩ | ⟨rfl, _⟩ | ⟨_, hm, _⟩ | ⟨_, ⟨a, ha, rfl⟩, _⟩
  · rw [List.all_eq_true] at hd
    exact wrd_ne (by simp [isWrd, hd c hc])
  · rcases List.mem_cons.1 hc with rfl | hc
    · exact wrd_ne (by simp [isWrd, ha])
    · rw [List.all_eq_true] at hy
      exact wrd_ne (hy c hc)
  · exact absurd rfl hk
  · have : ∀ x ∈ twosL, ∀ c ∈ x, c ≠ 32 ∧ c ≠ 39 := by decide
    exact this x hm c hc
  · have : ∀ c ∈ marks1, c ≠ 32 ∧ c ≠ 39 := by decide
    rw [List.mem_singleton] at hc
    exact this c (hc ▸ ha)
theorem textP_rep (n : Nat) : textP (List.replicate n none) = List.replicate n 32 := by
  induction n with
  | zero => rfl
  | succ n ih => rw [List.replicate_succ, List.replicate_succ, textP_cons, ih]; rfl
theorem widen_text (n : Nat) : ∀ x : List Piece, goodP x → widen n false (textP x) = textP (wide n x)
  | [], _ => rfl
  | none :: r, h => by
    have ih := widen_text n r h
    rw [textP_cons]
    show widen n false (32 :: textP r) = _
    unfold widen
    rw [if_neg (show ¬ (32 : UInt8) = 39 by decide), if_pos ⟨rfl, rfl⟩, ih]
    show _ = textP (none :: (List.replicate n none ++ wide n r))
    rw [textP_cons, textP_app, textP_rep]; rfl
  | some (k, x, b) :: r, h => by
    have ih := widen_text n r h.2
    rw [textP_cons]
    show _ = textP (some (k, x, b) :: wide n r)
    rw [textP_cons, ← ih]
    by_cases hk : k = 5
    · subst hk
      have hq : x.all isQuo = true := by
        rcases h.1 with ⟨e, _⟩ | ⟨e, _⟩ | ⟨_, e, _⟩ | ⟨e, _⟩ | ⟨e, _⟩ <;> first | exact e | cases e
      have hx : ∀ c ∈ x, c ≠ 39 := fun c hc e => by
        rw [List.all_eq_true] at hq
        have := hq c hc
        rw [e] at this; exact absurd this (by decide)
      have e : pieceT (some (5, x, b)) = 39 :: (x ++ [39]) := rfl
      rw [e]
      show widen n false (39 :: (x ++ [39] ++ textP r)) = 39 :: (x ++ [39] ++ widen n false (textP r))
      conv => lhs; unfold widen
      rw [if_pos rfl, if_neg (fun e => absurd e.1 (by decide)), List.nil_append, Bool.not_false, List.append_assoc, widen_quoted n x _ hx]
      show _ :: (x ++ widen n true (39 :: textP r)) = _
      conv => lhs; unfold widen
      rw [if_pos rfl, if_neg (fun e => absurd e.1 (by decide))]
      simp
    · have e : pieceT (some (k, x, b)) = x := by
        show (if k = 5 then 39 :: x ++ [39] else x) = x
        rw [if_neg hk]
      rw [e]
      exact widen_plain n false x _ (tok_plain h.1 hk)
/-- more blanks -/
theorem blanks_law {c : CT} {t : List UInt8} (n : Nat) (h : printC c = (t, 0)) (hl : (32 :: widen n false t).length ≤ 4000) : parseC (32 :: widen n false t ++ [32]) = (c, 0, 0) := by
  unfold printC at h
  by_cases h1 : 256 < c.size
  · rw [if_pos h1] at h; cases h
  rw [if_neg h1] at h
  cases hp : printP c with
  | none => rw [hp] at h; cases h
  | some x =>
    rw [hp] at h
    by_cases h2 : 4096 < (textP x).length
    · simp only at h; rw [if_pos h2] at h; cases h
    · simp only at h
      rw [if_neg h2] at h
      injection h with h _
      subst h
      have hg := good_print hp
      have e : (32 :: widen n false (textP x) ++ [32] : List UInt8) = textP ((none :: wide n x) ++ [none]) := by
        rw [widen_text n x hg, textP_app]; rfl
      rw [e]
      refine pieces_parse hp (good_end _ (wide_good n x hg)) ?_ ?_ (by omega)
      · rw [keysP_app]
        show keysP (wide n x) ++ [] = _
        rw [List.append_nil, wide_keys]
      · rw [← e, List.length_append]
        have e1 : ([32] : List UInt8).length = 1 := rfl
        omega
/-- so many brackets within one another -/
def deepT : Nat → List UInt8
  | 0 => [97]
  | k + 1 => 40 :: deepT k ++ [41]
def isOk (r : Res) (c : CT) : Prop := ∃ t, r = .ok (c, [t]) ∧ t.sort = 1
theorem deep_ok : ∀ k : Nat, k ≤ 8 → parseC (deepT k) = (leaf 5 0 [97], 0, 0)
  | 0, _ => rfl
  | 1, _ => rfl
  | 2, _ => rfl
  | 3, _ => rfl
  | 4, _ => rfl
  | 5, _ => rfl
  | 6, _ => rfl
  | 7, _ => rfl
  | 8, _ => rfl
  | k + 9, h => by omega
theorem deep_bad : ∀ k : Nat, 8 < k → k < 20 → parseC (deepT k) = (leaf 0 0 [], 8, 9)
  | 9, _, _ => rfl
  | 10, _, _ => rfl
  | 11, _, _ => rfl
  | 12, _, _ => rfl
  | 13, _, _ => rfl
  | 14, _, _ => rfl
  | 15, _, _ => rfl
  | 16, _, _ => rfl
  | 17, _, _ => rfl
  | 18, _, _ => rfl
  | 19, _, _ => rfl
  | k + 20, _, h => by omega
end Go.Proofs.YtfhdecdlkmibmaaDoor
