/- What is written is read as it is: products, sums, comparisons, lists, rows. No program in sight. -/
import Derived.Test.YtfhdecdlkmibmaaDoorC5
namespace Go.Proofs.YtfhdecdlkmibmaaDoor
theorem keysP_some (a : Key) (l : List Piece) : keysP (some a :: l) = a :: keysP l := rfl
theorem keysP_none (l : List Piece) : keysP (none :: l) = keysP l := rfl
theorem keysP_spc (a : Key) (l : List Piece) : keysP (spc (some a) ++ l) = a :: keysP l := rfl
/-- a sign's level -/
theorem lv_of {t : Tok} {r : Toks} {x : List UInt8} {k : Nat} (h : t.key = (k, x, false)) (r' : Toks) : opLv (t :: r) = opLv (⟨k, x, 0, false⟩ :: r') := opLv_key h r' ⟨k, x, 0, false⟩ rfl
theorem two_inv {cond : Wr} {d l1 l2 : Nat} {s : Piece} {ps : List CT} {x : List Piece} (h : twoW cond d l1 l2 (spc s) ps = some x) : ∃ a b xa xb, ps = [a, b] ∧ partW cond d l1 a = some xa ∧ partW cond d l2 b = some xb ∧ x = xa ++ spc s ++ xb := by
  match ps, h with
  | [a, b], h =>
    change (match partW cond d l1 a with | none => none | some x => (partW cond d l2 b).map fun y => x ++ spc s ++ y) = some x at h
    cases ha : partW cond d l1 a with
    | none => rw [ha] at h; cases h
    | some xa =>
      rw [ha] at h
      obtain ⟨xb, hb, rfl⟩ := Option.map_eq_some_iff.1 h
      exact ⟨a, b, xa, xb, rfl, ha, hb, rfl⟩
theorem parts_cons {cond : Wr} {d l1 : Nat} {sep : List Piece} {c c2 : CT} {ps : List CT} {x : List Piece} (h : partsW cond d l1 sep (c :: c2 :: ps) = some x) : ∃ xc y, partW cond d l1 c = some xc ∧ partsW cond d l1 sep (c2 :: ps) = some y ∧ x = xc ++ sep ++ y := by
  change (match partW cond d l1 c with | none => none | some x => (partsW cond d l1 sep (c2 :: ps)).map fun y => x ++ sep ++ y) = some x at h
  cases hc : partW cond d l1 c with
  | none => rw [hc] at h; cases h
  | some xc =>
    rw [hc] at h
    obtain ⟨y, hy, rfl⟩ := Option.map_eq_some_iff.1 h
    exact ⟨xc, y, rfl, hy, rfl⟩
theorem parts2_inv {cond : Wr} {d l1 : Nat} {sep : List Piece} {ps : List CT} {x : List Piece} (hl : ps.length = 2) (h : partsW cond d l1 sep ps = some x) : ∃ a b xa xb, ps = [a, b] ∧ partW cond d l1 a = some xa ∧ partW cond d l1 b = some xb ∧ x = xa ++ sep ++ xb := by
  match ps, hl, h with
  | [a, b], _, h =>
    obtain ⟨xa, xb, ha, hb, rfl⟩ := parts_cons h
    exact ⟨a, b, xa, xb, rfl, ha, hb, rfl⟩
/-- the tokens of a part, a sign, a part -/
theorem split3 {xa xb : List Piece} {a : Key} {lx : Toks} (h : lx.map Tok.key = keysP (xa ++ spc (some a) ++ xb)) : ∃ la t lb, lx = la ++ t :: lb ∧ la.map Tok.key = keysP xa ∧ t.key = a ∧ lb.map Tok.key = keysP xb := by
  rw [List.append_assoc, keysP_app, keysP_spc] at h
  obtain ⟨la, l2, rfl, h1, h2⟩ := keys_split h
  obtain ⟨t, lb, rfl, h3, h4⟩ := keys_head h2
  exact ⟨la, t, lb, rfl, h1, h3, h4⟩
section
variable {f d : Nat} {a b : CT} {xa xb : List Piece} {la lb m : Toks} {t : Tok}
/-- a product -/
theorem times_read (hC : C6 f) (hP : PC f) (ha : partW (condW f) d 6 a = some xa) (hb : partW (condW f) d 7 b = some xb) (hla : la.map Tok.key = keysP xa) (ht : t.key = (2, [42], false)) (hlb : lb.map Tok.key = keysP xb) : ∃ n, m.length + 1 ≤ n ∧ gL d 6 (la ++ t :: lb ++ m) = timesL (gUnitD d) n (pairC 14 a b) m := by
  obtain ⟨n, hn, he⟩ := hC d a xa ha la (t :: (lb ++ m)) hla
  have hb2 : gUnitD d (lb ++ m) = .ok (b, m) := hP d 7 b xb hb (by omega) (by omega) lb m hlb (by have := opLv_le m; omega)
  obtain ⟨n, rfl⟩ : ∃ q, n = q + 1 := ⟨n - 1, by omega⟩
  refine ⟨n, by simp at hn; omega, ?_⟩
  rw [show la ++ t :: lb ++ m = la ++ t :: (lb ++ m) by simp, he]
  conv => lhs; unfold timesL
  rw [isT_key ht (.inl rfl)]
  simp [hb2]
/-- a sum, a difference -/
theorem sum_read (hC : C5 f) (hP : PC f) (k : Int) (x : List UInt8) (hk : (k = 12 ∧ x = [43]) ∨ (k = 13 ∧ x = [45])) (ha : partW (condW f) d 5 a = some xa) (hb : partW (condW f) d 6 b = some xb) (hla : la.map Tok.key = keysP xa) (ht : t.key = (2, x, false)) (hlb : lb.map Tok.key = keysP xb) (hm : opLv m ≤ 5) : ∃ n, m.length + 1 ≤ n ∧ gL d 5 (la ++ t :: lb ++ m) = sumL (gTimes (gUnitD d)) n (pairC k a b) m := by
  have hop : opLv (t :: (lb ++ m)) ≤ 5 := by
    rw [lv_of ht []]
    rcases hk with ⟨_, rfl⟩ | ⟨_, rfl⟩ <;> decide
  obtain ⟨n, hn, he⟩ := hC d a xa ha la (t :: (lb ++ m)) hla hop
  have hb2 : gTimes (gUnitD d) (lb ++ m) = .ok (b, m) := hP d 6 b xb hb (by omega) (by omega) lb m hlb (by omega)
  obtain ⟨n, rfl⟩ : ∃ q, n = q + 1 := ⟨n - 1, by omega⟩
  refine ⟨n, by simp at hn; omega, ?_⟩
  rw [show la ++ t :: lb ++ m = la ++ t :: (lb ++ m) by simp, he]
  conv => lhs; unfold sumL
  rcases hk with ⟨rfl, rfl⟩ | ⟨rfl, rfl⟩
  · rw [isT_key ht (.inl rfl)]
    simp [hb2]
  · rw [isT_ne ht (show ([45] : List UInt8) ≠ [43] by decide), isT_key ht (.inl rfl)]
    simp [hb2]
/-- a comparison -/
theorem held_read (hP : PC f) (ha : partW (condW f) d 5 a = some xa) (hb : partW (condW f) d 5 b = some xb) (hla : la.map Tok.key = keysP xa) {x : List UInt8} (ht : t.key = (2, x, false)) (hlb : lb.map Tok.key = keysP xb) (hm : opLv m < 4) (r : CT) (hx : (x = [61] ∧ r = pairC 9 a b) ∨ (x = [33, 61] ∧ r = notC (pairC 9 a b)) ∨ (x = [60] ∧ r = pairC 10 a b) ∨ (x = [60, 61] ∧ r = pairC 11 a b)) : gL d 4 (la ++ t :: lb ++ m) = .ok (r, m) := by
  have hop : opLv (t :: (lb ++ m)) < 5 := by
    rw [lv_of ht []]
    rcases hx with ⟨rfl, _⟩ | ⟨rfl, _⟩ | ⟨rfl, _⟩ | ⟨rfl, _⟩ <;> decide
  have ha2 : gSum (gTimes (gUnitD d)) (la ++ t :: (lb ++ m)) = .ok (a, t :: (lb ++ m)) := hP d 5 a xa ha (by omega) (by omega) la _ hla hop
  have hb2 : gSum (gTimes (gUnitD d)) (lb ++ m) = .ok (b, m) := hP d 5 b xb hb (by omega) (by omega) lb m hlb (by omega)
  show gHeld (gSum (gTimes (gUnitD d))) (la ++ t :: lb ++ m) = _
  rw [show la ++ t :: lb ++ m = la ++ t :: (lb ++ m) by simp]
  unfold gHeld
  rw [ha2]
  rcases hx with ⟨rfl, rfl⟩ | ⟨rfl, rfl⟩ | ⟨rfl, rfl⟩ | ⟨rfl, rfl⟩
  · simp [isT_key ht (.inl rfl), heldB, hb2]
  · simp [isT_ne ht (show ([33, 61] : List UInt8) ≠ [61] by decide), isT_key ht (.inl rfl), heldB, hb2]
  · simp [isT_ne ht (show ([60] : List UInt8) ≠ [61] by decide), isT_ne ht (show ([60] : List UInt8) ≠ [33, 61] by decide), isT_key ht (.inl rfl), heldB, hb2]
  · simp [isT_ne ht (show ([60, 61] : List UInt8) ≠ [61] by decide), isT_ne ht (show ([60, 61] : List UInt8) ≠ [33, 61] by decide), isT_ne ht (show ([60, 61] : List UInt8) ≠ [60] by decide), isT_key ht (.inl rfl), heldB, hb2]
/-- the members of a list -/
theorem list_read (hP : PC f) : ∀ (ps : List CT) (x : List Piece) (lx : Toks) (acc : List CT) (n : Nat), partsW (condW f) d 5 [mk [44], none] ps = some x → ps ≠ [] → lx.map Tok.key = keysP x → opLv m < 5 → isT m [44] = false → lx.length ≤ n → inLp (gSum (gTimes (gUnitD d))) (n + 1) acc (lx ++ m) = .ok (acc ++ ps, m)
  | [], _, _, _, _, _, h, _, _, _, _ => absurd rfl h
  | [c], x, lx, acc, n, h, _, hl, hm, hm2, hn => by
    have h2 : gSum (gTimes (gUnitD d)) (lx ++ m) = .ok (c, m) := hP d 5 c x h (by omega) (by omega) lx m hl hm
    unfold inLp
    rw [h2]
    simp [hm2]
  | c :: c2 :: ps, x, lx, acc, n, h, _, hl, hm, hm2, hn => by
    obtain ⟨xc, y, hc, hy, rfl⟩ := parts_cons h
    · rw [List.append_assoc, keysP_app] at hl
      obtain ⟨lc, l2, rfl, h1, h2⟩ := keys_split hl
      obtain ⟨t, lb, rfl, h3, h4⟩ := keys_head (a := (2, [44], false)) (b := keysP y) h2
      have hop : opLv (t :: (lb ++ m)) < 5 := by rw [lv_of h3 []]; decide
      have h5 : gSum (gTimes (gUnitD d)) (lc ++ t :: (lb ++ m)) = .ok (c, t :: (lb ++ m)) := hP d 5 c xc hc (by omega) (by omega) lc _ h1 hop
      rw [show lc ++ t :: lb ++ m = lc ++ t :: (lb ++ m) by simp]
      unfold inLp
      rw [h5]
      simp only [isT_key h3 (.inl rfl), if_true]
      obtain ⟨q, rfl⟩ : ∃ q, n = q + 1 := ⟨n - 1, by simp at hn; omega⟩
      have := list_read hP (c2 :: ps) y lb (acc ++ [c]) q hy (by simp) h4 hm hm2 (by simp at hn; omega)
      rw [show (t :: (lb ++ m)).tail = lb ++ m from rfl, this]
      simp
/-- the parts of a row, from its second part on -/
theorem row_read {one : Toks → Res} {w : List UInt8} {k : Int} {lst : Nat} (hone : ∀ c x, partW (condW f) d lst c = some x → ∀ (lx m : Toks), lx.map Tok.key = keysP x → opLv m < lst → one (lx ++ m) = .ok (c, m)) (hw : opLv [(⟨3, w, 0, false⟩ : Tok)] < lst) (hm : opLv m < lst) (hmw : isT m w = false) :
    ∀ (ps : List CT) (x : List Piece) (t : Tok) (lx : Toks) (acc : List CT) (n : Nat), partsW (condW f) d lst (spc (wd w)) ps = some x → ps ≠ [] → (∀ p ∈ ps, p.kind ≠ k) → t.key = (3, w, false) → lx.map Tok.key = keysP x → lx.length + 1 ≤ n → rowL one w k (n + 1) acc (t :: (lx ++ m)) = .ok (.node k 0 [] (acc ++ ps), m)
  | [], _, _, _, _, _, _, h, _, _, _, _ => absurd rfl h
  | [c], x, t, lx, acc, n, h, _, hk, ht, hl, hn => by
    have h2 := hone c x h lx m hl hm
    have hk1 := hk c (by simp)
    unfold rowL
    simp only [isT_key ht (.inr rfl), if_true, List.tail_cons]
    rw [h2]
    obtain ⟨q, rfl⟩ : ∃ q, n = q + 1 := ⟨n - 1, by omega⟩
    show rowL one w k (q + 1) (acc ++ flatC k c) m = _
    unfold rowL
    rw [hmw]
    simp [flatC, hk1]
  | c :: c2 :: ps, x, t, lx, acc, n, h, _, hk, ht, hl, hn => by
    obtain ⟨xc, y, hc, hy, rfl⟩ := parts_cons h
    · obtain ⟨lc, t2, lb, rfl, h1, h3, h4⟩ := split3 (a := (3, w, false)) hl
      have hop : opLv (t2 :: (lb ++ m)) < lst := by rw [lv_of h3 []]; exact hw
      have h5 := hone c xc hc lc (t2 :: (lb ++ m)) h1 hop
      have hk1 := hk c (by simp)
      unfold rowL
      simp only [isT_key ht (.inr rfl), if_true, List.tail_cons]
      rw [show lc ++ t2 :: lb ++ m = lc ++ t2 :: (lb ++ m) by simp, h5]
      show rowL one w k n (acc ++ flatC k c) (t2 :: (lb ++ m)) = _
      obtain ⟨q, rfl⟩ : ∃ q, n = q + 1 := ⟨n - 1, by omega⟩
      rw [row_read hone hw hm hmw (c2 :: ps) y t2 lb (acc ++ flatC k c) q hy (by simp) (fun p hp => hk p (List.mem_cons_of_mem _ hp)) h3 h4 (by simp at hn; omega)]
      simp [flatC, hk1]
end
end Go.Proofs.YtfhdecdlkmibmaaDoor
