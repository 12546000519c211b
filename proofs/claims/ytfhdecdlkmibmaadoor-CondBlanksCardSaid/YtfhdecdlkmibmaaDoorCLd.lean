/- What is parsed weighs no more than its text. No program in sight. Walks: conditions: Parse. Walk: conditions: Print. Walk: the law's first question. Walk: the law CondAgain. Walk: the law CondDeep. Walk: conditions: the document's Few. Walk: the law CondBlanks. Conditions: how the end is told; a world in which the library's tables and errors hold what their initialisers lay; what the row's condition gives. -/
import Derived.Test.YtfhdecdlkmibmaaDoorCBj
import Derived.Test.YtfhdecdlkmibmaaDoorCBn
import Derived.Test.YtfhdecdlkmibmaaDoorRows
import Derived.Test.YtfhdecdlkmibmaaDoorShelf
import Derived.Test.YtfhdecdlkmibmaaDoorCards
import Derived.Test.YtfhdecdlkmibmaaDoorTie
import Derived.ProofKit
import Derived.Deep.Strs
import Derived.Deep.Slices
import Derived.Deep.DeepHandedRow
import Derived.Lib.LaidTab
import Derived.Stop.LaidErr
namespace Go.Proofs.YtfhdecdlkmibmaaDoor
/-- what a reading costs -/
def CWt (G : Toks → Res) : Prop := ∀ l c m, G l = .ok (c, m) → c.cw + 8 + 80 * m.length + W m ≤ 80 * l.length + W l
theorem W_tail {l : Toks} {s : List UInt8} (h : isT l s = true) : 80 * l.tail.length + W l.tail + 80 ≤ 80 * l.length + W l := by
  obtain ⟨t, r, rfl, _⟩ := isT_text h
  show 80 * r.length + W r + 80 ≤ 80 * (r.length + 1) + (wt t + W r)
  omega
theorem cw_leaf (k n : Int) (s : List UInt8) : (leaf k n s).cw = 32 + s.length := by
  rw [cw_node]
  show 32 + s.length + cwL [] = _
  rw [cwL_nil]; rfl
theorem cw_pair (k : Int) (a b : CT) : (pairC k a b).cw = a.cw + b.cw + 48 := by
  rw [cw_node]
  show 32 + 0 + cwL [a, b] = _
  rw [cwL_cons, cwL_cons, cwL_nil]; omega
theorem cw_not (a : CT) : (notC a).cw = a.cw + 40 := by
  rw [cw_node]
  show 32 + 0 + cwL [a] = _
  rw [cwL_cons, cwL_nil]; omega
theorem wt_ge (t : Tok) : t.text.length ≤ wt t := by
  by_cases h5 : t.sort = 5
  · rw [wt_quo h5]; omega
  · rw [wt_text h5]; exact Nat.le_refl _
theorem unit_cw {sub : Option (Toks → Res)} (hs : ∀ G, sub = some G → CWt G) : CWt (gUnit sub) := by
  intro l c m h
  match l with
  | [] => cases h
  | t :: r =>
    have hw := wt_ge t
    have hl : 80 * (t :: r).length + W (t :: r) = 80 * r.length + W r + 80 + wt t := by
      show 80 * (r.length + 1) + (wt t + W r) = _
      omega
    unfold gUnit at h
    simp only at h
    split at h
    · split at h
      · cases h; rw [cw_leaf]; simp only [List.length_nil]; omega
      · cases h
    split at h
    · cases h; rw [cw_leaf]; omega
    split at h
    · split at h
      · cases h
        rw [cw_leaf]
        have : 80 * r.tail.length + W r.tail ≤ 80 * r.length + W r := by
          cases r with
          | nil => exact Nat.le_refl _
          | cons a r =>
            show 80 * r.length + W r ≤ 80 * (r.length + 1) + (wt a + W r)
            omega
        simp only [List.length_nil]; omega
      · cases h
    split at h
    · cases h; rw [cw_leaf]; simp only [List.length_nil]; omega
    split at h
    · cases h; rw [cw_leaf]; simp only [List.length_nil]; omega
    split at h
    · cases h; rw [cw_leaf]; omega
    cases sub with
    | none => cases h
    | some G =>
      simp only at h
      split at h
      · cases hg : G r with
        | error e => rw [hg] at h; cases h
        | ok q =>
          obtain ⟨c2, m2⟩ := q
          rw [hg] at h
          simp only at h
          split at h
          · rename_i hcl
            cases h
            have h1 := hs G rfl r c m2 hg
            have h2 := W_tail hcl
            omega
          · cases h
      · cases h
theorem timesL_cw {U : Toks → Res} (hU : CWt U) : ∀ (f : Nat) (a : CT) (l : Toks) (c : CT) (m : Toks), timesL U f a l = .ok (c, m) → c.cw + 80 * m.length + W m ≤ a.cw + 80 * l.length + W l
  | 0, a, l, c, m, h => by cases h; exact Nat.le_refl _
  | f + 1, a, l, c, m, h => by
    unfold timesL at h
    split at h
    · rename_i ht
      cases hg : U l.tail with
      | error e => rw [hg] at h; cases h
      | ok q =>
        obtain ⟨b, m2⟩ := q
        rw [hg] at h
        simp only at h
        have h1 := timesL_cw hU f _ _ _ _ h
        have h2 := hU _ _ _ hg
        have h3 := W_tail ht
        rw [cw_pair] at h1
        omega
    · cases h; exact Nat.le_refl _
theorem times_cw {U : Toks → Res} (hU : CWt U) : CWt (gTimes U) := by
  intro l c m h
  unfold gTimes at h
  cases hg : U l with
  | error e => rw [hg] at h; cases h
  | ok q =>
    obtain ⟨a, m1⟩ := q
    rw [hg] at h
    have h1 := hU _ _ _ hg
    have h2 := timesL_cw hU _ _ _ _ _ h
    omega
theorem sumL_cw {U : Toks → Res} (hU : CWt U) : ∀ (f : Nat) (a : CT) (l : Toks) (c : CT) (m : Toks), sumL U f a l = .ok (c, m) → c.cw + 80 * m.length + W m ≤ a.cw + 80 * l.length + W l
  | 0, a, l, c, m, h => by cases h; exact Nat.le_refl _
  | f + 1, a, l, c, m, h => by
    unfold sumL at h
    split at h
    · rename_i ht
      cases hg : U l.tail with
      | error e => rw [hg] at h; cases h
      | ok q =>
        obtain ⟨b, m2⟩ := q
        rw [hg] at h
        simp only at h
        have h1 := sumL_cw hU f _ _ _ _ h
        have h2 := hU _ _ _ hg
        have h3 := W_tail ht
        rw [cw_pair] at h1
        omega
    split at h
    · rename_i ht
      cases hg : U l.tail with
      | error e => rw [hg] at h; cases h
      | ok q =>
        obtain ⟨b, m2⟩ := q
        rw [hg] at h
        simp only at h
        have h1 := sumL_cw hU f _ _ _ _ h
        have h2 := hU _ _ _ hg
        have h3 := W_tail ht
        rw [cw_pair] at h1
        omega
    · cases h; exact Nat.le_refl _
theorem sum_cw {U : Toks → Res} (hU : CWt U) : CWt (gSum U) := by
  intro l c m h
  unfold gSum at h
  cases hg : U l with
  | error e => rw [hg] at h; cases h
  | ok q =>
    obtain ⟨a, m1⟩ := q
    rw [hg] at h
    have h1 := hU _ _ _ hg
    have h2 := sumL_cw hU _ _ _ _ _ h
    omega
theorem inLp_cw {U : Toks → Res} (hU : CWt U) : ∀ (f : Nat) (acc : List CT) (l : Toks) (ps : List CT) (m : Toks), inLp U f acc l = .ok (ps, m) → cwL ps + 80 * m.length + W m ≤ cwL acc + 80 * l.length + W l
  | 0, acc, l, ps, m, h => by cases h; exact Nat.le_refl _
  | f + 1, acc, l, ps, m, h => by
    unfold inLp at h
    cases hg : U l with
    | error e => rw [hg] at h; cases h
    | ok q =>
      obtain ⟨b, m2⟩ := q
      rw [hg] at h
      simp only at h
      have h2 := hU _ _ _ hg
      have e : cwL (acc ++ [b]) = cwL acc + (b.cw + 8) := by
        have : ∀ x : List CT, cwL (x ++ [b]) = cwL x + (b.cw + 8) := by
          intro x
          induction x with
          | nil => rw [List.nil_append, cwL_cons, cwL_nil]; omega
          | cons y x ih => rw [List.cons_append, cwL_cons, cwL_cons, ih]; omega
        exact this acc
      split at h
      · rename_i ht
        have h1 := inLp_cw hU f _ _ _ _ h
        have h3 := W_tail ht
        omega
      · cases h; omega
theorem heldB_cw {U : Toks → Res} (hU : CWt U) {l : Toks} {f : CT → CT} {c : CT} {m : Toks} {x : Nat} (hf : ∀ b, (f b).cw ≤ x + b.cw) (h : heldB U l f = .ok (c, m)) : c.cw + 8 + 80 * m.length + W m ≤ x + 80 * l.length + W l := by
  unfold heldB at h
  cases hg : U l with
  | error e => rw [hg] at h; cases h
  | ok q =>
    obtain ⟨b, m1⟩ := q
    rw [hg] at h
    cases h
    have h1 := hU _ _ _ hg
    have h2 := hf b
    omega
theorem held_cw {U : Toks → Res} (hU : CWt U) : CWt (gHeld U) := by
  intro l c m h
  unfold gHeld at h
  cases hg : U l with
  | error e => rw [hg] at h; cases h
  | ok q =>
    obtain ⟨a, m1⟩ := q
    rw [hg] at h
    have h1 := hU _ _ _ hg
    simp only at h
    split at h
    · rename_i ht
      have h2 := W_tail ht
      have h3 := heldB_cw hU (x := a.cw + 48) (fun b => by rw [cw_pair]; omega) h
      omega
    split at h
    · rename_i ht
      have h2 := W_tail ht
      have h3 := heldB_cw hU (x := a.cw + 88) (fun b => by rw [cw_not, cw_pair]; omega) h
      omega
    split at h
    · rename_i ht
      have h2 := W_tail ht
      have h3 := heldB_cw hU (x := a.cw + 48) (fun b => by rw [cw_pair]; omega) h
      omega
    split at h
    · rename_i ht
      have h2 := W_tail ht
      have h3 := heldB_cw hU (x := a.cw + 48) (fun b => by rw [cw_pair]; omega) h
      omega
    split at h
    · rename_i ht
      have h2 := W_tail ht
      have h3 := heldB_cw hU (x := a.cw + 48) (fun b => by rw [cw_pair]; omega) h
      omega
    split at h
    · rename_i ht
      have h2 := W_tail ht
      have h3 := heldB_cw hU (x := a.cw + 48) (fun b => by rw [cw_pair]; omega) h
      omega
    split at h
    · rename_i ht
      have h2 := W_tail ht
      split at h
      · rename_i ht2
        have h3 := W_tail ht2
        cases hi : inLp U (m1.length + 1) [a] m1.tail.tail with
        | error e => rw [hi] at h; cases h
        | ok q =>
          obtain ⟨ps, q⟩ := q
          rw [hi] at h
          simp only at h
          have h4 := inLp_cw hU _ _ _ _ _ hi
          rw [cwL_cons, cwL_nil] at h4
          split at h
          · rename_i ht3
            have h5 := W_tail ht3
            cases h
            rw [cw_node]
            show 32 + 0 + cwL ps + 8 + _ + _ ≤ _
            omega
          · cases h
      · cases h
    · cases h; exact h1
theorem no_cw {H : Toks → Res} (hU : CWt H) : ∀ f, CWt (gNo H f)
  | 0 => hU
  | f + 1 => by
    intro l c m h
    unfold gNo at h
    split at h
    · rename_i ht
      cases hg : gNo H f l.tail with
      | error e => rw [hg] at h; cases h
      | ok q =>
        obtain ⟨b, m1⟩ := q
        rw [hg] at h
        cases h
        have h1 := no_cw hU f _ _ _ hg
        have h2 := W_tail ht
        rw [cw_not]; omega
    · exact hU _ _ _ h
theorem cwL_flat (k : Int) (c : CT) : cwL (flatC k c) ≤ c.cw + 8 := by
  unfold flatC
  split
  · have := cw_node c; omega
  · rw [cwL_cons, cwL_nil]; omega
theorem cwL_app2 : ∀ a b : List CT, cwL (a ++ b) = cwL a + cwL b
  | [], b => by rw [cwL_nil, List.nil_append, Nat.zero_add]
  | c :: a, b => by rw [List.cons_append, cwL_cons, cwL_cons, cwL_app2 a b]; omega
theorem rowL_cw {G : Toks → Res} (hU : CWt G) {w : List UInt8} {k : Int} : ∀ (f : Nat) (acc : List CT) (l : Toks) (c : CT) (m : Toks), rowL G w k f acc l = .ok (c, m) → c.cw + 80 * m.length + W m ≤ 32 + cwL acc + 80 * l.length + W l
  | 0, acc, l, c, m, h => by
    cases h
    rw [cw_node]
    show 32 + 0 + cwL acc + _ + _ ≤ _
    omega
  | f + 1, acc, l, c, m, h => by
    unfold rowL at h
    split at h
    · rename_i ht
      cases hg : G l.tail with
      | error e => rw [hg] at h; cases h
      | ok q =>
        obtain ⟨b, m2⟩ := q
        rw [hg] at h
        simp only at h
        have h1 := rowL_cw hU f _ _ _ _ h
        have h2 := hU _ _ _ hg
        have h3 := W_tail ht
        have h4 := cwL_flat k b
        rw [cwL_app2] at h1
        omega
    · cases h
      rw [cw_node]
      show 32 + 0 + cwL acc + _ + _ ≤ _
      omega
theorem rowL_cw1 {G : Toks → Res} (hU : CWt G) {w : List UInt8} {k : Int} {n : Nat} {acc : List CT} {l : Toks} {c : CT} {m : Toks} (ht : isT l w = true) (h : rowL G w k (n + 1) acc l = .ok (c, m)) : c.cw + 80 * m.length + W m + 80 ≤ 40 + cwL acc + 80 * l.length + W l := by
  unfold rowL at h
  rw [if_pos ht] at h
  cases hg : G l.tail with
  | error e => rw [hg] at h; cases h
  | ok q =>
    obtain ⟨b, m2⟩ := q
    rw [hg] at h
    simp only at h
    have h1 := rowL_cw hU _ _ _ _ _ h
    have h2 := hU _ _ _ hg
    have h3 := W_tail ht
    have h4 := cwL_flat k b
    rw [cwL_app2] at h1
    omega
theorem row_cw {G : Toks → Res} (hU : CWt G) {w : List UInt8} {k : Int} : CWt (gRow G w k) := by
  intro l c m h
  unfold gRow at h
  cases hg : G l with
  | error e => rw [hg] at h; cases h
  | ok q =>
    obtain ⟨b, m1⟩ := q
    rw [hg] at h
    have h1 := hU _ _ _ hg
    simp only at h
    split at h
    · rename_i hw
      have h2 := rowL_cw1 hU (isW_T hw) h
      have h4 := cwL_flat k b
      omega
    · cases h; exact h1
theorem condOf_cw {U : Toks → Res} (hU : CWt U) : CWt (gCondOf U) := row_cw (row_cw fun l c m h => no_cw (held_cw (sum_cw (times_cw hU))) l.length l c m h)
theorem unitD_cw : ∀ d, CWt (gUnitD d)
  | 0 => unit_cw (fun G h => by cases h)
  | d + 1 => unit_cw (fun G h => by obtain rfl := Option.some.inj h; exact condOf_cw (unitD_cw d))
theorem cond_cw (d : Nat) : CWt (gCond d) := condOf_cw (unitD_cw d)
theorem size_cw (r : CT) : r.size ≤ r.cw := by
  have h1 := size_node r
  have h2 := cw_node r
  have hL : ∀ ps : List CT, (∀ p ∈ ps, p.size ≤ p.cw) → sizeLc ps ≤ cwL ps := by
    intro ps
    induction ps with
    | nil => intro _; rw [sizeL_nil]; exact Nat.zero_le _
    | cons p ps ih =>
      intro h
      rw [sizeL_cons, cwL_cons]
      have := h p (by simp)
      have := ih fun q hq => h q (List.mem_cons_of_mem _ hq)
      omega
  have := hL r.parts fun p hp => size_cw p
  omega
termination_by SizeOf.sizeOf r
decreasing_by exact partc_lt hp
/-- what a text says weighs no more than that -/
theorem parse_cw {s : List UInt8} {c : CT} {m : Toks} (hs : s.length ≤ 4096) (h : gCond 8 (lex 0 s) = .ok (c, m)) : c.cw ≤ 400000 := by
  have h1 := cond_cw 8 _ _ _ h
  have h2 := lex_len 0 s
  have h3 := (lexF_facts _ 0 s (Nat.lt_succ_self _)).2
  have h4 : W (lex 0 s) ≤ s.length := h3
  omega
end Go.Proofs.YtfhdecdlkmibmaaDoor
namespace Go.Proofs.YtfhdecdlkmibmaaDoor
open Go.RowKit
/-- what Parse leaves -/
def ParsePost (s : ByteArray) (w : World) (e : Ending) (w' : World) : Prop :=
  ∃ cs, e = .returned (.tuple #[.agg cs.toArray, .int .i64 (parseC s.data.toList).2.1, .int .i64 (parseC s.data.toList).2.2]) ∧ CAt (fun j => w.heap.size ≤ j) w' cs (parseC s.data.toList).1 ∧ Below w.heap.size w w' ∧ (parseC s.data.toList).1.cw ≤ 400000
theorem zero_cw : (leaf 0 0 []).cw ≤ 400000 := by rw [cw_leaf]; decide
theorem parse_eq {s : List UInt8} (hs : s.length ≤ 4096) : parseC s = (match gCond 8 (lex 0 s) with
    | .error e => (leaf 0 0 [], e, 9)
    | .ok (c, l) => match l with
      | t :: _ => if t.sort = 1 then (if 256 < c.size then (leaf 0 0 [], 0, 10) else (c, 0, 0)) else (leaf 0 0 [], t.pos, 9)
      | [] => (leaf 0 0 [], 0, 9)) := by
  unfold parseC
  rw [if_neg (by omega)]
  cases gCond 8 (lex 0 s) with
  | error e => rfl
  | ok q =>
    obtain ⟨c, l⟩ := q
    cases l <;> rfl
set_option maxHeartbeats 8000000 in
set_option maxRecDepth 100000 in
theorem parse_calls (s : ByteArray) (w : World) (hE : ErrAt w) (hsm : s.size ≤ 1000000000) : Calls Tryd.prog 7 #[.string s] w (ParsePost s w) := by
  have h5 : 5 < w.heap.size := by
    obtain ⟨ev, h1, _⟩ := hE
    exact World.block_lt_of_cell? w _ h1
  by_cases hlong : 4096 < s.size
  · have hP : Hid (parseC s.data.toList = (leaf 0 0 [], 0, 10)) := Lib.hid (by unfold parseC; rw [if_pos (by rw [← Lib.size_eq]; exact hlong)])
    have hi : (4096 : Int) < (s.size : Int) := by omega
    have hd : decide ((4096 : Int) < (s.size : Int)) = true := decide_eq_true hi
    go_enter Tryd.func7, Tryd.ntmps7
    go_wp2_with fail
    refine bodyPost_ret (v := .tuple #[.agg #[.int .i64 0, .int .i64 0, .string ⟨#[]⟩, .slice none 0 0], .int .i64 0, .int .i64 10]) (by simp [results, Tryd.results7, go_sem]) rfl ?_
    refine ⟨_, by rw [hP.out]; rfl, by rw [hP.out]; exact CAt.leaf _ _ 0 0 [], (Below.refl _ _).alloc (Nat.le_refl _) _, by rw [hP.out]; exact zero_cw⟩
  have hi : ¬ (4096 : Int) < (s.size : Int) := by omega
  have hd : decide ((4096 : Int) < (s.size : Int)) = false := decide_eq_false hi
  have hs : s.size ≤ 4096 := by omega
  have hsl : s.data.toList.length ≤ 4096 := by rw [← Lib.size_eq]; exact hs
  have hPE := Lib.hid (parse_eq hsl)
  have hz0 := alloc_size w (.cells condZ 25)
  have hBr := (Blk.new w 25 condZ).alloc (.cells #[.string s, .int .i64 0, .int .i64 0, .string ⟨#[]⟩, .int .i64 0, .int .i64 0, .bool false] 41)
  have hRb := Blk.new (w.alloc (.cells condZ 25)) 41 #[.string s, .int .i64 0, .int .i64 0, .string ⟨#[]⟩, .int .i64 0, .int .i64 0, .bool false]
  have k1 := ((Keeps.refl (fun _ => False) w).alloc (.cells condZ 25)).alloc (.cells #[.string s, .int .i64 0, .int .i64 0, .string ⟨#[]⟩, .int .i64 0, .int .i64 0, .bool false] 41)
  rw [hz0] at hRb
  unfold condZ at hRb hBr k1
  obtain ⟨w1, e1⟩ : ∃ w1, (w.alloc (.cells #[.int .i64 0, .int .i64 0, .string ⟨#[]⟩, .slice none 0 0] 25)).alloc (.cells #[.string s, .int .i64 0, .int .i64 0, .string ⟨#[]⟩, .int .i64 0, .int .i64 0, .bool false] 41) = w1 := ⟨_, rfl⟩
  rw [e1] at hRb hBr k1
  have hE1 := Lib.hid (hE.keeps k1 id)
  have D1 := Lib.hid (step_calls s 0 ⟨0, [], 0, false⟩ 0 false (w.heap.size + 1) w1 hs (Nat.zero_le _) hRb)
  have hBr' := Lib.hid hBr
  have k1' := Lib.hid k1
  have e1' := Lib.hid e1
  clear hE hz0 hBr hRb k1 e1
  go_enter Tryd.func7, Tryd.ntmps7
  go_wp2_with fail
  rw [e1'.out]
  refine D1.out.mono ?_
  rintro e w2 ⟨rfl, hR2, k2⟩
  rw [List.drop_zero] at hR2
  have hRd : Rd w2 (w.heap.size + 1) s (lex 0 s.data.toList) 0 false := ⟨hs, by omega, hE1.out.keeps k2 (by omega), 0, Nat.zero_le _, by rw [List.drop_zero]; exact hR2, by rw [List.drop_zero]⟩
  have hB2 := Lib.hid (hBr'.out.keeps k2 (by omega))
  have k2' := Lib.hid ((k1'.out.below (B := w.heap.size) (fun _ _ e => e.elim) (Nat.le_refl _)).trans (k2.below (B := w.heap.size) (fun _ _ e => by omega) k1'.out.size))
  have D2 := Lib.hid (cond_walk 8 (Nat.le_refl _) (lex 0 s.data.toList) w2 0 (by decide) hRd)
  have hzw2 := k2.size
  have hzw1 := k1'.out.size
  clear hR2 k2 hRd D1
  go_wp2_with fail
  refine D2.out.mono ?_
  rintro e w3 ⟨cs, c, m, d, b, rfl, hC, hR3, k3, hm1, hm2, hcase⟩
  have hB3 := hB2.out.keeps k3 (by omega)
  have k3' := k2'.out.trans (k3.below (B := w.heap.size) (fun _ _ e => by omega) (by omega))
  have hzw3 := k3.size
  have hC3 := hC.mono (Q := fun j => w.heap.size < j) fun j hj _ => by have := hB2.out.lt; omega
  obtain ⟨Q, pp, nn, cc, rfl⟩ := hC.open_
  obtain ⟨w4, e4⟩ : ∃ w4, w3.alloc (.cells #[.int .i64 c.kind, .int .i64 c.num, .string Q, .slice pp nn cc] 25) = w4 := ⟨_, rfl⟩
  have k4 := (Keeps.refl (fun _ => False) w3).alloc (.cells #[.int .i64 c.kind, .int .i64 c.num, .string Q, .slice pp nn cc] 25)
  have x4 := Blk.new w3 25 #[.int .i64 c.kind, .int .i64 c.num, .string Q, .slice pp nn cc]
  have hz4 := alloc_size w3 (.cells #[.int .i64 c.kind, .int .i64 c.num, .string Q, .slice pp nn cc] 25)
  rw [e4] at k4 x4 hz4
  have hR4 := Lib.hid (hR3.same k4)
  have hB4 := Lib.hid (hB3.keeps k4 id)
  have kk4 := Lib.hid (k3'.trans (k4.below (B := w.heap.size) (fun _ _ e => e.elim) (by omega)))
  have hC4 := Lib.hid (hC3.keeps k4 fun _ _ _ => id)
  obtain ⟨t, r, rfl⟩ := hR4.out.ex
  obtain ⟨q0, hq0, hb, -⟩ := hR4.out.cells
  obtain ⟨X, eX⟩ : ∃ X : ByteArray, strV t.text = .string X := ⟨⟨t.text.toArray⟩, rfl⟩
  rw [eX] at hb
  have g0 := Blk.cell hb
  have gf := Blk.frozen hb
  have b0 := Blk.cell hB4.out
  have bf := Blk.frozen hB4.out
  have x4c := x4.cell
  have x4' := Lib.hid x4
  have hcase' := Lib.hid hcase
  have hz4' := Lib.hid hz4
  have hcwOk : Hid (∀ q, gCond 8 (lex 0 s.data.toList) = .ok (c, q) → c.cw ≤ 400000) := Lib.hid fun q h => parse_cw hsl h
  clear hC hR3 k3 hcase hB3 k3' hC3 k4 x4 hz4 D2 hb eX hi hd
  have hzw4 := hz4'.out
  cases b with
  | true =>
    have hbad : Hid (parseC s.data.toList = (leaf 0 0 [], t.pos, 9)) := by
      rcases hcase'.out with ⟨e, _⟩ | ⟨_, e⟩
      · cases e
      · exact Lib.hid (by rw [hPE.out, e]; rfl)
    go_wp2_with fail
    go_region
    all_goals
      go_wp2_with fail
      have hRd := hR4.out.same ((Keeps.refl _ w4).drew)
      obtain ⟨W, eW, hBW, hRW, hKW⟩ := put_cond rfl hB4.out.drew hRd (by omega) (by omega) (.int .i64 0) (.int .i64 0) (.string ⟨#[]⟩) (.slice none 0 0)
      have eW' : ((((w4.setCell ⟨w.heap.size, 0, none⟩ (.int .i64 0)).setCell ⟨w.heap.size, 1, none⟩ (.int .i64 0)).setCell ⟨w.heap.size, 2, none⟩ (.string ⟨#[]⟩)).setCell ⟨w.heap.size, 3, none⟩ (.slice none 0 0)).drew = W := eW
      rw [eW']
      have c5 := hBW.cell
      refine bodyPost_ret (v := .tuple #[.agg #[.int .i64 0, .int .i64 0, .string ⟨#[]⟩, .slice none 0 0], .int .i64 t.pos, .int .i64 9]) (by simp [results, Tryd.results7, go_sem, c5]) rfl ?_
      exact ⟨_, by rw [hbad.out], by rw [hbad.out]; exact CAt.leaf _ _ 0 0 [], kk4.out.trans ((Below.refl _ _).drew.trans (hKW.below (fun j _ e => by omega) (by show w.heap.size ≤ w4.heap.size; omega))), by rw [hbad.out]; exact zero_cw⟩
  | false =>
    obtain ⟨hd, hG⟩ : d = 0 ∧ Hid (gCond 8 (lex 0 s.data.toList) = .ok (c, t :: r)) := by
      rcases hcase'.out with ⟨_, q2, q3⟩ | ⟨q, _⟩
      · exact ⟨q2, Lib.hid q3⟩
      · cases q
    subst hd
    by_cases h1 : t.sort = 1
    · have e1 : ((t.sort : Int) == 1) = true := by rw [h1]; rfl
      have e1' : ((t.sort : Int) != 1) = false := by rw [h1]; rfl
      have hcw := hcwOk.out _ hG.out
      have hszc := size_cw c
      have hP1 : Hid (parseC s.data.toList = if 256 < c.size then (leaf 0 0 [], 0, 10) else (c, 0, 0)) := Lib.hid (by rw [hPE.out, hG.out]; show (if t.sort = 1 then _ else _) = _; rw [if_pos h1])
      have DS := Lib.hid (size_calls c (by omega) _ w4 (CV.of hC4.out (by omega)))
      have h1' := Lib.hid h1
      clear h1
      go_wp2_with fail
      refine DS.out.mono ?_
      rintro e w5 ⟨rfl, hb5⟩
      have hz5 := hb5.size
      have hR5 := Lib.hid (hR4.out.keeps (S := fun _ => False) (.of_below hb5) id id)
      have hB5 := Lib.hid (hB4.out.below hb5 (by omega))
      have x5 := Lib.hid (x4'.out.below hb5 (by omega))
      have kk5 := Lib.hid (kk4.out.trans (hb5.mono (by omega)))
      have hC5 := Lib.hid (hC4.out.later hb5)
      have b5 := Blk.cell hB5.out
      have bf5 := Blk.frozen hB5.out
      have x5c := Blk.cell x5.out
      clear hb5 b0 bf x4c g0 gf DS
      by_cases hsz : 256 < c.size
      · have es : (256 : Int) < (c.size : Int) := by omega
        have ed : decide ((256 : Int) < (c.size : Int)) = true := decide_eq_true es
        have hP2 : Hid (parseC s.data.toList = (leaf 0 0 [], 0, 10)) := Lib.hid (by rw [hP1.out, if_pos hsz])
        go_wp2_with fail
        obtain ⟨W, eW, hBW, hRW, hKW⟩ := put_cond rfl hB5.out hR5.out (by omega) (by omega) (.int .i64 0) (.int .i64 0) (.string ⟨#[]⟩) (.slice none 0 0)
        rw [eW]
        have c5 := hBW.cell
        refine bodyPost_ret (v := .tuple #[.agg #[.int .i64 0, .int .i64 0, .string ⟨#[]⟩, .slice none 0 0], .int .i64 0, .int .i64 10]) (by simp [results, Tryd.results7, go_sem, c5]) rfl ?_
        exact ⟨_, by rw [hP2.out]; rfl, by rw [hP2.out]; exact CAt.leaf _ _ 0 0 [], kk5.out.trans (hKW.below (fun j _ e => by omega) (by omega)), by rw [hP2.out]; exact zero_cw⟩
      · have es : ¬ (256 : Int) < (c.size : Int) := by omega
        have ed : decide ((256 : Int) < (c.size : Int)) = false := decide_eq_false es
        have hP2 : Hid (parseC s.data.toList = (c, 0, 0)) := Lib.hid (by rw [hP1.out, if_neg hsz])
        go_wp2_with fail
        obtain ⟨W, eW, hBW, hRW, hKW⟩ := put_cond rfl hB5.out hR5.out (by omega) (by omega) (.int .i64 c.kind) (.int .i64 c.num) (.string Q) (.slice pp nn cc)
        rw [eW]
        have c5 := hBW.cell
        refine bodyPost_ret (v := .tuple #[.agg #[.int .i64 c.kind, .int .i64 c.num, .string Q, .slice pp nn cc], .int .i64 0, .int .i64 0]) (by simp [results, Tryd.results7, go_sem, c5]) rfl ?_
        exact ⟨_, by rw [hP2.out]; rfl, by rw [hP2.out]; exact (hC5.out.keeps hKW fun j hj _ e => by omega).mono fun j hj _ => Nat.le_of_lt hj, kk5.out.trans (hKW.below (fun j _ e => by omega) (by omega)), by rw [hP2.out]; exact hcw⟩
    · have e1 : ((t.sort : Int) == 1) = false := by apply beq_false_of_ne; omega
      have e1' : ((t.sort : Int) != 1) = true := by rw [bne_iff_ne]; omega
      have hbad : Hid (parseC s.data.toList = (leaf 0 0 [], t.pos, 9)) := Lib.hid (by rw [hPE.out, hG.out]; show (if t.sort = 1 then _ else _) = _; rw [if_neg h1])
      have h1' := Lib.hid h1
      clear h1
      go_wp2_with fail
      go_region
      all_goals
        go_wp2_with fail
        have hRd := hR4.out.same ((Keeps.refl _ w4).drew)
        obtain ⟨W, eW, hBW, hRW, hKW⟩ := put_cond rfl hB4.out.drew hRd (by omega) (by omega) (.int .i64 0) (.int .i64 0) (.string ⟨#[]⟩) (.slice none 0 0)
        have eW' : ((((w4.setCell ⟨w.heap.size, 0, none⟩ (.int .i64 0)).setCell ⟨w.heap.size, 1, none⟩ (.int .i64 0)).setCell ⟨w.heap.size, 2, none⟩ (.string ⟨#[]⟩)).setCell ⟨w.heap.size, 3, none⟩ (.slice none 0 0)).drew = W := eW
        rw [eW']
        have c5 := hBW.cell
        refine bodyPost_ret (v := .tuple #[.agg #[.int .i64 0, .int .i64 0, .string ⟨#[]⟩, .slice none 0 0], .int .i64 t.pos, .int .i64 9]) (by simp [results, Tryd.results7, go_sem, c5]) rfl ?_
        exact ⟨_, by rw [hbad.out], by rw [hbad.out]; exact CAt.leaf _ _ 0 0 [], kk4.out.trans ((Below.refl _ _).drew.trans (hKW.below (fun j _ e => by omega) (by show w.heap.size ≤ w4.heap.size; omega))), by rw [hbad.out]; exact zero_cw⟩
end Go.Proofs.YtfhdecdlkmibmaaDoor
namespace Go.Proofs.YtfhdecdlkmibmaaDoor
open Go.RowKit
theorem Tb.up {B B' : Nat} {w : World} (h : Tb B w) (hB : B ≤ B') : Tb B' w := fun w' hb => h w' (hb.mono hB)
def PrintPost (c : CT) (w : World) (e : Ending) (w' : World) : Prop :=
  e = .returned (.tuple #[.string ⟨(printC c).1.toArray⟩, .int .i64 (printC c).2]) ∧ Below w.heap.size w w'
set_option maxHeartbeats 8000000 in
set_option maxRecDepth 100000 in
theorem print_calls (r : CT) (hcw : r.cw ≤ 1000000) (cs : List Value) (w : World) (hq : CV w cs r) (htb : Tb w.heap.size w) : Calls Tryd.prog 8 #[.agg cs.toArray] w (PrintPost r w) := by
  have hszc := size_cw r
  obtain ⟨k, m, a, p, c, ds, rfl, -⟩ := hq.form
  have hb := (Below.refl w.heap.size w).alloc (Nat.le_refl _) (.cells #[.int .i64 k, .int .i64 m, .string a, .slice p r.parts.length c] 25)
  have hbx := Blk.new w 25 #[.int .i64 k, .int .i64 m, .string a, .slice p r.parts.length c]
  have hz1 := alloc_size w (.cells #[.int .i64 k, .int .i64 m, .string a, .slice p r.parts.length c] 25)
  obtain ⟨w1, e1⟩ : ∃ w1, w.alloc (.cells #[.int .i64 k, .int .i64 m, .string a, .slice p r.parts.length c] 25) = w1 := ⟨_, rfl⟩
  rw [e1] at hb hbx hz1
  have DS := Lib.hid (size_calls r (by omega) _ w1 (hq.later hb))
  have x1 := Blk.cell hbx
  have hb' := Lib.hid hb
  have hbx' := Lib.hid hbx
  have hz1' := Lib.hid hz1
  have hq' := Lib.hid hq
  have htb' := Lib.hid htb
  clear hb hbx hz1 hq htb
  go_enter Tryd.func8, Tryd.ntmps8
  go_wp2_with fail
  refine DS.out.mono ?_
  rintro e w2 ⟨rfl, hb2⟩
  have hz2 := hb2.size
  have hz1b := hz1'.out
  have B2 := hb'.out.trans (hb2.mono (by omega))
  have hB2 := Lib.hid B2
  have hbx2 := hbx'.out.below hb2 (by omega)
  have x2 := Blk.cell hbx2
  have hq2 := hq'.out.later B2
  have htb2 := (htb'.out.step B2).up (B' := w2.heap.size) (by omega)
  clear hb2 B2 DS x1 e1
  by_cases hsz : 256 < r.size
  · have es : (256 : Int) < (r.size : Int) := by omega
    have ed : decide ((256 : Int) < (r.size : Int)) = true := decide_eq_true es
    have hP : Hid (printC r = ([], 9)) := Lib.hid (by unfold printC; rw [if_pos hsz])
    go_wp2_with fail
    go_ret2
    exact ⟨by rw [hP.out]; rfl, hB2.out⟩
  have es : ¬ (256 : Int) < (r.size : Int) := by omega
  have ed : decide ((256 : Int) < (r.size : Int)) = false := decide_eq_false es
  have hP : Hid (printC r = match printP r with
      | none => ([], 9)
      | some ps => if 4096 < (textP ps).length then ([], 9) else (textP ps, 0)) := Lib.hid (by
    unfold printC; rw [if_neg hsz]
    cases printP r <;> rfl)
  have hb3 := (Below.refl w2.heap.size w2).alloc (Nat.le_refl _) (.cells #[.pointer none, .slice none 0 0, .int .i64 0, .bool false] 49)
  have hwb := Blk.new w2 49 #[.pointer none, .slice none 0 0, .int .i64 0, .bool false]
  have hz3 := alloc_size w2 (.cells #[.pointer none, .slice none 0 0, .int .i64 0, .bool false] 49)
  have x3z := Blk.cell (hbx2.alloc (.cells #[.pointer none, .slice none 0 0, .int .i64 0, .bool false] 49))
  have hltb : w.heap.size < w2.heap.size := by omega
  obtain ⟨w3, e3⟩ : ∃ w3, w2.alloc (.cells #[.pointer none, .slice none 0 0, .int .i64 0, .bool false] 49) = w3 := ⟨_, rfl⟩
  rw [e3] at hb3 hwb hz3
  have hwr : WrAt w2.heap.size w2.heap.size w3 [] 0 false := ⟨Nat.le_refl _, _, _, .inl rfl, hwb, World.ownsRow_nil _ _ _ _⟩
  have hbx3 := hbx2.below hb3 (by omega)
  have x3 := Blk.cell hbx3
  have hll0 : ([] : List UInt8).length = 0 := rfl
  have DP := Lib.hid (part_ok r (cond_ok r) w2 w2.heap.size 8 r.size 0 0 w3 [] _ (Nat.le_refl _) (by decide) (by decide) (Nat.le_refl _) hq2 hb3 (by omega) htb2 hwr (by omega) hcw)
  have hB3 := Lib.hid (hB2.out.trans (hb3.mono (by omega)))
  have e3' := Lib.hid e3
  have hz3' := Lib.hid hz3
  have hll0' := Lib.hid hll0
  clear hb3 hwb hwr hbx3 hbx2 hq2 htb2 hz3 e3 hll0 hsz
  go_wp2_with fail
  rw [e3'.out]
  refine DP.out.mono ?_
  rintro e w4 ⟨rfl, hk4, l4, d4, hl4, hcase⟩
  have hz4 := hk4.size
  have hz3b := hz3'.out
  have hll0 := hll0'.out
  have hB4 := Lib.hid (hB3.out.trans ((hk4.below (by omega)).mono (by omega)))
  have hl4b : l4.length ≤ 1000002 := by omega
  clear hk4 DP x3 x2 x3z hll0
  rcases hcase with ⟨x, hx, hlx, hW4⟩ | ⟨hx, hW4⟩
  · obtain ⟨ps, hps, rfl⟩ : ∃ ps, printP r = some ps ∧ textP ps = x := by
      unfold textO at hx
      obtain ⟨ps, h1, h2⟩ := Option.map_eq_some_iff.1 hx
      exact ⟨ps, h1, h2⟩
    have hP2 : Hid (printC r = if 4096 < (textP ps).length then ([], 9) else (textP ps, 0)) := Lib.hid (by rw [hP.out, hps])
    rw [List.nil_append] at hlx
    subst hlx
    obtain ⟨f2, f3, ff⟩ := hW4.flag
    have DL := Lib.hid (wlen_calls w2.heap.size w2.heap.size w4 (textP ps) 0 false hW4)
    have DT := Lib.hid (string_calls w2.heap.size w2.heap.size w4 (textP ps) 0 false hW4 (by omega))
    have hx' := Lib.hid hx
    have hps' := Lib.hid hps
    clear hx hps hW4
    generalize textP ps = t at *
    by_cases h4 : 4096 < t.length
    · have e4 : (4096 : Int) < (t.length : Int) := by omega
      have ed4 : decide ((4096 : Int) < (t.length : Int)) = true := decide_eq_true e4
      have hP3 : Hid (printC r = ([], 9)) := Lib.hid (by rw [hP2.out, if_pos h4])
      go_wp2_with fail
      refine DL.out.mono ?_
      rintro e w' ⟨rfl, rfl⟩
      go_wp2_with fail
      go_ret2
      exact ⟨by rw [hP3.out]; rfl, hB4.out⟩
    · have e4 : ¬ (4096 : Int) < (t.length : Int) := by omega
      have ed4 : decide ((4096 : Int) < (t.length : Int)) = false := decide_eq_false e4
      have hP3 : Hid (printC r = (t, 0)) := Lib.hid (by rw [hP2.out, if_neg h4])
      go_wp2_with fail
      refine DL.out.mono ?_
      rintro e w' ⟨rfl, rfl⟩
      go_wp2_with fail
      refine DT.out.mono ?_
      rintro e w5 ⟨rfl, hb5⟩
      have hB5 := Lib.hid (hB4.out.trans (hb5.mono (by omega)))
      clear hb5
      go_wp2_with fail
      go_ret2
      exact ⟨by rw [hP3.out]; rfl, hB5.out⟩
  · have hps : printP r = none := by
      unfold textO at hx
      exact Option.map_eq_none_iff.1 hx
    have hP3 : Hid (printC r = ([], 9)) := Lib.hid (by rw [hP.out, hps])
    obtain ⟨f2, f3, ff⟩ := hW4.flag
    have hx' := Lib.hid hx
    have hps' := Lib.hid hps
    clear hx hps hW4
    go_wp2_with fail
    go_ret2
    exact ⟨by rw [hP3.out]; rfl, hB4.out⟩
end Go.Proofs.YtfhdecdlkmibmaaDoor
namespace Go.Proofs.YtfhdecdlkmibmaaDoor
open Go.RowKit
/-- a world in which the library's variables stand -/
structure Std (w : World) : Prop where
  err : ErrAt w
  tb : Tb w.heap.size w
theorem Std.next {w w' : World} (h : Std w) (hb : Below w.heap.size w w') : Std w' := ⟨h.err.keeps (S := fun _ => False) (.of_below hb) id, (h.tb.step hb).up hb.size⟩
theorem fixC_cells {P : Nat → Prop} {w : World} {cs : List Value} (h : CAt P w cs fixC) : ∃ (Q : ByteArray) (p : Option Addr) (c : Nat), cs = [.int .i64 8, .int .i64 0, .string Q, .slice p 2 c] := by
  obtain ⟨p, n, c, rfl, hn⟩ := h.form
  subst hn
  exact ⟨⟨fixC.str.toArray⟩, p, c, rfl⟩
theorem leaf_cells {P : Nat → Prop} {w : World} {cs : List Value} {k n : Int} {s : List UInt8} (h : CAt P w cs (leaf k n s)) : ∃ (Q : ByteArray) (p : Option Addr) (c : Nat), cs = [.int .i64 k, .int .i64 n, .string Q, .slice p 0 c] := by
  obtain ⟨p, m, c, rfl, hn⟩ := h.form
  subst hn
  exact ⟨⟨s.toArray⟩, p, c, rfl⟩
theorem fixC_cw : fixC.cw ≤ 1000000 := by
  have h : ∀ a b : CT, (pairC 9 a b).cw = a.cw + b.cw + 48 := cw_pair 9
  rw [cw_node]
  show 32 + 0 + cwL [pairC 9 (leaf 5 0 [97]) (leaf 3 1 []), notC (leaf 5 0 [98])] ≤ _
  rw [cwL_cons, cwL_cons, cwL_nil, cw_pair, cw_not, cw_leaf, cw_leaf, cw_leaf]
  decide
set_option maxHeartbeats 4000000 in
set_option maxRecDepth 100000 in
theorem fixed_calls (w : World) (hS : Std w) : Calls Tryd.prog 6 #[] w fun e w' => e = .returned (.bool true) ∧ Below w.heap.size w w' := by
  have hS' := Lib.hid hS
  have D1 := Lib.hid (parse_calls ⟨#[97, 32, 61, 32, 49, 32, 111, 114, 32, 110, 111, 116, 32, 98]⟩ w hS.err (by decide))
  clear hS
  go_enter Tryd.func6, Tryd.ntmps6
  go_wp2_with fail
  refine D1.out.mono ?_
  rintro e w1 ⟨cs, rfl, hC1, hb1, -⟩
  have e1 : parseC (⟨#[97, 32, 61, 32, 49, 32, 111, 114, 32, 110, 111, 116, 32, 98]⟩ : ByteArray).data.toList = (fixC, 0, 0) := fix_parse
  rw [e1] at hC1 ⊢
  have hC1 : CAt (fun j => w.heap.size ≤ j) w1 cs fixC := hC1
  obtain ⟨Q, p, c, rfl⟩ := fixC_cells hC1
  obtain ⟨w2, e2⟩ : ∃ w2, w1.alloc (.cells #[.int .i64 8, .int .i64 0, .string Q, .slice p 2 c] 25) = w2 := ⟨_, rfl⟩
  have ha2 := (Below.refl w1.heap.size w1).alloc (Nat.le_refl _) (.cells #[.int .i64 8, .int .i64 0, .string Q, .slice p 2 c] 25)
  have x2 := Blk.new w1 25 #[.int .i64 8, .int .i64 0, .string Q, .slice p 2 c]
  have hz2 := alloc_size w1 (.cells #[.int .i64 8, .int .i64 0, .string Q, .slice p 2 c] 25)
  rw [e2] at ha2 x2 hz2
  have hzw1 := hb1.size
  have B2 := Lib.hid (hb1.trans (ha2.mono hzw1))
  have S2 := Lib.hid ((hS'.out.next hb1).next ha2)
  have C2 := Lib.hid (hC1.later ha2)
  have x2' := Lib.hid x2
  have hz2' := Lib.hid hz2
  have D2 := Lib.hid (parse_calls ⟨#[49, 32, 43]⟩ w2 S2.out.err (by decide))
  clear hC1 hb1 e1 ha2 x2 hz2 D1
  go_wp2_with fail
  refine D2.out.mono ?_
  rintro e w3 ⟨cs, rfl, hC3, hb3, -⟩
  have e3 : parseC (⟨#[49, 32, 43]⟩ : ByteArray).data.toList = (leaf 0 0 [], 3, 9) := fix_bad
  rw [e3] at hC3 ⊢
  obtain ⟨Q3, p3, c3, rfl⟩ := leaf_cells hC3
  obtain ⟨w4, e4⟩ : ∃ w4, w3.alloc (.cells #[.int .i64 0, .int .i64 0, .string Q3, .slice p3 0 c3] 25) = w4 := ⟨_, rfl⟩
  have ha4 := (Below.refl w3.heap.size w3).alloc (Nat.le_refl _) (.cells #[.int .i64 0, .int .i64 0, .string Q3, .slice p3 0 c3] 25)
  rw [e4] at ha4
  have hzw2 := hz2'.out
  have hzw3 := hb3.size
  have b34 := hb3.trans (ha4.mono hzw3)
  have B4 := Lib.hid (B2.out.trans (b34.mono (by omega)))
  have S4 := Lib.hid (S2.out.next b34)
  have C4 := Lib.hid (C2.out.later b34)
  have x4' := Lib.hid (x2'.out.below b34 (by omega))
  have x4 := Blk.cell x4'.out
  rw [← e4] at x4
  have D3 := Lib.hid (print_calls fixC fixC_cw _ w4 (CV.of C4.out (by rw [fix_size]; decide)) S4.out.tb)
  have hzw4 := b34.size
  have e4' := Lib.hid e4
  clear hC3 hb3 e3 ha4 b34 D2 e2 e4
  go_wp2_with fail
  rw [e4'.out]
  refine D3.out.mono ?_
  rintro e w5 ⟨rfl, hb5⟩
  have e5 : printC fixC = (fix1, 0) := fix_print
  have e6 : (⟨(printC fixC).1.toArray⟩ : ByteArray) = ⟨#[97, 32, 61, 32, 49, 32, 111, 114, 32, 110, 111, 116, 32, 98]⟩ := by rw [e5]; rfl
  have e7 : (printC fixC).2 = 0 := by rw [e5]
  rw [e6, e7]
  have B5 := Lib.hid (B4.out.trans (hb5.mono (by omega)))
  have C5 := C4.out.later hb5
  have x5' := Lib.hid (x4'.out.below hb5 (by omega))
  have x5 := Blk.cell x5'.out
  have D4 := Lib.hid (size_calls fixC (by rw [fix_size]; decide) _ w5 (CV.of C5 (by rw [fix_size]; decide)))
  have hzw5 := hb5.size
  clear hb5 e5 e6 e7 C5 x4 D3
  go_wp2_with fail
  refine D4.out.mono ?_
  rintro e w6 ⟨rfl, hb6⟩
  rw [fix_size]
  have B6 := Lib.hid (B5.out.trans (hb6.mono (by omega)))
  clear hb6
  go_wp2_with fail
  go_ret
  exact ⟨rfl, B6.out⟩
end Go.Proofs.YtfhdecdlkmibmaaDoor
namespace Go.Proofs.YtfhdecdlkmibmaaDoor
open Go.RowKit
theorem mk_data (x : List UInt8) : (⟨x.toArray⟩ : ByteArray).data.toList = x := rfl
theorem mk_size (x : List UInt8) : (⟨x.toArray⟩ : ByteArray).size = x.length := by rw [Lib.size_eq]
set_option maxHeartbeats 4000000 in
set_option maxRecDepth 100000 in
theorem again_calls (s : ByteArray) (w : World) (hS : Std w) : Calls Tryd.prog 3 #[.string s] w fun e w' => e = .returned (.bool true) ∧ Below w.heap.size w w' := by
  have F := Lib.hid (fixed_calls w hS)
  have hS' := Lib.hid hS
  clear hS
  by_cases hskip : 600 < s.size
  · go_enter Tryd.func3, Tryd.ntmps3
    go_wp2_with fail
    refine F.out.mono ?_
    rintro e w1 ⟨rfl, hb1⟩
    have es : (600 : Int) < (s.size : Int) := by omega
    have hb1' := Lib.hid hb1
    clear hb1
    go_wp2_with fail
    go_ret
    exact ⟨rfl, hb1'.out⟩
  have es : ¬ (600 : Int) < (s.size : Int) := by omega
  go_enter Tryd.func3, Tryd.ntmps3
  go_wp2_with fail
  refine F.out.mono ?_
  rintro e w1 ⟨rfl, hb1⟩
  have l1 := hb1.size
  have S1 := Lib.hid (hS'.out.next hb1)
  have D1 := Lib.hid (parse_calls s w1 S1.out.err (by omega))
  have B1 := Lib.hid hb1
  clear hb1
  go_wp2_with fail
  refine D1.out.mono ?_
  rintro e w2 ⟨cs, rfl, hC2, hb2, hcw⟩
  have l2 := hb2.size
  have B2 := Lib.hid (B1.out.trans (hb2.mono l1))
  have S2 := Lib.hid (S1.out.next hb2)
  generalize hq : parseC s.data.toList = q at *
  obtain ⟨c, p, er⟩ := q
  have hC2 : CAt (fun j => w1.heap.size ≤ j) w2 cs c := hC2
  have hcw : c.cw ≤ 400000 := hcw
  clear D1 hb2 B1
  by_cases her : er = 0
  · subst her
    obtain ⟨t, hpr, hpa, htl⟩ := again_law (by rw [← Lib.size_eq]; omega) hq
    have hszc := size_cw c
    have V2 : CV w2 cs c := CV.of (r := c) hC2 (by omega)
    obtain ⟨k, m, a, pp, cc, ds, rfl, -⟩ := V2.form
    obtain ⟨w3, e3⟩ : ∃ w3, w2.alloc (.cells #[.int .i64 k, .int .i64 m, .string a, .slice pp c.parts.length cc] 25) = w3 := ⟨_, rfl⟩
    have hb3 := (Below.refl w2.heap.size w2).alloc (Nat.le_refl _) (.cells #[.int .i64 k, .int .i64 m, .string a, .slice pp c.parts.length cc] 25)
    have bx3 := Blk.new w2 25 #[.int .i64 k, .int .i64 m, .string a, .slice pp c.parts.length cc]
    have hz3 : w3.heap.size = w2.heap.size + 1 := by rw [← e3]; simp
    rw [e3] at hb3 bx3
    have V3 := V2.later hb3
    have B3 := Lib.hid (B2.out.trans (hb3.mono (by omega)))
    have S3 := Lib.hid (S2.out.next hb3)
    have D3 := Lib.hid (print_calls c (by omega) _ w3 V3 S3.out.tb)
    have V3' := Lib.hid V3
    have c3 := bx3.cell
    have bx3' := Lib.hid bx3
    have hcw' := Lib.hid hcw
    have hpr' := Lib.hid hpr
    have hpa' := Lib.hid hpa
    clear hq V2 V3 hb3 bx3 hC2 hcw hpr hpa B2 S2 S1
    go_wp2_with fail
    refine D3.out.mono ?_
    rintro e w4 ⟨rfl, hb4⟩
    have e4 : (⟨(printC c).1.toArray⟩ : ByteArray) = ⟨t.toArray⟩ := by rw [hpr'.out]
    have e5 : (printC c).2 = 0 := by rw [hpr'.out]
    rw [e4, e5]
    obtain ⟨T, eT⟩ : ∃ T : ByteArray, (⟨t.toArray⟩ : ByteArray) = T := ⟨_, rfl⟩
    have hTd : T.data.toList = t := by rw [← eT]
    have hTs : T.size ≤ 4096 := by rw [Lib.size_eq, hTd]; exact htl
    rw [eT]
    have l4 := hb4.size
    have B4 := Lib.hid (B3.out.trans (hb4.mono (by omega)))
    have S4 := Lib.hid (S3.out.next hb4)
    have V4 := Lib.hid (V3'.out.later hb4)
    have bx4 := Lib.hid (bx3'.out.below hb4 (by omega))
    have D4 := Lib.hid (parse_calls T w4 S4.out.err (by omega))
    have hTd' := Lib.hid hTd
    have eT' := Lib.hid eT
    clear hb4 e4 e5 D3 B3 S3 c3 hTd eT
    go_wp2_with fail
    refine D4.out.mono ?_
    rintro e w5 ⟨cs5, rfl, hC5, hb5, -⟩
    rw [hTd'.out, hpa'.out] at hC5 ⊢
    have hC5 : CAt (fun j => w4.heap.size ≤ j) w5 cs5 c := hC5
    have l5 := hb5.size
    have V5 := CV.of hC5 (by omega)
    obtain ⟨k2, m2, a2, pp2, cc2, ds2, rfl, -⟩ := V5.form
    obtain ⟨w6, e6⟩ : ∃ w6, w5.alloc (.cells #[.int .i64 k2, .int .i64 m2, .string a2, .slice pp2 c.parts.length cc2] 25) = w6 := ⟨_, rfl⟩
    have hb6 := (Below.refl w5.heap.size w5).alloc (Nat.le_refl _) (.cells #[.int .i64 k2, .int .i64 m2, .string a2, .slice pp2 c.parts.length cc2] 25)
    have bx6 := Blk.new w5 25 #[.int .i64 k2, .int .i64 m2, .string a2, .slice pp2 c.parts.length cc2]
    have hz6 : w6.heap.size = w5.heap.size + 1 := by rw [← e6]; simp
    rw [e6] at hb6 bx6
    have b56 := hb5.trans (hb6.mono l5)
    have V6 := Lib.hid (V5.later hb6)
    have V6a := Lib.hid (V4.out.later b56)
    have bx6' := Lib.hid bx6
    have bx6a := Lib.hid (bx4.out.below b56 (by omega))
    have B6 := Lib.hid (B4.out.trans (b56.mono (by omega)))
    have S6 := Lib.hid (S4.out.next b56)
    have D6 := Lib.hid (print_calls c (by have := hcw'.out; omega) _ w6 V6.out S6.out.tb)
    have c6 := bx6.cell
    clear V5 hb5 hb6 bx6 b56 hC5 D4 B4 S4 V4
    go_wp2_with fail
    refine D6.out.mono ?_
    rintro e w7 ⟨rfl, hb7⟩
    have e4 : (⟨(printC c).1.toArray⟩ : ByteArray) = T := by rw [hpr'.out]; exact eT'.out
    have e5 : (printC c).2 = 0 := by rw [hpr'.out]
    rw [e4, e5]
    have l7 := hb7.size
    have B7 := Lib.hid (B6.out.trans (hb7.mono (by omega)))
    have V7 := V6.out.later hb7
    have V7a := V6a.out.later hb7
    have bx7 := bx6'.out.below hb7 (by omega)
    have bx7a := bx6a.out.below hb7 (by omega)
    have D7 := Lib.hid (same_calls c _ _ c w7 V7a V7)
    have c7 := bx7.cell
    have c7a := bx7a.cell
    have lA : w2.heap.size < w7.heap.size := by omega
    have lB : w5.heap.size < w7.heap.size := by omega
    clear hb7 V7 V7a bx7 bx7a e4 e5 c6 D6
    go_wp2_with fail
    refine D7.out.mono ?_
    rintro e w8 ⟨b, rfl, hbe, hb8⟩
    obtain rfl : b = true := hbe.2 rfl
    have B8 := Lib.hid (B7.out.trans (hb8.mono (by omega)))
    clear hb8 hbe
    go_wp2_with fail
    go_ret
    exact ⟨rfl, B8.out⟩
  · obtain rfl := parse_bad hq her
    obtain ⟨Q, p3, c3, rfl⟩ := leaf_cells hC2
    have hB3 := Lib.hid (B2.out.trans (((Below.refl w2.heap.size w2).alloc (Nat.le_refl _) (.cells #[.int .i64 0, .int .i64 0, .string Q, .slice p3 0 c3] 25)).mono (by omega)))
    have eb : (er == 0) = false := beq_false_of_ne her
    clear hq hC2 hcw B2 S2
    go_wp2_with fail
    go_ret
    exact ⟨rfl, hB3.out⟩
end Go.Proofs.YtfhdecdlkmibmaaDoor
namespace Go.Proofs.YtfhdecdlkmibmaaDoor
open Go.RowKit
theorem deepT_len : ∀ k : Nat, (deepT k).length = 2 * k + 1
  | 0 => rfl
  | k + 1 => by
    show (40 :: deepT k ++ [41]).length = _
    rw [List.length_append, List.length_cons, deepT_len k]
    show _ + 1 = _
    omega
theorem deep_more (O : ByteArray) {k : Nat} (h : O.data.toList = deepT k) : ((⟨#[40]⟩ : ByteArray) ++ O ++ ⟨#[41]⟩).data.toList = deepT (k + 1) := by
  show _ = 40 :: deepT k ++ [41]
  rw [← h]
  simp
set_option maxHeartbeats 4000000 in
set_option maxRecDepth 100000 in
theorem deep_calls (n : Nat) (hn : n < 256) (w : World) (hS : Std w) : Calls Tryd.prog 5 #[.int .u8 n] w fun e w' => e = .returned (.bool true) ∧ Below w.heap.size w w' := by
  have F := Lib.hid (fixed_calls w hS)
  have hS' := Lib.hid hS
  obtain ⟨k, hk⟩ : ∃ k, n % 20 = k := ⟨_, rfl⟩
  have hk20 : k < 20 := by omega
  have hm1 : (n : Int) % 20 = (k : Int) := by omega
  have hm2 : Int.tmod (n : Int) 20 = (k : Int) := by rw [Int.tmod_eq_emod_of_nonneg (by omega)]; exact hm1
  clear hS hk
  go_enter Tryd.func5, Tryd.ntmps5
  go_wp2_with fail
  refine F.out.mono ?_
  rintro e w1 ⟨rfl, hb1⟩
  have B1 := Lib.hid hb1
  clear hb1
  go_wp2_with fail
  go_loopw [4, 14] (fun s i wr => ∃ (j : Nat) (O : ByteArray), j ≤ k ∧ i = .int .i64 j ∧ s = .string O ∧ O.data.toList = deepT j ∧ Below w.heap.size w wr) (fun _ i _ => k - (intOf i).toNat)
  case atStart => exact ⟨0, _, Nat.zero_le _, rfl, rfl, rfl, B1.out⟩
  case round =>
    obtain ⟨j, O, hj, rfl, rfl, hO, hB⟩ := hrel
    have hOs : O.size = 2 * j + 1 := by rw [Lib.size_eq, hO, deepT_len]
    have hO' := Lib.hid hO
    have hB' := Lib.hid hB
    clear hO
    by_cases hlt : j < k
    · clear hB
      go_wp2_with fail
      go_roundw
      case rel => exact ⟨j + 1, _, by omega, by go_num, rfl, deep_more O hO'.out, hB'.out⟩
      case measure => simp [intOf]; omega
    · obtain rfl : j = k := by omega
      have S1 := Lib.hid (hS'.out.next hB)
      have D1 := Lib.hid (parse_calls O wr S1.out.err (by omega))
      have lB := hB.size
      clear hB
      go_wp2_with fail
      refine D1.out.mono ?_
      rintro e w2 ⟨cs, rfl, hC2, hb2, -⟩
      rw [hO'.out] at hC2 ⊢
      have B2 := Lib.hid (hB'.out.trans (hb2.mono lB))
      have l2 := hb2.size
      by_cases h8 : j ≤ 8
      · rw [deep_ok j h8] at hC2 ⊢
        obtain ⟨Q, p3, c3, rfl⟩ := leaf_cells hC2
        have hB3 := Lib.hid (B2.out.trans (((Below.refl w2.heap.size w2).alloc (Nat.le_refl _) (.cells #[.int .i64 5, .int .i64 0, .string Q, .slice p3 0 c3] 25)).mono (by omega)))
        have bx3 := Blk.cell (Blk.new w2 25 #[.int .i64 5, .int .i64 0, .string Q, .slice p3 0 c3])
        clear hC2 hb2 D1
        go_wp2_with fail
        go_ret
        exact ⟨rfl, hB3.out⟩
      · rw [deep_bad j (by omega) hk20] at hC2 ⊢
        obtain ⟨Q, p3, c3, rfl⟩ := leaf_cells hC2
        have hB3 := Lib.hid (B2.out.trans (((Below.refl w2.heap.size w2).alloc (Nat.le_refl _) (.cells #[.int .i64 0, .int .i64 0, .string Q, .slice p3 0 c3] 25)).mono (by omega)))
        clear hC2 hb2 D1
        go_wp2_with fail
        go_ret
        exact ⟨rfl, hB3.out⟩
end Go.Proofs.YtfhdecdlkmibmaaDoor
namespace Go.Proofs.YtfhdecdlkmibmaaDoor
open Go.RowKit
/-- no text in it is longer than a string may be -/
inductive CT.fits : CT → Prop
  | mk {k n : Int} {s : List UInt8} {ps : List CT} (hs : s.length ≤ maxLen) (hp : ∀ p ∈ ps, CT.fits p) : CT.fits (.node k n s ps)
mutual
/-- what is left behind a condition -/
def fewC : CT → Int → Int
  | .node _ _ s ps, left => fewL ps (left - 1 - ((s.length / 100 : Nat) : Int))
def fewL : List CT → Int → Int
  | [], left => left
  | p :: ps, left => if left < 0 then left else fewL ps (fewC p left)
end
theorem fewL_nil (x : Int) : fewL [] x = x := by unfold fewL; rfl
theorem fewL_cons (p : CT) (ps : List CT) (x : Int) : fewL (p :: ps) x = if x < 0 then x else fewL ps (fewC p x) := by conv => lhs; unfold fewL
theorem fewC_eq (r : CT) (x : Int) : fewC r x = fewL r.parts (x - 1 - ((r.str.length / 100 : Nat) : Int)) := by cases r; unfold fewC; rfl
theorem div_max {n : Nat} (h : n ≤ maxLen) : n / 100 ≤ 92233720368547758 := by
  unfold maxLen at h
  omega
theorem CT.fits.str {r : CT} (h : r.fits) : r.str.length ≤ maxLen := by
  cases h with
  | mk hs _ => exact hs
theorem CT.fits.part {r p : CT} (h : r.fits) (hp : p ∈ r.parts) : p.fits := by
  cases h with
  | mk _ h => exact h p hp
/-- how far below it comes -/
theorem few_low (r : CT) (x : Int) (hf : r.fits) (hx : -100000000000000000 ≤ x) : -400000000000000000 ≤ fewC r x ∧ fewC r x ≤ x - 1 := by
  have h1 := div_max hf.str
  have hrec : ∀ p ∈ r.parts, ∀ y, 0 ≤ y → -400000000000000000 ≤ fewC p y ∧ fewC p y ≤ y - 1 := fun p hpm y hy => few_low p y (hf.part hpm) (by omega)
  have hL : ∀ (qs : List CT), (∀ p ∈ qs, p ∈ r.parts) → ∀ y, -400000000000000000 ≤ y → -400000000000000000 ≤ fewL qs y ∧ fewL qs y ≤ y := by
    intro qs
    induction qs with
    | nil => intro _ y hy; rw [fewL_nil]; exact ⟨hy, Int.le_refl _⟩
    | cons q qs ih =>
      intro hm y hy
      rw [fewL_cons]
      by_cases h0 : y < 0
      · rw [if_pos h0]; exact ⟨hy, Int.le_refl _⟩
      · rw [if_neg h0]
        obtain ⟨h3, h4⟩ := hrec q (hm q (by simp)) y (by omega)
        obtain ⟨h5, h6⟩ := ih (fun p hp => hm p (List.mem_cons_of_mem _ hp)) (fewC q y) h3
        exact ⟨h5, by omega⟩
  rw [fewC_eq]
  obtain ⟨h3, h4⟩ := hL r.parts (fun _ h => h) (x - 1 - ((r.str.length / 100 : Nat) : Int)) (by omega)
  exact ⟨h3, by omega⟩
termination_by SizeOf.sizeOf r
decreasing_by exact partc_lt hpm
/-- what is few weighs little -/
theorem few_cw (r : CT) (x : Int) (h : 0 ≤ fewC r x) : (r.cw : Int) ≤ 200 * (x - fewC r x) ∧ (8 : Int) + r.cw ≤ 200 * (x - fewC r x) := by
  have hrec : ∀ p ∈ r.parts, ∀ y, 0 ≤ fewC p y → (8 : Int) + p.cw ≤ 200 * (y - fewC p y) := fun p hpm y hy => (few_cw p y hy).2
  have hneg : ∀ (qs : List CT) y, y < 0 → fewL qs y < 0 := by
    intro qs y hy
    cases qs with
    | nil => rw [fewL_nil]; exact hy
    | cons q qs => rw [fewL_cons, if_pos hy]; exact hy
  have hL : ∀ (qs : List CT), (∀ p ∈ qs, p ∈ r.parts) → ∀ y, 0 ≤ fewL qs y → (cwL qs : Int) ≤ 200 * (y - fewL qs y) := by
    intro qs
    induction qs with
    | nil => intro _ y hy; rw [fewL_nil, cwL_nil]; omega
    | cons q qs ih =>
      intro hm y hy
      rw [fewL_cons] at hy ⊢
      by_cases h0 : y < 0
      · rw [if_pos h0] at hy; omega
      · rw [if_neg h0] at hy ⊢
        have h3 : 0 ≤ fewC q y := by
          by_cases h4 : fewC q y < 0
          · have := hneg qs _ h4; omega
          · omega
        have h5 := hrec q (hm q (by simp)) y h3
        have h6 := ih (fun p hp => hm p (List.mem_cons_of_mem _ hp)) (fewC q y) hy
        rw [cwL_cons]
        omega
  rw [fewC_eq] at h ⊢
  have h1 := hL r.parts (fun _ h => h) _ h
  rw [cw_node]
  constructor <;> omega
termination_by SizeOf.sizeOf r
decreasing_by exact partc_lt hpm
set_option maxHeartbeats 4000000 in
set_option maxRecDepth 100000 in
theorem few_step (r : CT) (hrec : ∀ q ∈ r.parts, ∀ (cs : List Value) (x : Int) (w : World), CV w cs q → q.fits → -100000000000000000 ≤ x → x ≤ 200 → Calls Tryd.prog 10 #[.agg cs.toArray, .int .i64 x] w fun e w' => e = .returned (.int .i64 (fewC q x)) ∧ Below w.heap.size w w')
    (cs : List Value) (x : Int) (w : World) (hR : CV w cs r) (hf : r.fits) (hx : -100000000000000000 ≤ x) (hx2 : x ≤ 200) : Calls Tryd.prog 10 #[.agg cs.toArray, .int .i64 x] w fun e w' => e = .returned (.int .i64 (fewC r x)) ∧ Below w.heap.size w w' := by
  obtain ⟨k, m, a, p, c, ds, rfl, hq, hrow, hlen, hp⟩ := hR.form
  have hmax := hrow.1
  unfold maxLen at hmax
  have hlow : ∀ q ∈ r.parts, ∀ y, 0 ≤ y → -400000000000000000 ≤ fewC q y ∧ fewC q y ≤ y - 1 := fun q hqm y hy => few_low q y (hf.part hqm) (by omega)
  have hfp : ∀ q ∈ r.parts, q.fits := fun q hqm => hf.part hqm
  have hss : r.str = a.data.toList := by rw [hq]; rfl
  have ha : a.size ≤ maxLen := by rw [Lib.size_eq, ← hss]; exact hf.str
  have hda := div_max ha
  obtain ⟨y, ey⟩ : ∃ y, x - 1 - ((a.size / 100 : Nat) : Int) = y := ⟨_, rfl⟩
  have hsm : fewC r x = fewL r.parts y := by rw [fewC_eq, ← ey, hss, Lib.size_eq]
  rw [hsm]
  have hy1 : -400000000000000000 ≤ y := by omega
  have hy2 : y ≤ 200 := by omega
  have bx := Blk.new w 25 #[.int .i64 k, .int .i64 m, .string a, .slice p r.parts.length c]
  have hb := (Below.refl w.heap.size w).alloc (Nat.le_refl _) (.cells #[.int .i64 k, .int .i64 m, .string a, .slice p r.parts.length c] 25)
  obtain ⟨W, eW⟩ : ∃ W, w.alloc (.cells #[.int .i64 k, .int .i64 m, .string a, .slice p r.parts.length c] 25) = W := ⟨_, rfl⟩
  have hzW : W.heap.size = w.heap.size + 1 := by rw [← eW]; simp
  rw [eW] at bx hb
  have bxc := bx.cell
  have hrec' := Lib.hid hrec
  have hrow' := Lib.hid hrow
  have hp' := Lib.hid hp
  have hlow' := Lib.hid hlow
  have hfp' := Lib.hid hfp
  have hb' := Lib.hid hb
  have haa : a.size ≤ 9223372036854775807 := ha
  generalize r.parts = ps at *
  generalize hn : ps.length = n at *
  have hn' := Lib.hid hn
  clear hrec hrow hp hlow hfp hb hn hsm hss hq ha hlen bx hR hf
  go_enter Tryd.func10, Tryd.ntmps10
  go_wp2_with fail
  go_loopw [1, 17] (fun l i wr => ∃ (j : Nat) (z : Int), j ≤ n ∧ i = .int .i64 j ∧ l = .int .i64 z ∧ fewL (ps.drop j) z = fewL ps y ∧ -400000000000000000 ≤ z ∧ z ≤ 200 ∧ Below w.heap.size w wr ∧ w.heap.size + 1 ≤ wr.heap.size) (fun _ i _ => n - (intOf i).toNat)
  case atStart => exact ⟨0, y, Nat.zero_le _, rfl, by first | rfl | (rw [← ey]; rfl) | skip, rfl, hy1, hy2, hb'.out, by omega⟩
  case round =>
    obtain ⟨j, z, hj, rfl, rfl, hsl, hz1, hz2, hB, hsz⟩ := hrel
    by_cases hlt : j < n
    · have hjl : j < ps.length := by rw [hn'.out]; exact hlt
      obtain ⟨q, hqq⟩ : ∃ q, ps[j]? = some q := ⟨_, List.getElem?_eq_getElem hjl⟩
      have hdr : ps.drop j = q :: ps.drop (j + 1) := by
        rw [List.drop_eq_getElem_cons hjl, (List.getElem?_eq_some_iff.1 hqq).2]
      obtain ⟨g, o, rfl, hc1, hcell⟩ := (hrow'.out.below hB).cell (by omega)
      obtain ⟨kq, mq, aq, pq, cq, Rq, -, lg, x0, x1, x2, x3⟩ := CV.part hcell hqq ((hp'.out j _ hqq).later hB)
      have hqm := List.mem_of_getElem? hqq
      rw [hdr, fewL_cons] at hsl
      obtain ⟨w3, e3⟩ : ∃ w3, wr.alloc (.cells #[.int .i64 kq, .int .i64 mq, .string aq, .slice pq q.parts.length cq] 25) = w3 := ⟨_, rfl⟩
      have hb3 := (Below.refl wr.heap.size wr).alloc (Nat.le_refl _) (.cells #[.int .i64 kq, .int .i64 mq, .string aq, .slice pq q.parts.length cq] 25)
      have bq3 := Blk.new wr 25 #[.int .i64 kq, .int .i64 mq, .string aq, .slice pq q.parts.length cq]
      have hz3 : w3.heap.size = wr.heap.size + 1 := by rw [← e3]; simp
      rw [e3] at hb3 bq3
      have B3 := hB.trans (hb3.mono (by omega))
      have c3 := bq3.cell
      have R3 := Rq.later hb3
      by_cases h0 : z < 0
      · rw [if_pos h0] at hsl
        have hsl' := Lib.hid hsl
        have B3' := Lib.hid B3
        clear hsl B3 hb3 bq3 hB Rq R3 hdr hcell
        go_wp2_with fail
        go_ret
        exact ⟨by rw [← hsl'.out]; rfl, B3'.out⟩
      · rw [if_neg h0] at hsl
        obtain ⟨l1, l2⟩ := hlow'.out q hqm z (by omega)
        have P := hrec'.out q hqm _ z w3 R3 (hfp'.out q hqm) (by omega) hz2
        have P' := Lib.hid P
        have hsl' := Lib.hid hsl
        have B3' := Lib.hid B3
        clear P hsl B3 hb3 bq3 hB Rq R3 hdr hcell hjl hqq hqm
        go_wp2_with fail
        refine P'.out.mono ?_
        rintro e w4 ⟨rfl, hb4⟩
        have l4 := hb4.size
        have B4 := B3'.out.trans (hb4.mono (by omega))
        have B4' := Lib.hid B4
        generalize fewC q z = z2 at *
        clear B4 hb4 c3 x0 x1 x2 x3
        go_wp2_with fail
        go_roundw
        case rel => exact ⟨j + 1, z2, by omega, by go_num, rfl, hsl'.out, l1, by omega, B4'.out, by omega⟩
        case measure => simp [intOf]; omega
    · obtain rfl : j = n := by omega
      rw [List.drop_eq_nil_of_le (by rw [hn'.out]; exact Nat.le_refl _), fewL_nil] at hsl
      have hsl' := Lib.hid hsl
      have hB' := Lib.hid hB
      clear hsl hB
      go_wp2_with fail
      go_ret
      exact ⟨by rw [← hsl'.out]; rfl, hB'.out⟩
theorem few_calls (r : CT) (cs : List Value) (x : Int) (w : World) (hR : CV w cs r) (hf : r.fits) (hx : -100000000000000000 ≤ x) (hx2 : x ≤ 200) : Calls Tryd.prog 10 #[.agg cs.toArray, .int .i64 x] w fun e w' => e = .returned (.int .i64 (fewC r x)) ∧ Below w.heap.size w w' :=
  few_step r (fun q _ cs x w hR hf hx hx2 => few_calls q cs x w hR hf hx hx2) cs x w hR hf hx hx2
termination_by SizeOf.sizeOf r
decreasing_by exact partc_lt (by assumption)
end Go.Proofs.YtfhdecdlkmibmaaDoor
namespace Go.Proofs.YtfhdecdlkmibmaaDoor
open Go.RowKit
theorem ext_at (s : ByteArray) (j : Nat) (h : j < s.size) : (s.extract j (j + 1)).data.toList = [s[j]] := by
  rw [Lib.extract_data, show j + 1 - j = 1 by omega, drop_at s j h]; rfl
theorem bdd (x y : ByteArray) : (x ++ y).data.toList = x.data.toList ++ y.data.toList := by simp
theorem widen_len (n : Nat) : ∀ (q : Bool) (l : List UInt8), (widen n q l).length ≤ (n + 1) * l.length
  | _, [] => Nat.zero_le _
  | q, c :: t => by
    have ih := widen_len n (if c = 39 then !q else q) t
    unfold widen
    have hI : ∀ P : Prop, [Decidable P] → (if P then List.replicate n (32 : UInt8) else []).length ≤ n := fun P _ => by
      by_cases h : P
      · rw [if_pos h, List.length_replicate]; exact Nat.le_refl _
      · rw [if_neg h]; exact Nat.zero_le _
    have h1 := hI (c = 32 ∧ (if c = 39 then !q else q) = false)
    rw [List.length_cons, List.length_append, List.length_cons, Nat.mul_add, Nat.mul_one]
    omega
/-- the text so far, ahead of a sign -/
structure BInv (K : Nat) (R : List UInt8) (s : ByteArray) (j : Nat) (q : Bool) (O : ByteArray) : Prop where
  eq : O.data.toList ++ widen K q (s.data.toList.drop j) = R
/-- the text so far, behind a blank and some more -/
structure BIn (K : Nat) (R : List UInt8) (s : ByteArray) (j k : Nat) (O : ByteArray) : Prop where
  eq : O.data.toList ++ (List.replicate (K - k) 32 ++ widen K false (s.data.toList.drop (j + 1))) = R
theorem BInv.size {K : Nat} {R : List UInt8} {s : ByteArray} {j : Nat} {q : Bool} {O : ByteArray} (h : BInv K R s j q O) (hR : R.length ≤ 24000) : O.size ≤ 24000 := by
  have := congrArg List.length h.eq
  rw [List.length_append, ← Lib.size_eq] at this
  omega
theorem BIn.size {K : Nat} {R : List UInt8} {s : ByteArray} {j k : Nat} {O : ByteArray} (h : BIn K R s j k O) (hR : R.length ≤ 24000) : O.size ≤ 24000 := by
  have := congrArg List.length h.eq
  rw [List.length_append, ← Lib.size_eq] at this
  omega
theorem widen_cons (n : Nat) (q : Bool) (c : UInt8) (t : List UInt8) : widen n q (c :: t) = c :: ((if c = 32 ∧ (if c = 39 then !q else q) = false then List.replicate n 32 else []) ++ widen n (if c = 39 then !q else q) t) := by conv => lhs; unfold widen
theorem BInv.quote {K : Nat} {R : List UInt8} {s : ByteArray} {j : Nat} {q : Bool} {O : ByteArray} (h : BInv K R s j q O) (hj : j < s.size) (hc : s[j] = 39) : BInv K R s (j + 1) (!q) (O ++ s.extract j (j + 1)) := by
  refine ⟨?_⟩
  have e := h.eq
  rw [drop_at s j hj, widen_cons, if_pos hc, if_neg (fun e => by rw [hc] at e; exact absurd e.1 (by decide)), List.nil_append] at e
  rw [bdd, ext_at s j hj, List.append_assoc]
  exact e
theorem BInv.char {K : Nat} {R : List UInt8} {s : ByteArray} {j : Nat} {q : Bool} {O : ByteArray} (h : BInv K R s j q O) (hj : j < s.size) (hc : s[j] ≠ 39) (hd : ¬ (s[j] = 32 ∧ q = false)) : BInv K R s (j + 1) q (O ++ s.extract j (j + 1)) := by
  refine ⟨?_⟩
  have e := h.eq
  rw [drop_at s j hj, widen_cons, if_neg hc, if_neg hd, List.nil_append] at e
  rw [bdd, ext_at s j hj, List.append_assoc]
  exact e
theorem BInv.blank {K : Nat} {R : List UInt8} {s : ByteArray} {j : Nat} {O : ByteArray} (h : BInv K R s j false O) (hj : j < s.size) (hc : s[j] = 32) : BIn K R s j 0 (O ++ s.extract j (j + 1)) := by
  refine ⟨?_⟩
  have e := h.eq
  have h9 : ¬ s[j] = 39 := by rw [hc]; decide
  rw [drop_at s j hj, widen_cons, if_neg h9, if_pos ⟨hc, rfl⟩] at e
  rw [bdd, ext_at s j hj, List.append_assoc]
  exact e
theorem BIn.more {K : Nat} {R : List UInt8} {s : ByteArray} {j k : Nat} {O : ByteArray} (h : BIn K R s j k O) (hk : k < K) : BIn K R s j (k + 1) (O ++ ⟨#[32]⟩) := by
  refine ⟨?_⟩
  have e := h.eq
  rw [show K - k = (K - (k + 1)) + 1 by omega, List.replicate_succ] at e
  rw [bdd, List.append_assoc]
  exact e
theorem BIn.done {K : Nat} {R : List UInt8} {s : ByteArray} {j k : Nat} {O : ByteArray} (h : BIn K R s j k O) (hk : ¬ k < K) : BInv K R s (j + 1) false O := by
  refine ⟨?_⟩
  have e := h.eq
  rw [show K - k = 0 by omega, List.replicate_zero, List.nil_append] at e
  exact e
theorem printC_len {c : CT} {t : List UInt8} (h : printC c = (t, 0)) : t.length ≤ 4096 := by
  unfold printC at h
  by_cases h1 : 256 < c.size
  · rw [if_pos h1] at h; cases h
  rw [if_neg h1] at h
  cases hp : printP c with
  | none => rw [hp] at h; cases h
  | some x =>
    rw [hp] at h
    by_cases h2 : 4096 < (textP x).length
    · simp only at h; rw [if_pos h2] at h; cases h
    · simp only at h
      rw [if_neg h2] at h
      cases h
      omega
theorem u8_at {s : ByteArray} {j : Nat} (hj : j < s.size) (n : Nat) (hn : n < 256) : s[j] = UInt8.ofNat n ↔ (s[j].toNat : Int) = (n : Int) := by
  constructor
  · intro e
    rw [e, UInt8.toNat_ofNat', Nat.mod_eq_of_lt (show n < 2 ^ 8 from hn)]
  · intro e
    apply UInt8.toNat_inj.1
    rw [UInt8.toNat_ofNat', Nat.mod_eq_of_lt (show n < 2 ^ 8 from hn)]
    omega
set_option maxHeartbeats 8000000 in
set_option maxRecDepth 100000 in
theorem blanks_calls (r : CT) (cs : List Value) (n : Nat) (hn : n < 256) (w : World) (hR : CV w cs r) (hf : r.fits) (hS : Std w) : Calls Tryd.prog 4 #[.agg cs.toArray, .int .u8 n] w fun e w' => e = .returned (.bool true) ∧ Below w.heap.size w w' := by
  obtain ⟨k, m, a, p, c, ds, rfl, -⟩ := hR.form
  have hb1 := (Below.refl w.heap.size w).alloc (Nat.le_refl _) (.cells #[.int .i64 k, .int .i64 m, .string a, .slice p r.parts.length c] 25)
  have bx1 := Blk.new w 25 #[.int .i64 k, .int .i64 m, .string a, .slice p r.parts.length c]
  obtain ⟨w1, e1⟩ : ∃ w1, w.alloc (.cells #[.int .i64 k, .int .i64 m, .string a, .slice p r.parts.length c] 25) = w1 := ⟨_, rfl⟩
  have hz1 : w1.heap.size = w.heap.size + 1 := by rw [← e1]; simp
  rw [e1] at hb1 bx1
  have S1 := Lib.hid (hS.next hb1)
  have V1 := Lib.hid (hR.later hb1)
  have F := Lib.hid (fixed_calls w1 S1.out)
  obtain ⟨K, hK⟩ : ∃ K, n % 5 = K := ⟨_, rfl⟩
  have hK5 : K < 5 := by omega
  have hm1 : (n : Int) % 5 = (K : Int) := by omega
  have hm2 : Int.tmod (n : Int) 5 = (K : Int) := by rw [Int.tmod_eq_emod_of_nonneg (by omega)]; exact hm1
  have B1 := Lib.hid hb1
  have X1 := Lib.hid bx1
  have hf' := Lib.hid hf
  have hS0 := Lib.hid hS
  have hR0 := Lib.hid hR
  clear hK hb1 bx1 hR hS hf
  go_enter Tryd.func4, Tryd.ntmps4
  go_wp2_with fail
  refine F.out.mono ?_
  rintro e w2 ⟨rfl, hb2⟩
  have l2 := hb2.size
  have B2 := Lib.hid (B1.out.trans (hb2.mono (by omega)))
  have X2 := Lib.hid (X1.out.below hb2 (by omega))
  have S2 := Lib.hid (S1.out.next hb2)
  have V2 := Lib.hid (V1.out.later hb2)
  have D2 := Lib.hid (few_calls r _ 100 w2 V2.out hf'.out (by omega) (by omega))
  have c2 := X2.out.cell
  obtain ⟨L, hL⟩ : ∃ L, fewC r 100 = L := ⟨_, rfl⟩
  have hlow := few_low r 100 hf'.out (by omega)
  rw [hL] at D2 hlow
  have hL' := Lib.hid hL
  clear hb2 F S1 V1 B1 X1 hL
  by_cases hL0 : L < 0
  · go_wp2_with fail
    refine D2.out.mono ?_
    rintro e w3 ⟨rfl, hb3⟩
    have B3 := Lib.hid (B2.out.trans (hb3.mono (by omega)))
    clear hb3
    go_wp2_with fail
    go_ret
    exact ⟨rfl, B3.out⟩
  have hcw : r.cw ≤ 20000 := by
    have h1 := hL'.out
    have := (few_cw r 100 (by omega)).1
    omega
  have hcw' := Lib.hid hcw
  clear hcw
  go_wp2_with fail
  refine D2.out.mono ?_
  rintro e w3 ⟨rfl, hb3⟩
  have l3 := hb3.size
  have B3 := Lib.hid (B2.out.trans (hb3.mono (by omega)))
  have X3 := Lib.hid (X2.out.below hb3 (by omega))
  have S3 := Lib.hid (S2.out.next hb3)
  have V3 := Lib.hid (V2.out.later hb3)
  have D3 := Lib.hid (print_calls r (by have := hcw'.out; omega) _ w3 V3.out S3.out.tb)
  have c3 := X3.out.cell
  clear hb3 D2 B2 X2 S2 V2 c2
  go_wp2_with fail
  refine D3.out.mono ?_
  rintro e w4 ⟨rfl, hb4⟩
  have l4 := hb4.size
  have B4 := Lib.hid (B3.out.trans (hb4.mono (by omega)))
  have X4 := Lib.hid (X3.out.below hb4 (by omega))
  have S4 := Lib.hid (S3.out.next hb4)
  have V4 := Lib.hid (V3.out.later hb4)
  generalize hq : printC r = q at *
  obtain ⟨t, er⟩ := q
  clear hb4 D3 B3 X3 S3 V3 c3
  by_cases her : ¬ er = 0
  · have eb : (er == 0) = false := beq_false_of_ne her
    clear hq
    go_wp2_with fail
    go_ret
    exact ⟨rfl, B4.out⟩
  obtain rfl : er = 0 := Classical.not_not.1 her
  have htl := printC_len hq
  obtain ⟨R, hRR⟩ : ∃ R, (32 : UInt8) :: widen K false t = R := ⟨_, rfl⟩
  have hRl : R.length ≤ 24000 := by
    have h1 := widen_len K false t
    have h2 : (K + 1) * t.length ≤ 5 * t.length := Nat.mul_le_mul_right _ (by omega)
    rw [← hRR, List.length_cons]
    omega
  have hlaw : R.length ≤ 4000 → parseC (R ++ [32]) = (r, 0, 0) := fun h => by
    rw [← hRR] at h ⊢
    exact blanks_law K hq h
  have hI0 : BInv K R ⟨t.toArray⟩ 0 false ⟨#[32]⟩ := ⟨hRR⟩
  have hsx : (⟨t.toArray⟩ : ByteArray).size ≤ 4096 := by rw [mk_size]; exact htl
  generalize (⟨t.toArray⟩ : ByteArray) = s at *
  have hI0' := Lib.hid hI0
  have hlaw' := Lib.hid hlaw
  clear hI0 hlaw hRR hq htl her
  go_wp2_with fail
  go_loopw [7, 8, 9] (fun ov qv iv wr => ∃ (j : Nat) (q : Bool) (O : ByteArray), j ≤ s.size ∧ iv = .int .i64 j ∧ qv = .bool q ∧ ov = .string O ∧ BInv K R s j q O ∧ Blk wr w.heap.size 25 #[.int .i64 k, .int .i64 m, .string a, .slice p r.parts.length c] ∧ Below w.heap.size w wr ∧ w.heap.size + 1 ≤ wr.heap.size) (fun _ _ i _ => s.size - (intOf i).toNat)
  case atStart => exact ⟨0, false, _, Nat.zero_le _, rfl, rfl, rfl, hI0'.out, X4.out, B4.out, by omega⟩
  case round =>
    obtain ⟨j, q, O, hj, rfl, rfl, rfl, hI, hX, hB, hz⟩ := hrel
    have hOs := hI.size hRl
    by_cases hlt : j < s.size
    · have h39 := u8_at hlt 39 (by decide)
      have h32 := u8_at hlt 32 (by decide)
      have hX' := Lib.hid hX
      have hB' := Lib.hid hB
      clear hX hB
      by_cases hc : s[j] = 39
      · have hci : (s[j].toNat : Int) = 39 := h39.1 hc
        have hne : ¬ (s[j].toNat : Int) = 32 := by omega
        have hI2 := Lib.hid (hI.quote hlt hc)
        clear hI hc h39 h32
        cases q
        all_goals
          go_wp2_with fail
          go_loopw [7, 10] (fun ov kv wr2 => ov = .string (O ++ s.extract j (j + 1)) ∧ kv = .int .i64 (0 : Nat) ∧ wr2 = wr) (fun _ _ _ => 0)
          case atStart => exact ⟨rfl, rfl, rfl⟩
          case round =>
            obtain ⟨rfl, rfl, rfl⟩ := hrel
            by_cases hK0 : 0 < K
            all_goals
              go_wp2_with fail
              go_roundw
              case rel => exact ⟨j + 1, _, _, by omega, by go_num, rfl, rfl, hI2.out, hX'.out, hB'.out, by omega⟩
              case measure => simp [intOf]; omega
      · have hci : ¬ (s[j].toNat : Int) = 39 := fun e => hc (h39.2 e)
        by_cases hd : s[j] = 32
        · have hdi : (s[j].toNat : Int) = 32 := h32.1 hd
          cases q
          · have hN := Lib.hid (hI.blank hlt hd)
            clear hI hc hd h39 h32
            go_wp2_with fail
            go_loopw [7, 10] (fun ov kv wr2 => ∃ (i : Nat) (O2 : ByteArray), i ≤ K ∧ kv = .int .i64 i ∧ ov = .string O2 ∧ BIn K R s j i O2 ∧ wr2 = wr) (fun _ i _ => K - (intOf i).toNat)
            case atStart => exact ⟨0, _, Nat.zero_le _, rfl, rfl, hN.out, rfl⟩
            case round =>
              obtain ⟨i, O2, hi, rfl, rfl, hI3, rfl⟩ := hrel
              have hO2 := hI3.size hRl
              by_cases hik : i < K
              · have hI4 := Lib.hid (hI3.more hik)
                clear hI3
                go_wp2_with fail
                go_roundw
                case rel => exact ⟨i + 1, _, by omega, by go_num, rfl, hI4.out, by trivial⟩
                case measure => simp [intOf]; omega
              · have hI4 := Lib.hid (hI3.done hik)
                clear hI3
                go_wp2_with fail
                go_roundw
                case rel => exact ⟨j + 1, false, _, by omega, by go_num, rfl, rfl, hI4.out, hX'.out, hB'.out, by omega⟩
                case measure => simp [intOf]; omega
          · have hI2 := Lib.hid (hI.char hlt hc (fun e => by cases e.2))
            clear hI hc hd h39 h32
            go_wp2_with fail
            go_loopw [7, 10] (fun ov kv wr2 => ov = .string (O ++ s.extract j (j + 1)) ∧ kv = .int .i64 (0 : Nat) ∧ wr2 = wr) (fun _ _ _ => 0)
            case atStart => exact ⟨rfl, rfl, rfl⟩
            case round =>
              obtain ⟨rfl, rfl, rfl⟩ := hrel
              by_cases hK0 : 0 < K
              all_goals
                go_wp2_with fail
                go_roundw
                case rel => exact ⟨j + 1, _, _, by omega, by go_num, rfl, rfl, hI2.out, hX'.out, hB'.out, by omega⟩
                case measure => simp [intOf]; omega
        · have hne : ¬ (s[j].toNat : Int) = 32 := fun e => hd (h32.2 e)
          have hI2 := Lib.hid (hI.char hlt hc (fun e => hd e.1))
          clear hI hc hd h39 h32
          cases q
          all_goals
            go_wp2_with fail
            go_loopw [7, 10] (fun ov kv wr2 => ov = .string (O ++ s.extract j (j + 1)) ∧ kv = .int .i64 (0 : Nat) ∧ wr2 = wr) (fun _ _ _ => 0)
            case atStart => exact ⟨rfl, rfl, rfl⟩
            case round =>
              obtain ⟨rfl, rfl, rfl⟩ := hrel
              by_cases hK0 : 0 < K
              all_goals
                go_wp2_with fail
                go_roundw
                case rel => exact ⟨j + 1, _, _, by omega, by go_num, rfl, rfl, hI2.out, hX'.out, hB'.out, by omega⟩
                case measure => simp [intOf]; omega
    · obtain rfl : j = s.size := by omega
      have hO : O.data.toList = R := by
        have e := hI.eq
        rw [List.drop_eq_nil_of_le (by rw [Lib.size_eq]; exact Nat.le_refl _)] at e
        rw [← e]
        show _ = O.data.toList ++ []
        rw [List.append_nil]
      have hOl : O.size = R.length := by rw [Lib.size_eq, hO]
      have hB5 := Lib.hid hB
      have hX5 := Lib.hid hX
      have hO' := Lib.hid hO
      clear hI hO hX hB
      by_cases hlong : 4000 < O.size
      · go_wp2_with fail
        go_ret
        exact ⟨rfl, hB5.out⟩
      have hpar : parseC (O ++ ⟨#[32]⟩ : ByteArray).data.toList = (r, 0, 0) := by
        rw [bdd, hO'.out]
        exact hlaw'.out (by omega)
      have hpar' := Lib.hid hpar
      clear hpar
      have lx5 := hX5.out.lt
      have c5 := hX5.out.cell
      have hsz5 : (O ++ ⟨#[32]⟩ : ByteArray).size = O.size + 1 := by rw [ByteArray.size_append]; rfl
      have D5 := Lib.hid (parse_calls (O ++ ⟨#[32]⟩) wr (hS0.out.next hB5.out).err (by omega))
      clear c5
      go_wp2_with fail
      refine D5.out.mono ?_
      rintro e w6 ⟨cs6, rfl, hC6, hb6, -⟩
      rw [hpar'.out] at hC6 ⊢
      have hC6 : CAt (fun j => wr.heap.size ≤ j) w6 cs6 r := hC6
      have l6 := hb6.size
      have hszc := size_cw r
      have V6 : CV w6 cs6 r := CV.of (r := r) hC6 (by have := hcw'.out; omega)
      obtain ⟨k2, m2, a2, pp2, cc2, ds2, rfl, -⟩ := V6.form
      have hb7 := (Below.refl w6.heap.size w6).alloc (Nat.le_refl _) (.cells #[.int .i64 k2, .int .i64 m2, .string a2, .slice pp2 r.parts.length cc2] 25)
      have bx7 := Blk.new w6 25 #[.int .i64 k2, .int .i64 m2, .string a2, .slice pp2 r.parts.length cc2]
      obtain ⟨w7, e7⟩ : ∃ w7, w6.alloc (.cells #[.int .i64 k2, .int .i64 m2, .string a2, .slice pp2 r.parts.length cc2] 25) = w7 := ⟨_, rfl⟩
      have hz7 : w7.heap.size = w6.heap.size + 1 := by rw [← e7]; simp
      rw [e7] at hb7 bx7
      have b7 := hb6.trans (hb7.mono l6)
      have B7 := Lib.hid (hB5.out.trans (b7.mono (by omega)))
      have V7 := V6.later hb7
      have V7a := hR0.out.later B7.out
      have bx7a := hX5.out.below b7 lx5
      have c7 := bx7.cell
      have c7a := bx7a.cell
      have lA : w.heap.size < w7.heap.size := by omega
      have lB : w6.heap.size < w7.heap.size := by omega
      have D7 := Lib.hid (same_calls r _ _ r w7 V7a V7)
      clear hb7 bx7 b7 V7 V7a bx7a V6 hC6 hb6 D5
      go_wp2_with fail
      refine D7.out.mono ?_
      rintro e w8 ⟨b, rfl, hbe, hb8⟩
      obtain rfl : b = true := hbe.2 rfl
      have B8 := Lib.hid (B7.out.trans (hb8.mono (by omega)))
      clear hb8 hbe
      go_wp2_with fail
      go_ret
      exact ⟨rfl, B8.out⟩
end Go.Proofs.YtfhdecdlkmibmaaDoor
namespace Go.Proofs.YtfhdecdlkmibmaaDoor
open Go.ChangeShapes Go.WideShapes Go.ChangeAt Go.RowKit Go.Deep
section
variable {H : Type} {enc : TypeId × Value → H} {P : Program}
theorem post_of_below {f : Func} {s : ChangeSpec} {apart fresh handsOn again : Bool} {W W' : World} {args : Array Value} {v : Value} {ds gs : List (DataW H)} {before pa pv : List MemPlace}
    (hW : DataW.Whole enc P f.params.toList s.vars apart W args.toList ds gs before)
    (hres : ∀ (b : Nat) (sp : Nat → Bool) (hd : Bool), DataW.TrodAll enc P W' b sp hd f.resultTypes.toList (v.resultList f.resultTypes.size) (s.fn H (ds ++ gs)).results [])
    (hargs : ∀ sp : Nat → Bool, (∀ p ∈ before, sp p.block = true) → DataW.TrodAll enc P W' 0 sp true f.params.toList args.toList (s.fn H (ds ++ gs)).args pa)
    (hvars : ∀ sp : Nat → Bool, (∀ p ∈ before, sp p.block = true) → DataW.TrodVars enc P W' sp s.vars (s.fn H (ds ++ gs)).vars pv)
    (hps : before = pa ++ pv) (hb : Below W.heap.size W W')
    (hok : ∀ (j : Nat) (t : TypeId) (r : Value), f.resultTypes[j]? = some t → (v.resultList f.resultTypes.size)[j]? = some r → Value.okWide P W' .any 0 t r) :
    s.post enc P f apart fresh handsOn again W args v W' := by
  have hlt : ∀ p ∈ before, p.block < W.heap.size := fun p hp => hW.lt p hp
  have hold : ∀ p ∈ before, (fun b => decide (b < W.heap.size)) p.block = true := fun p hp => by simpa using hlt p hp
  refine ⟨ds, gs, before, [], pa, pv, hW, hres _ _ _, hargs _ hold, hvars _ hold, World.keptBut_mono (fun p hp => ⟨hp, ?_⟩) (hb.frame (· ∈ before)), fun _ => ?_⟩
  · rw [hps, List.mem_append] at hp
    exact Or.inr hp
  · obtain ⟨_, _, _, _, _, hz, hn⟩ := hW
    refine ⟨hok, _, _, ([] ++ pa) ++ pv, ⟨[] ++ pa, pv, trodAll_append (hargs _ (fun _ _ => rfl)) (hres _ _ _), hvars _ (fun _ _ => rfl), rfl, ?_, ?_⟩, ?_⟩
    · intro b off hp
      have hin : MemPlace.cell b off ∈ before := by rw [hps]; simpa using hp
      rw [hb.frozen (hlt _ hin)]
      exact hz b off hin
    · intro ha
      have := hn ha
      rw [hps] at this
      simpa using this
    · intro p hp _
      rw [hps]
      simpa using hp
end
theorem own : ownKnob Tryd.prog.godebug = none := by kernel_rfl
open Go.ChangeMaps (open_string shut_string)
def layCells (cs : Array Value) : Obj → Obj
  | .cells _ t frozen => .cells cs t frozen
  | o => o
def litCell : DataW Unit → Value
  | .lit (.int k z) => .int k z
  | _ => .int .u8 0
def litCells : DataW Unit → Array Value
  | .agg ps => (ps.map litCell).toArray
  | _ => #[]
abbrev synS : ByteArray := { data := #[105, 110, 118, 97, 108, 105, 100, 32, 115, 121, 110, 116, 97, 120] }
abbrev rngS : ByteArray := { data := #[118, 97, 108, 117, 101, 32, 111, 117, 116, 32, 111, 102, 32, 114, 97, 110, 103, 101] }
/-- so many blocks has the settled world -/
noncomputable def lowB : Nat := (World.holding Tryd.prog default ⟨#[], #[], []⟩).heap.size
/-- a world in which the three tables and the two errors of the library hold what their initialisers lay -/
noncomputable def laidWorld (os : Os) : World :=
  { World.holding Tryd.prog os ⟨#[.cells #[.string rngS] 117, .cells #[.string synS] 117], #[], []⟩ with heap := (((((World.holding Tryd.prog os ⟨#[.cells #[.string rngS] 117, .cells #[.string synS] 117], #[], []⟩).heap.modify 2 (layCells (litCells Rows.laid_math_bits_deBruijn32tab))).modify 3 (layCells (litCells Rows.laid_math_bits_deBruijn64tab))).modify 1 (layCells (litCells Rows.laid_internal_strconv_uint64pow10))).modify 5 (layCells #[.iface 115 (.pointer (some ⟨lowB, 0, none⟩))])).modify 4 (layCells #[.iface 115 (.pointer (some ⟨lowB + 1, 0, none⟩))]) }
abbrev laidList : List (String × DataW Unit) := [("math/bits.deBruijn32tab", Rows.laid_math_bits_deBruijn32tab), ("math/bits.deBruijn64tab", Rows.laid_math_bits_deBruijn64tab), ("internal/strconv.uint64pow10", Rows.laid_internal_strconv_uint64pow10), ("strconv.ErrRange", Rows.laid_strconv_ErrRange), ("strconv.ErrSyntax", Rows.laid_strconv_ErrSyntax)]
theorem pow10_is : (Rows.laid_internal_strconv_uint64pow10 : DataW Unit) = Lib.tabData .u64 Lib.pow10Tab := by
  simp [Rows.laid_internal_strconv_uint64pow10, Lib.tabData, Lib.pow10Tab, List.range_succ]
theorem tb_of_laid {W : World} (h : laidMet Tryd.prog laidList W) : Tb W.heap.size W := by
  have h3 := h.tail.tail
  rw [pow10_is] at h3
  exact Lib.tabBelow_of_tabIs (Lib.tabIs_of_head (g := 1) (by kernel_rfl) (by kernel_rfl) Tryd.underlying88 Tryd.underlying79 (by kernel_rfl) (by kernel_rfl) h3)
theorem starE : "*" ++ "errors.errorString" = "*errors.errorString" := by decide
theorem rowE (u : TypeId) (h : Tryd.prog.typeName? 3 u = some "*errors.errorString") : u = 115 :=
  typeName_ptr_named (nm := "errors.errorString") (by rw [starE]; kernel_rfl) (by kernel_rfl) (by decide) u (by rw [starE]; exact h)
theorem gER : Tryd.prog.globalNamed "strconv.ErrRange" = some 5 := by kernel_rfl
theorem err_of_laid {W : World} (h : laidMet Tryd.prog laidList W) : ErrAt W := by
  obtain ⟨a, s, hv, -, -, -⟩ := laid_sentinel h.tail.tail.tail gER (by kernel_rfl) Tryd.underlying59 rowE Tryd.underlying115 Tryd.underlying117 rfl rfl Tryd.underlying9 (by kernel_rfl) (by kernel_rfl)
  have h0 := World.var?_cell gER hv 0
  exact ⟨_, by simpa using h0, .inr ⟨_, _, rfl⟩⟩
theorem std_of_laid {W : World} (h : laidMet Tryd.prog laidList W) : Std W := ⟨err_of_laid h, tb_of_laid h⟩
theorem u8_nat {n : Int} (h : (Lit.int .u8 n).wf = true) : ∃ m : Nat, n = (m : Int) ∧ m < 256 := by
  simp only [Lit.wf, Bool.and_eq_true, decide_eq_true_eq] at h
  obtain ⟨h1, h2⟩ := h
  have e1 : IntKind.u8.min = 0 := by decide
  have e2 : IntKind.u8.max = 255 := by decide
  rw [e1] at h1
  rw [e2] at h2
  exact ⟨n.toNat, by omega, by omega⟩
theorem laid_again (os : Os) (args : Array Value) : laidMet Tryd.prog laidList ((laidWorld os).forCall (fun _ _ => 0) ⟨#[], args, []⟩).memory :=
  laidMet_of_run' 8 (by kernel_rfl) (by kernel_rfl)
end Go.Proofs.YtfhdecdlkmibmaaDoor
