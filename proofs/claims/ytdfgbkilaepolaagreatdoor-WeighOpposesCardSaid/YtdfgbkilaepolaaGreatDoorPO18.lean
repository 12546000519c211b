/- Conditions: what is parsed weighs little; Parse, Print, Few. A condition and its Not: kinds, values, what is written. No program in sight. -/
import Derived.Test.YtdfgbkilaepolaaGreatDoorPO15
import Derived.Test.YtdfgbkilaepolaaGreatDoorPO17
import Derived.Deep.Strs
import Derived.Deep.Slices
import Derived.Test.YtdfgbkilaepolaaGreatDoorPW02
namespace Go.Proofs.YtdfgbkilaepolaaGreatDoor
/-- what a reading costs -/
def CWt (G : Toks → Res) : Prop := ∀ l c m, G l = .ok (c, m) → c.cw + 8 + 80 * m.length + W m ≤ 80 * l.length + W l
theorem W_tail {l : Toks} {s : List UInt8} (h : isT l s = true) : 80 * l.tail.length + W l.tail + 80 ≤ 80 * l.length + W l := by
  obtain ⟨t, r, rfl, _⟩ := isT_text h
  show 80 * r.length + W r + 80 ≤ 80 * (r.length + 1) + (wt t + W r)
  omega
theorem cw_leaf (k n : Int) (s : List UInt8) : (leaf k n s).cw = 32 + s.length := by
  rw [cw_node]
  show 32 + s.length + cwL [] = _
  rw [cwL_nil]; rfl
theorem cw_pair (k : Int) (a b : CT) : (pairC k a b).cw = a.cw + b.cw + 48 := by
  rw [cw_node]
  show 32 + 0 + cwL [a, b] = _
  rw [cwL_cons, cwL_cons, cwL_nil]; omega
theorem cw_not (a : CT) : (notC a).cw = a.cw + 40 := by
  rw [cw_node]
  show 32 + 0 + cwL [a] = _
  rw [cwL_cons, cwL_nil]; omega
theorem wt_ge (t : Tok) : t.text.length ≤ wt t := by
  by_cases h5 : t.sort = 5
  · rw [wt_quo h5]; omega
  · rw [wt_text h5]; exact Nat.le_refl _
theorem unit_cw {sub : Option (Toks → Res)} (hs : ∀ G, sub = some G → CWt G) : CWt (gUnit sub) := by
  intro l c m h
  match l with
  | [] => cases h
  | t :: r =>
    have hw := wt_ge t
    have hl : 80 * (t :: r).length + W (t :: r) = 80 * r.length + W r + 80 + wt t := by
      show 80 * (r.length + 1) + (wt t + W r) = _
      omega
    unfold gUnit at h
    simp only at h
    split at h
    · split at h
      · cases h; rw [cw_leaf]; simp only [List.length_nil]; omega
      · cases h
    split at h
    · cases h; rw [cw_leaf]; omega
    split at h
    · split at h
      · cases h
        rw [cw_leaf]
        have : 80 * r.tail.length + W r.tail ≤ 80 * r.length + W r := by
          cases r with
          | nil => exact Nat.le_refl _
          | cons a r =>
            show 80 * r.length + W r ≤ 80 * (r.length + 1) + (wt a + W r)
            omega
        simp only [List.length_nil]; omega
      · cases h
    split at h
    · cases h; rw [cw_leaf]; simp only [List.length_nil]; omega
    split at h
    · cases h; rw [cw_leaf]; simp only [List.length_nil]; omega
    split at h
    · cases h; rw [cw_leaf]; omega
    cases sub with
    | none => cases h
    | some G =>
      simp only at h
      split at h
      · cases hg : G r with
        | error e => rw [hg] at h; cases h
        | ok q =>
          obtain ⟨c2, m2⟩ := q
          rw [hg] at h
          simp only at h
          split at h
          · rename_i hcl
            cases h
            have h1 := hs G rfl r c m2 hg
            have h2 := W_tail hcl
            omega
          · cases h
      · cases h
theorem timesL_cw {U : Toks → Res} (hU : CWt U) : ∀ (f : Nat) (a : CT) (l : Toks) (c : CT) (m : Toks), timesL U f a l = .ok (c, m) → c.cw + 80 * m.length + W m ≤ a.cw + 80 * l.length + W l
  | 0, a, l, c, m, h => by cases h; exact Nat.le_refl _
  | f + 1, a, l, c, m, h => by
    unfold timesL at h
    split at h
    · rename_i ht
      cases hg : U l.tail with
      | error e => rw [hg] at h; cases h
      | ok q =>
        obtain ⟨b, m2⟩ := q
        rw [hg] at h
        simp only at h
        have h1 := timesL_cw hU f _ _ _ _ h
        have h2 := hU _ _ _ hg
        have h3 := W_tail ht
        rw [cw_pair] at h1
        omega
    · cases h; exact Nat.le_refl _
theorem times_cw {U : Toks → Res} (hU : CWt U) : CWt (gTimes U) := by
  intro l c m h
  unfold gTimes at h
  cases hg : U l with
  | error e => rw [hg] at h; cases h
  | ok q =>
    obtain ⟨a, m1⟩ := q
    rw [hg] at h
    have h1 := hU _ _ _ hg
    have h2 := timesL_cw hU _ _ _ _ _ h
    omega
theorem sumL_cw {U : Toks → Res} (hU : CWt U) : ∀ (f : Nat) (a : CT) (l : Toks) (c : CT) (m : Toks), sumL U f a l = .ok (c, m) → c.cw + 80 * m.length + W m ≤ a.cw + 80 * l.length + W l
  | 0, a, l, c, m, h => by cases h; exact Nat.le_refl _
  | f + 1, a, l, c, m, h => by
    unfold sumL at h
    split at h
    · rename_i ht
      cases hg : U l.tail with
      | error e => rw [hg] at h; cases h
      | ok q =>
        obtain ⟨b, m2⟩ := q
        rw [hg] at h
        simp only at h
        have h1 := sumL_cw hU f _ _ _ _ h
        have h2 := hU _ _ _ hg
        have h3 := W_tail ht
        rw [cw_pair] at h1
        omega
    split at h
    · rename_i ht
      cases hg : U l.tail with
      | error e => rw [hg] at h; cases h
      | ok q =>
        obtain ⟨b, m2⟩ := q
        rw [hg] at h
        simp only at h
        have h1 := sumL_cw hU f _ _ _ _ h
        have h2 := hU _ _ _ hg
        have h3 := W_tail ht
        rw [cw_pair] at h1
        omega
    · cases h; exact Nat.le_refl _
theorem sum_cw {U : Toks → Res} (hU : CWt U) : CWt (gSum U) := by
  intro l c m h
  unfold gSum at h
  cases hg : U l with
  | error e => rw [hg] at h; cases h
  | ok q =>
    obtain ⟨a, m1⟩ := q
    rw [hg] at h
    have h1 := hU _ _ _ hg
    have h2 := sumL_cw hU _ _ _ _ _ h
    omega
theorem inLp_cw {U : Toks → Res} (hU : CWt U) : ∀ (f : Nat) (acc : List CT) (l : Toks) (ps : List CT) (m : Toks), inLp U f acc l = .ok (ps, m) → cwL ps + 80 * m.length + W m ≤ cwL acc + 80 * l.length + W l
  | 0, acc, l, ps, m, h => by cases h; exact Nat.le_refl _
  | f + 1, acc, l, ps, m, h => by
    unfold inLp at h
    cases hg : U l with
    | error e => rw [hg] at h; cases h
    | ok q =>
      obtain ⟨b, m2⟩ := q
      rw [hg] at h
      simp only at h
      have h2 := hU _ _ _ hg
      have e : cwL (acc ++ [b]) = cwL acc + (b.cw + 8) := by
        have : ∀ x : List CT, cwL (x ++ [b]) = cwL x + (b.cw + 8) := by
          intro x
          induction x with
          | nil => rw [List.nil_append, cwL_cons, cwL_nil]; omega
          | cons y x ih => rw [List.cons_append, cwL_cons, cwL_cons, ih]; omega
        exact this acc
      split at h
      · rename_i ht
        have h1 := inLp_cw hU f _ _ _ _ h
        have h3 := W_tail ht
        omega
      · cases h; omega
theorem heldB_cw {U : Toks → Res} (hU : CWt U) {l : Toks} {f : CT → CT} {c : CT} {m : Toks} {x : Nat} (hf : ∀ b, (f b).cw ≤ x + b.cw) (h : heldB U l f = .ok (c, m)) : c.cw + 8 + 80 * m.length + W m ≤ x + 80 * l.length + W l := by
  unfold heldB at h
  cases hg : U l with
  | error e => rw [hg] at h; cases h
  | ok q =>
    obtain ⟨b, m1⟩ := q
    rw [hg] at h
    cases h
    have h1 := hU _ _ _ hg
    have h2 := hf b
    omega
theorem held_cw {U : Toks → Res} (hU : CWt U) : CWt (gHeld U) := by
  intro l c m h
  unfold gHeld at h
  cases hg : U l with
  | error e => rw [hg] at h; cases h
  | ok q =>
    obtain ⟨a, m1⟩ := q
    rw [hg] at h
    have h1 := hU _ _ _ hg
    simp only at h
    split at h
    · rename_i ht
      have h2 := W_tail ht
      have h3 := heldB_cw hU (x := a.cw + 48) (fun b => by rw [cw_pair]; omega) h
      omega
    split at h
    · rename_i ht
      have h2 := W_tail ht
      have h3 := heldB_cw hU (x := a.cw + 88) (fun b => by rw [cw_not, cw_pair]; omega) h
      omega
    split at h
    · rename_i ht
      have h2 := W_tail ht
      have h3 := heldB_cw hU (x := a.cw + 48) (fun b => by rw [cw_pair]; omega) h
      omega
    split at h
    · rename_i ht
      have h2 := W_tail ht
      have h3 := heldB_cw hU (x := a.cw + 48) (fun b => by rw [cw_pair]; omega) h
      omega
    split at h
    · rename_i ht
      have h2 := W_tail ht
      have h3 := heldB_cw hU (x := a.cw + 48) (fun b => by rw [cw_pair]; omega) h
      omega
    split at h
    · rename_i ht
      have h2 := W_tail ht
      have h3 := heldB_cw hU (x := a.cw + 48) (fun b => by rw [cw_pair]; omega) h
      omega
    split at h
    · rename_i ht
      have h2 := W_tail ht
      split at h
      · rename_i ht2
        have h3 := W_tail ht2
        cases hi : inLp U (m1.length + 1) [a] m1.tail.tail with
        | error e => rw [hi] at h; cases h
        | ok q =>
          obtain ⟨ps, q⟩ := q
          rw [hi] at h
          simp only at h
          have h4 := inLp_cw hU _ _ _ _ _ hi
          rw [cwL_cons, cwL_nil] at h4
          split at h
          · rename_i ht3
            have h5 := W_tail ht3
            cases h
            rw [cw_node]
            show 32 + 0 + cwL ps + 8 + _ + _ ≤ _
            omega
          · cases h
      · cases h
    · cases h; exact h1
theorem no_cw {H : Toks → Res} (hU : CWt H) : ∀ f, CWt (gNo H f)
  | 0 => hU
  | f + 1 => by
    intro l c m h
    unfold gNo at h
    split at h
    · rename_i ht
      cases hg : gNo H f l.tail with
      | error e => rw [hg] at h; cases h
      | ok q =>
        obtain ⟨b, m1⟩ := q
        rw [hg] at h
        cases h
        have h1 := no_cw hU f _ _ _ hg
        have h2 := W_tail ht
        rw [cw_not]; omega
    · exact hU _ _ _ h
theorem cwL_flat (k : Int) (c : CT) : cwL (flatC k c) ≤ c.cw + 8 := by
  unfold flatC
  split
  · have := cw_node c; omega
  · rw [cwL_cons, cwL_nil]; omega
theorem cwL_app2 : ∀ a b : List CT, cwL (a ++ b) = cwL a + cwL b
  | [], b => by rw [cwL_nil, List.nil_append, Nat.zero_add]
  | c :: a, b => by rw [List.cons_append, cwL_cons, cwL_cons, cwL_app2 a b]; omega
theorem rowL_cw {G : Toks → Res} (hU : CWt G) {w : List UInt8} {k : Int} : ∀ (f : Nat) (acc : List CT) (l : Toks) (c : CT) (m : Toks), rowL G w k f acc l = .ok (c, m) → c.cw + 80 * m.length + W m ≤ 32 + cwL acc + 80 * l.length + W l
  | 0, acc, l, c, m, h => by
    cases h
    rw [cw_node]
    show 32 + 0 + cwL acc + _ + _ ≤ _
    omega
  | f + 1, acc, l, c, m, h => by
    unfold rowL at h
    split at h
    · rename_i ht
      cases hg : G l.tail with
      | error e => rw [hg] at h; cases h
      | ok q =>
        obtain ⟨b, m2⟩ := q
        rw [hg] at h
        simp only at h
        have h1 := rowL_cw hU f _ _ _ _ h
        have h2 := hU _ _ _ hg
        have h3 := W_tail ht
        have h4 := cwL_flat k b
        rw [cwL_app2] at h1
        omega
    · cases h
      rw [cw_node]
      show 32 + 0 + cwL acc + _ + _ ≤ _
      omega
theorem rowL_cw1 {G : Toks → Res} (hU : CWt G) {w : List UInt8} {k : Int} {n : Nat} {acc : List CT} {l : Toks} {c : CT} {m : Toks} (ht : isT l w = true) (h : rowL G w k (n + 1) acc l = .ok (c, m)) : c.cw + 80 * m.length + W m + 80 ≤ 40 + cwL acc + 80 * l.length + W l := by
  unfold rowL at h
  rw [if_pos ht] at h
  cases hg : G l.tail with
  | error e => rw [hg] at h; cases h
  | ok q =>
    obtain ⟨b, m2⟩ := q
    rw [hg] at h
    simp only at h
    have h1 := rowL_cw hU _ _ _ _ _ h
    have h2 := hU _ _ _ hg
    have h3 := W_tail ht
    have h4 := cwL_flat k b
    rw [cwL_app2] at h1
    omega
theorem row_cw {G : Toks → Res} (hU : CWt G) {w : List UInt8} {k : Int} : CWt (gRow G w k) := by
  intro l c m h
  unfold gRow at h
  cases hg : G l with
  | error e => rw [hg] at h; cases h
  | ok q =>
    obtain ⟨b, m1⟩ := q
    rw [hg] at h
    have h1 := hU _ _ _ hg
    simp only at h
    split at h
    · rename_i hw
      have h2 := rowL_cw1 hU (isW_T hw) h
      have h4 := cwL_flat k b
      omega
    · cases h; exact h1
theorem condOf_cw {U : Toks → Res} (hU : CWt U) : CWt (gCondOf U) := row_cw (row_cw fun l c m h => no_cw (held_cw (sum_cw (times_cw hU))) l.length l c m h)
theorem unitD_cw : ∀ d, CWt (gUnitD d)
  | 0 => unit_cw (fun G h => by cases h)
  | d + 1 => unit_cw (fun G h => by obtain rfl := Option.some.inj h; exact condOf_cw (unitD_cw d))
theorem cond_cw (d : Nat) : CWt (gCond d) := condOf_cw (unitD_cw d)
theorem size_cw (r : CT) : r.size ≤ r.cw := by
  have h1 := size_node r
  have h2 := cw_node r
  have hL : ∀ ps : List CT, (∀ p ∈ ps, p.size ≤ p.cw) → sizeLc ps ≤ cwL ps := by
    intro ps
    induction ps with
    | nil => intro _; rw [sizeL_nil]; exact Nat.zero_le _
    | cons p ps ih =>
      intro h
      rw [sizeL_cons, cwL_cons]
      have := h p (by simp)
      have := ih fun q hq => h q (List.mem_cons_of_mem _ hq)
      omega
  have := hL r.parts fun p hp => size_cw p
  omega
termination_by SizeOf.sizeOf r
decreasing_by exact partc_lt hp
/-- what a text says weighs no more than that -/
theorem parse_cw {s : List UInt8} {c : CT} {m : Toks} (hs : s.length ≤ 4096) (h : gCond 8 (lex 0 s) = .ok (c, m)) : c.cw ≤ 400000 := by
  have h1 := cond_cw 8 _ _ _ h
  have h2 := lex_len 0 s
  have h3 := (lexF_facts _ 0 s (Nat.lt_succ_self _)).2
  have h4 : W (lex 0 s) ≤ s.length := h3
  omega
end Go.Proofs.YtdfgbkilaepolaaGreatDoor
namespace Go.Proofs.YtdfgbkilaepolaaGreatDoor
open Go.RowKit
/-- what Parse leaves -/
def ParsePost (s : ByteArray) (w : World) (e : Ending) (w' : World) : Prop :=
  ∃ cs, e = .returned (.tuple #[.agg cs.toArray, .int .i64 (parseC s.data.toList).2.1, .int .i64 (parseC s.data.toList).2.2]) ∧ CAt (fun j => w.heap.size ≤ j) w' cs (parseC s.data.toList).1 ∧ Below w.heap.size w w' ∧ (parseC s.data.toList).1.cw ≤ 400000
theorem zero_cw : (leaf 0 0 []).cw ≤ 400000 := by rw [cw_leaf]; decide
theorem parse_eq {s : List UInt8} (hs : s.length ≤ 4096) : parseC s = (match gCond 8 (lex 0 s) with
    | .error e => (leaf 0 0 [], e, 9)
    | .ok (c, l) => match l with
      | t :: _ => if t.sort = 1 then (if 256 < c.size then (leaf 0 0 [], 0, 10) else (c, 0, 0)) else (leaf 0 0 [], t.pos, 9)
      | [] => (leaf 0 0 [], 0, 9)) := by
  unfold parseC
  rw [if_neg (by omega)]
  cases gCond 8 (lex 0 s) with
  | error e => rfl
  | ok q =>
    obtain ⟨c, l⟩ := q
    cases l <;> rfl
set_option maxHeartbeats 8000000 in
set_option maxRecDepth 100000 in
theorem parse_calls (s : ByteArray) (w : World) (hE : ErrAt w) (hsm : s.size ≤ 1000000000) : Calls Tryz.prog 72 #[.string s] w (ParsePost s w) := by
  have h5 : 5 < w.heap.size := by
    obtain ⟨ev, h1, _⟩ := hE
    exact World.block_lt_of_cell? w _ h1
  by_cases hlong : 4096 < s.size
  · have hP : Hid (parseC s.data.toList = (leaf 0 0 [], 0, 10)) := Lib.hid (by unfold parseC; rw [if_pos (by rw [← Lib.size_eq]; exact hlong)])
    have hi : (4096 : Int) < (s.size : Int) := by omega
    have hd : decide ((4096 : Int) < (s.size : Int)) = true := decide_eq_true hi
    go_enter Tryz.func72, Tryz.ntmps72
    go_wp2_with fail
    refine bodyPost_ret (v := .tuple #[.agg #[.int .i64 0, .int .i64 0, .string ⟨#[]⟩, .slice none 0 0], .int .i64 0, .int .i64 10]) (by simp [results, Tryz.results72, go_sem]) rfl ?_
    refine ⟨_, by rw [hP.out]; rfl, by rw [hP.out]; exact CAt.leaf _ _ 0 0 [], (Below.refl _ _).alloc (Nat.le_refl _) _, by rw [hP.out]; exact zero_cw⟩
  have hi : ¬ (4096 : Int) < (s.size : Int) := by omega
  have hd : decide ((4096 : Int) < (s.size : Int)) = false := decide_eq_false hi
  have hs : s.size ≤ 4096 := by omega
  have hsl : s.data.toList.length ≤ 4096 := by rw [← Lib.size_eq]; exact hs
  have hPE := Lib.hid (parse_eq hsl)
  have hz0 := alloc_size w (.cells condZ 28)
  have hBr := (Blk.new w 28 condZ).alloc (.cells #[.string s, .int .i64 0, .int .i64 0, .string ⟨#[]⟩, .int .i64 0, .int .i64 0, .bool false] 132)
  have hRb := Blk.new (w.alloc (.cells condZ 28)) 132 #[.string s, .int .i64 0, .int .i64 0, .string ⟨#[]⟩, .int .i64 0, .int .i64 0, .bool false]
  have k1 := ((Keeps.refl (fun _ => False) w).alloc (.cells condZ 28)).alloc (.cells #[.string s, .int .i64 0, .int .i64 0, .string ⟨#[]⟩, .int .i64 0, .int .i64 0, .bool false] 132)
  rw [hz0] at hRb
  unfold condZ at hRb hBr k1
  obtain ⟨w1, e1⟩ : ∃ w1, (w.alloc (.cells #[.int .i64 0, .int .i64 0, .string ⟨#[]⟩, .slice none 0 0] 28)).alloc (.cells #[.string s, .int .i64 0, .int .i64 0, .string ⟨#[]⟩, .int .i64 0, .int .i64 0, .bool false] 132) = w1 := ⟨_, rfl⟩
  rw [e1] at hRb hBr k1
  have hE1 := Lib.hid (hE.keeps k1 id)
  have D1 := Lib.hid (step_calls s 0 ⟨0, [], 0, false⟩ 0 false (w.heap.size + 1) w1 hs (Nat.zero_le _) hRb)
  have hBr' := Lib.hid hBr
  have k1' := Lib.hid k1
  have e1' := Lib.hid e1
  clear hE hz0 hBr hRb k1 e1
  go_enter Tryz.func72, Tryz.ntmps72
  go_wp2_with fail
  rw [e1'.out]
  refine D1.out.mono ?_
  rintro e w2 ⟨rfl, hR2, k2⟩
  rw [List.drop_zero] at hR2
  have hRd : Rd w2 (w.heap.size + 1) s (lex 0 s.data.toList) 0 false := ⟨hs, by omega, hE1.out.keeps k2 (by omega), 0, Nat.zero_le _, by rw [List.drop_zero]; exact hR2, by rw [List.drop_zero]⟩
  have hB2 := Lib.hid (hBr'.out.keeps k2 (by omega))
  have k2' := Lib.hid ((k1'.out.below (B := w.heap.size) (fun _ _ e => e.elim) (Nat.le_refl _)).trans (k2.below (B := w.heap.size) (fun _ _ e => by omega) k1'.out.size))
  have D2 := Lib.hid (cond_walk 8 (Nat.le_refl _) (lex 0 s.data.toList) w2 0 (by decide) hRd)
  have hzw2 := k2.size
  have hzw1 := k1'.out.size
  clear hR2 k2 hRd D1
  go_wp2_with fail
  refine D2.out.mono ?_
  rintro e w3 ⟨cs, c, m, d, b, rfl, hC, hR3, k3, hm1, hm2, hcase⟩
  have hB3 := hB2.out.keeps k3 (by omega)
  have k3' := k2'.out.trans (k3.below (B := w.heap.size) (fun _ _ e => by omega) (by omega))
  have hzw3 := k3.size
  have hC3 := hC.mono (Q := fun j => w.heap.size < j) fun j hj _ => by have := hB2.out.lt; omega
  obtain ⟨Q, pp, nn, cc, rfl⟩ := hC.open_
  obtain ⟨w4, e4⟩ : ∃ w4, w3.alloc (.cells #[.int .i64 c.kind, .int .i64 c.num, .string Q, .slice pp nn cc] 28) = w4 := ⟨_, rfl⟩
  have k4 := (Keeps.refl (fun _ => False) w3).alloc (.cells #[.int .i64 c.kind, .int .i64 c.num, .string Q, .slice pp nn cc] 28)
  have x4 := Blk.new w3 28 #[.int .i64 c.kind, .int .i64 c.num, .string Q, .slice pp nn cc]
  have hz4 := alloc_size w3 (.cells #[.int .i64 c.kind, .int .i64 c.num, .string Q, .slice pp nn cc] 28)
  rw [e4] at k4 x4 hz4
  have hR4 := Lib.hid (hR3.same k4)
  have hB4 := Lib.hid (hB3.keeps k4 id)
  have kk4 := Lib.hid (k3'.trans (k4.below (B := w.heap.size) (fun _ _ e => e.elim) (by omega)))
  have hC4 := Lib.hid (hC3.keeps k4 fun _ _ _ => id)
  obtain ⟨t, r, rfl⟩ := hR4.out.ex
  obtain ⟨q0, hq0, hb, -⟩ := hR4.out.cells
  obtain ⟨X, eX⟩ : ∃ X : ByteArray, strV t.text = .string X := ⟨⟨t.text.toArray⟩, rfl⟩
  rw [eX] at hb
  have g0 := Blk.cell hb
  have gf := Blk.frozen hb
  have b0 := Blk.cell hB4.out
  have bf := Blk.frozen hB4.out
  have x4c := x4.cell
  have x4' := Lib.hid x4
  have hcase' := Lib.hid hcase
  have hz4' := Lib.hid hz4
  have hcwOk : Hid (∀ q, gCond 8 (lex 0 s.data.toList) = .ok (c, q) → c.cw ≤ 400000) := Lib.hid fun q h => parse_cw hsl h
  clear hC hR3 k3 hcase hB3 k3' hC3 k4 x4 hz4 D2 hb eX hi hd
  have hzw4 := hz4'.out
  cases b with
  | true =>
    have hbad : Hid (parseC s.data.toList = (leaf 0 0 [], t.pos, 9)) := by
      rcases hcase'.out with ⟨e, _⟩ | ⟨_, e⟩
      · cases e
      · exact Lib.hid (by rw [hPE.out, e]; rfl)
    go_wp2_with fail
    go_region
    all_goals
      go_wp2_with fail
      have hRd := hR4.out.same ((Keeps.refl _ w4).drew)
      obtain ⟨W, eW, hBW, hRW, hKW⟩ := put_cond rfl hB4.out.drew hRd (by omega) (by omega) (.int .i64 0) (.int .i64 0) (.string ⟨#[]⟩) (.slice none 0 0)
      have eW' : ((((w4.setCell ⟨w.heap.size, 0, none⟩ (.int .i64 0)).setCell ⟨w.heap.size, 1, none⟩ (.int .i64 0)).setCell ⟨w.heap.size, 2, none⟩ (.string ⟨#[]⟩)).setCell ⟨w.heap.size, 3, none⟩ (.slice none 0 0)).drew = W := eW
      rw [eW']
      have c5 := hBW.cell
      refine bodyPost_ret (v := .tuple #[.agg #[.int .i64 0, .int .i64 0, .string ⟨#[]⟩, .slice none 0 0], .int .i64 t.pos, .int .i64 9]) (by simp [results, Tryz.results72, go_sem, c5]) rfl ?_
      exact ⟨_, by rw [hbad.out], by rw [hbad.out]; exact CAt.leaf _ _ 0 0 [], kk4.out.trans ((Below.refl _ _).drew.trans (hKW.below (fun j _ e => by omega) (by show w.heap.size ≤ w4.heap.size; omega))), by rw [hbad.out]; exact zero_cw⟩
  | false =>
    obtain ⟨hd, hG⟩ : d = 0 ∧ Hid (gCond 8 (lex 0 s.data.toList) = .ok (c, t :: r)) := by
      rcases hcase'.out with ⟨_, q2, q3⟩ | ⟨q, _⟩
      · exact ⟨q2, Lib.hid q3⟩
      · cases q
    subst hd
    by_cases h1 : t.sort = 1
    · have e1 : ((t.sort : Int) == 1) = true := by rw [h1]; rfl
      have e1' : ((t.sort : Int) != 1) = false := by rw [h1]; rfl
      have hcw := hcwOk.out _ hG.out
      have hszc := size_cw c
      have hP1 : Hid (parseC s.data.toList = if 256 < c.size then (leaf 0 0 [], 0, 10) else (c, 0, 0)) := Lib.hid (by rw [hPE.out, hG.out]; show (if t.sort = 1 then _ else _) = _; rw [if_pos h1])
      have DS := Lib.hid (size_calls c (by omega) _ w4 (CV.of hC4.out (by omega)))
      have h1' := Lib.hid h1
      clear h1
      go_wp2_with fail
      refine DS.out.mono ?_
      rintro e w5 ⟨rfl, hb5⟩
      have hz5 := hb5.size
      have hR5 := Lib.hid (hR4.out.keeps (S := fun _ => False) (.of_below hb5) id id)
      have hB5 := Lib.hid (hB4.out.below hb5 (by omega))
      have x5 := Lib.hid (x4'.out.below hb5 (by omega))
      have kk5 := Lib.hid (kk4.out.trans (hb5.mono (by omega)))
      have hC5 := Lib.hid (hC4.out.later hb5)
      have b5 := Blk.cell hB5.out
      have bf5 := Blk.frozen hB5.out
      have x5c := Blk.cell x5.out
      clear hb5 b0 bf x4c g0 gf DS
      by_cases hsz : 256 < c.size
      · have es : (256 : Int) < (c.size : Int) := by omega
        have ed : decide ((256 : Int) < (c.size : Int)) = true := decide_eq_true es
        have hP2 : Hid (parseC s.data.toList = (leaf 0 0 [], 0, 10)) := Lib.hid (by rw [hP1.out, if_pos hsz])
        go_wp2_with fail
        obtain ⟨W, eW, hBW, hRW, hKW⟩ := put_cond rfl hB5.out hR5.out (by omega) (by omega) (.int .i64 0) (.int .i64 0) (.string ⟨#[]⟩) (.slice none 0 0)
        rw [eW]
        have c5 := hBW.cell
        refine bodyPost_ret (v := .tuple #[.agg #[.int .i64 0, .int .i64 0, .string ⟨#[]⟩, .slice none 0 0], .int .i64 0, .int .i64 10]) (by simp [results, Tryz.results72, go_sem, c5]) rfl ?_
        exact ⟨_, by rw [hP2.out]; rfl, by rw [hP2.out]; exact CAt.leaf _ _ 0 0 [], kk5.out.trans (hKW.below (fun j _ e => by omega) (by omega)), by rw [hP2.out]; exact zero_cw⟩
      · have es : ¬ (256 : Int) < (c.size : Int) := by omega
        have ed : decide ((256 : Int) < (c.size : Int)) = false := decide_eq_false es
        have hP2 : Hid (parseC s.data.toList = (c, 0, 0)) := Lib.hid (by rw [hP1.out, if_neg hsz])
        go_wp2_with fail
        obtain ⟨W, eW, hBW, hRW, hKW⟩ := put_cond rfl hB5.out hR5.out (by omega) (by omega) (.int .i64 c.kind) (.int .i64 c.num) (.string Q) (.slice pp nn cc)
        rw [eW]
        have c5 := hBW.cell
        refine bodyPost_ret (v := .tuple #[.agg #[.int .i64 c.kind, .int .i64 c.num, .string Q, .slice pp nn cc], .int .i64 0, .int .i64 0]) (by simp [results, Tryz.results72, go_sem, c5]) rfl ?_
        exact ⟨_, by rw [hP2.out]; rfl, by rw [hP2.out]; exact (hC5.out.keeps hKW fun j hj _ e => by omega).mono fun j hj _ => Nat.le_of_lt hj, kk5.out.trans (hKW.below (fun j _ e => by omega) (by omega)), by rw [hP2.out]; exact hcw⟩
    · have e1 : ((t.sort : Int) == 1) = false := by apply beq_false_of_ne; omega
      have e1' : ((t.sort : Int) != 1) = true := by rw [bne_iff_ne]; omega
      have hbad : Hid (parseC s.data.toList = (leaf 0 0 [], t.pos, 9)) := Lib.hid (by rw [hPE.out, hG.out]; show (if t.sort = 1 then _ else _) = _; rw [if_neg h1])
      have h1' := Lib.hid h1
      clear h1
      go_wp2_with fail
      go_region
      all_goals
        go_wp2_with fail
        have hRd := hR4.out.same ((Keeps.refl _ w4).drew)
        obtain ⟨W, eW, hBW, hRW, hKW⟩ := put_cond rfl hB4.out.drew hRd (by omega) (by omega) (.int .i64 0) (.int .i64 0) (.string ⟨#[]⟩) (.slice none 0 0)
        have eW' : ((((w4.setCell ⟨w.heap.size, 0, none⟩ (.int .i64 0)).setCell ⟨w.heap.size, 1, none⟩ (.int .i64 0)).setCell ⟨w.heap.size, 2, none⟩ (.string ⟨#[]⟩)).setCell ⟨w.heap.size, 3, none⟩ (.slice none 0 0)).drew = W := eW
        rw [eW']
        have c5 := hBW.cell
        refine bodyPost_ret (v := .tuple #[.agg #[.int .i64 0, .int .i64 0, .string ⟨#[]⟩, .slice none 0 0], .int .i64 t.pos, .int .i64 9]) (by simp [results, Tryz.results72, go_sem, c5]) rfl ?_
        exact ⟨_, by rw [hbad.out], by rw [hbad.out]; exact CAt.leaf _ _ 0 0 [], kk4.out.trans ((Below.refl _ _).drew.trans (hKW.below (fun j _ e => by omega) (by show w.heap.size ≤ w4.heap.size; omega))), by rw [hbad.out]; exact zero_cw⟩
end Go.Proofs.YtdfgbkilaepolaaGreatDoor
namespace Go.Proofs.YtdfgbkilaepolaaGreatDoor
open Go.RowKit
theorem Tb.up {B B' : Nat} {w : World} (h : Tb B w) (hB : B ≤ B') : Tb B' w := fun w' hb => h w' (hb.mono hB)
def PrintPost (c : CT) (w : World) (e : Ending) (w' : World) : Prop :=
  e = .returned (.tuple #[.string ⟨(printC c).1.toArray⟩, .int .i64 (printC c).2]) ∧ Below w.heap.size w w'
set_option maxHeartbeats 8000000 in
set_option maxRecDepth 100000 in
theorem print_calls (r : CT) (hcw : r.cw ≤ 1000000) (cs : List Value) (w : World) (hq : CV w cs r) (htb : Tb w.heap.size w) : Calls Tryz.prog 27 #[.agg cs.toArray] w (PrintPost r w) := by
  have hszc := size_cw r
  obtain ⟨k, m, a, p, c, ds, rfl, -⟩ := hq.form
  have hb := (Below.refl w.heap.size w).alloc (Nat.le_refl _) (.cells #[.int .i64 k, .int .i64 m, .string a, .slice p r.parts.length c] 28)
  have hbx := Blk.new w 28 #[.int .i64 k, .int .i64 m, .string a, .slice p r.parts.length c]
  have hz1 := alloc_size w (.cells #[.int .i64 k, .int .i64 m, .string a, .slice p r.parts.length c] 28)
  obtain ⟨w1, e1⟩ : ∃ w1, w.alloc (.cells #[.int .i64 k, .int .i64 m, .string a, .slice p r.parts.length c] 28) = w1 := ⟨_, rfl⟩
  rw [e1] at hb hbx hz1
  have DS := Lib.hid (size_calls r (by omega) _ w1 (hq.later hb))
  have x1 := Blk.cell hbx
  have hb' := Lib.hid hb
  have hbx' := Lib.hid hbx
  have hz1' := Lib.hid hz1
  have hq' := Lib.hid hq
  have htb' := Lib.hid htb
  clear hb hbx hz1 hq htb
  go_enter Tryz.func27, Tryz.ntmps27
  go_wp2_with fail
  refine DS.out.mono ?_
  rintro e w2 ⟨rfl, hb2⟩
  have hz2 := hb2.size
  have hz1b := hz1'.out
  have B2 := hb'.out.trans (hb2.mono (by omega))
  have hB2 := Lib.hid B2
  have hbx2 := hbx'.out.below hb2 (by omega)
  have x2 := Blk.cell hbx2
  have hq2 := hq'.out.later B2
  have htb2 := (htb'.out.step B2).up (B' := w2.heap.size) (by omega)
  clear hb2 B2 DS x1 e1
  by_cases hsz : 256 < r.size
  · have es : (256 : Int) < (r.size : Int) := by omega
    have ed : decide ((256 : Int) < (r.size : Int)) = true := decide_eq_true es
    have hP : Hid (printC r = ([], 9)) := Lib.hid (by unfold printC; rw [if_pos hsz])
    go_wp2_with fail
    go_ret2
    exact ⟨by rw [hP.out]; rfl, hB2.out⟩
  have es : ¬ (256 : Int) < (r.size : Int) := by omega
  have ed : decide ((256 : Int) < (r.size : Int)) = false := decide_eq_false es
  have hP : Hid (printC r = match printP r with
      | none => ([], 9)
      | some ps => if 4096 < (textP ps).length then ([], 9) else (textP ps, 0)) := Lib.hid (by
    unfold printC; rw [if_neg hsz]
    cases printP r <;> rfl)
  have hb3 := (Below.refl w2.heap.size w2).alloc (Nat.le_refl _) (.cells #[.pointer none, .slice none 0 0, .int .i64 0, .bool false] 92)
  have hwb := Blk.new w2 92 #[.pointer none, .slice none 0 0, .int .i64 0, .bool false]
  have hz3 := alloc_size w2 (.cells #[.pointer none, .slice none 0 0, .int .i64 0, .bool false] 92)
  have x3z := Blk.cell (hbx2.alloc (.cells #[.pointer none, .slice none 0 0, .int .i64 0, .bool false] 92))
  have hltb : w.heap.size < w2.heap.size := by omega
  obtain ⟨w3, e3⟩ : ∃ w3, w2.alloc (.cells #[.pointer none, .slice none 0 0, .int .i64 0, .bool false] 92) = w3 := ⟨_, rfl⟩
  rw [e3] at hb3 hwb hz3
  have hwr : WrAt w2.heap.size w2.heap.size w3 [] 0 false := ⟨Nat.le_refl _, _, _, .inl rfl, hwb, World.ownsRow_nil _ _ _ _⟩
  have hbx3 := hbx2.below hb3 (by omega)
  have x3 := Blk.cell hbx3
  have hll0 : ([] : List UInt8).length = 0 := rfl
  have DP := Lib.hid (part_ok r (cond_ok r) w2 w2.heap.size 8 r.size 0 0 w3 [] _ (Nat.le_refl _) (by decide) (by decide) (Nat.le_refl _) hq2 hb3 (by omega) htb2 hwr (by omega) hcw)
  have hB3 := Lib.hid (hB2.out.trans (hb3.mono (by omega)))
  have e3' := Lib.hid e3
  have hz3' := Lib.hid hz3
  have hll0' := Lib.hid hll0
  clear hb3 hwb hwr hbx3 hbx2 hq2 htb2 hz3 e3 hll0 hsz
  go_wp2_with fail
  rw [e3'.out]
  refine DP.out.mono ?_
  rintro e w4 ⟨rfl, hk4, l4, d4, hl4, hcase⟩
  have hz4 := hk4.size
  have hz3b := hz3'.out
  have hll0 := hll0'.out
  have hB4 := Lib.hid (hB3.out.trans ((hk4.below (by omega)).mono (by omega)))
  have hl4b : l4.length ≤ 1000002 := by omega
  clear hk4 DP x3 x2 x3z hll0
  rcases hcase with ⟨x, hx, hlx, hW4⟩ | ⟨hx, hW4⟩
  · obtain ⟨ps, hps, rfl⟩ : ∃ ps, printP r = some ps ∧ textP ps = x := by
      unfold textO at hx
      obtain ⟨ps, h1, h2⟩ := Option.map_eq_some_iff.1 hx
      exact ⟨ps, h1, h2⟩
    have hP2 : Hid (printC r = if 4096 < (textP ps).length then ([], 9) else (textP ps, 0)) := Lib.hid (by rw [hP.out, hps])
    rw [List.nil_append] at hlx
    subst hlx
    obtain ⟨f2, f3, ff⟩ := hW4.flag
    have DL := Lib.hid (wlen_calls w2.heap.size w2.heap.size w4 (textP ps) 0 false hW4)
    have DT := Lib.hid (string_calls w2.heap.size w2.heap.size w4 (textP ps) 0 false hW4 (by omega))
    have hx' := Lib.hid hx
    have hps' := Lib.hid hps
    clear hx hps hW4
    generalize textP ps = t at *
    by_cases h4 : 4096 < t.length
    · have e4 : (4096 : Int) < (t.length : Int) := by omega
      have ed4 : decide ((4096 : Int) < (t.length : Int)) = true := decide_eq_true e4
      have hP3 : Hid (printC r = ([], 9)) := Lib.hid (by rw [hP2.out, if_pos h4])
      go_wp2_with fail
      refine DL.out.mono ?_
      rintro e w' ⟨rfl, rfl⟩
      go_wp2_with fail
      go_ret2
      exact ⟨by rw [hP3.out]; rfl, hB4.out⟩
    · have e4 : ¬ (4096 : Int) < (t.length : Int) := by omega
      have ed4 : decide ((4096 : Int) < (t.length : Int)) = false := decide_eq_false e4
      have hP3 : Hid (printC r = (t, 0)) := Lib.hid (by rw [hP2.out, if_neg h4])
      go_wp2_with fail
      refine DL.out.mono ?_
      rintro e w' ⟨rfl, rfl⟩
      go_wp2_with fail
      refine DT.out.mono ?_
      rintro e w5 ⟨rfl, hb5⟩
      have hB5 := Lib.hid (hB4.out.trans (hb5.mono (by omega)))
      clear hb5
      go_wp2_with fail
      go_ret2
      exact ⟨by rw [hP3.out]; rfl, hB5.out⟩
  · have hps : printP r = none := by
      unfold textO at hx
      exact Option.map_eq_none_iff.1 hx
    have hP3 : Hid (printC r = ([], 9)) := Lib.hid (by rw [hP.out, hps])
    obtain ⟨f2, f3, ff⟩ := hW4.flag
    have hx' := Lib.hid hx
    have hps' := Lib.hid hps
    clear hx hps hW4
    go_wp2_with fail
    go_ret2
    exact ⟨by rw [hP3.out]; rfl, hB4.out⟩
end Go.Proofs.YtdfgbkilaepolaaGreatDoor
namespace Go.Proofs.YtdfgbkilaepolaaGreatDoor
open Go.RowKit
/-- a world in which the library's variables stand -/
structure Std (w : World) : Prop where
  err : ErrAt w
  tb : Tb w.heap.size w
theorem Std.next {w w' : World} (h : Std w) (hb : Below w.heap.size w w') : Std w' := ⟨h.err.keeps (S := fun _ => False) (.of_below hb) id, (h.tb.step hb).up hb.size⟩
end Go.Proofs.YtdfgbkilaepolaaGreatDoor
namespace Go.Proofs.YtdfgbkilaepolaaGreatDoor
open Go.RowKit
/-- no text in it is longer than a string may be -/
inductive CT.fits : CT → Prop
  | mk {k n : Int} {s : List UInt8} {ps : List CT} (hs : s.length ≤ maxLen) (hp : ∀ p ∈ ps, CT.fits p) : CT.fits (.node k n s ps)
mutual
/-- what is left behind a condition -/
def fewC : CT → Int → Int
  | .node _ _ s ps, left => fewL ps (left - 1 - ((s.length / 100 : Nat) : Int))
def fewL : List CT → Int → Int
  | [], left => left
  | p :: ps, left => if left < 0 then left else fewL ps (fewC p left)
end
theorem fewL_nil (x : Int) : fewL [] x = x := by unfold fewL; rfl
theorem fewL_cons (p : CT) (ps : List CT) (x : Int) : fewL (p :: ps) x = if x < 0 then x else fewL ps (fewC p x) := by conv => lhs; unfold fewL
theorem fewC_eq (r : CT) (x : Int) : fewC r x = fewL r.parts (x - 1 - ((r.str.length / 100 : Nat) : Int)) := by cases r; unfold fewC; rfl
theorem div_max {n : Nat} (h : n ≤ maxLen) : n / 100 ≤ 92233720368547758 := by
  unfold maxLen at h
  omega
theorem CT.fits.str {r : CT} (h : r.fits) : r.str.length ≤ maxLen := by
  cases h with
  | mk hs _ => exact hs
theorem CT.fits.part {r p : CT} (h : r.fits) (hp : p ∈ r.parts) : p.fits := by
  cases h with
  | mk _ h => exact h p hp
/-- how far below it comes -/
theorem few_low (r : CT) (x : Int) (hf : r.fits) (hx : -100000000000000000 ≤ x) : -400000000000000000 ≤ fewC r x ∧ fewC r x ≤ x - 1 := by
  have h1 := div_max hf.str
  have hrec : ∀ p ∈ r.parts, ∀ y, 0 ≤ y → -400000000000000000 ≤ fewC p y ∧ fewC p y ≤ y - 1 := fun p hpm y hy => few_low p y (hf.part hpm) (by omega)
  have hL : ∀ (qs : List CT), (∀ p ∈ qs, p ∈ r.parts) → ∀ y, -400000000000000000 ≤ y → -400000000000000000 ≤ fewL qs y ∧ fewL qs y ≤ y := by
    intro qs
    induction qs with
    | nil => intro _ y hy; rw [fewL_nil]; exact ⟨hy, Int.le_refl _⟩
    | cons q qs ih =>
      intro hm y hy
      rw [fewL_cons]
      by_cases h0 : y < 0
      · rw [if_pos h0]; exact ⟨hy, Int.le_refl _⟩
      · rw [if_neg h0]
        obtain ⟨h3, h4⟩ := hrec q (hm q (by simp)) y (by omega)
        obtain ⟨h5, h6⟩ := ih (fun p hp => hm p (List.mem_cons_of_mem _ hp)) (fewC q y) h3
        exact ⟨h5, by omega⟩
  rw [fewC_eq]
  obtain ⟨h3, h4⟩ := hL r.parts (fun _ h => h) (x - 1 - ((r.str.length / 100 : Nat) : Int)) (by omega)
  exact ⟨h3, by omega⟩
termination_by SizeOf.sizeOf r
decreasing_by exact partc_lt hpm
/-- what is few weighs little -/
theorem few_cw (r : CT) (x : Int) (h : 0 ≤ fewC r x) : (r.cw : Int) ≤ 200 * (x - fewC r x) ∧ (8 : Int) + r.cw ≤ 200 * (x - fewC r x) := by
  have hrec : ∀ p ∈ r.parts, ∀ y, 0 ≤ fewC p y → (8 : Int) + p.cw ≤ 200 * (y - fewC p y) := fun p hpm y hy => (few_cw p y hy).2
  have hneg : ∀ (qs : List CT) y, y < 0 → fewL qs y < 0 := by
    intro qs y hy
    cases qs with
    | nil => rw [fewL_nil]; exact hy
    | cons q qs => rw [fewL_cons, if_pos hy]; exact hy
  have hL : ∀ (qs : List CT), (∀ p ∈ qs, p ∈ r.parts) → ∀ y, 0 ≤ fewL qs y → (cwL qs : Int) ≤ 200 * (y - fewL qs y) := by
    intro qs
    induction qs with
    | nil => intro _ y hy; rw [fewL_nil, cwL_nil]; omega
    | cons q qs ih =>
      intro hm y hy
      rw [fewL_cons] at hy ⊢
      by_cases h0 : y < 0
      · rw [if_pos h0] at hy; omega
      · rw [if_neg h0] at hy ⊢
        have h3 : 0 ≤ fewC q y := by
          by_cases h4 : fewC q y < 0
          · have := hneg qs _ h4; omega
          · omega
        have h5 := hrec q (hm q (by simp)) y h3
        have h6 := ih (fun p hp => hm p (List.mem_cons_of_mem _ hp)) (fewC q y) hy
        rw [cwL_cons]
        omega
  rw [fewC_eq] at h ⊢
  have h1 := hL r.parts (fun _ h => h) _ h
  rw [cw_node]
  constructor <;> omega
termination_by SizeOf.sizeOf r
decreasing_by exact partc_lt hpm
set_option maxHeartbeats 4000000 in
set_option maxRecDepth 100000 in
theorem few_step (r : CT) (hrec : ∀ q ∈ r.parts, ∀ (cs : List Value) (x : Int) (w : World), CV w cs q → q.fits → -100000000000000000 ≤ x → x ≤ 200 → Calls Tryz.prog 11 #[.agg cs.toArray, .int .i64 x] w fun e w' => e = .returned (.int .i64 (fewC q x)) ∧ Below w.heap.size w w')
    (cs : List Value) (x : Int) (w : World) (hR : CV w cs r) (hf : r.fits) (hx : -100000000000000000 ≤ x) (hx2 : x ≤ 200) : Calls Tryz.prog 11 #[.agg cs.toArray, .int .i64 x] w fun e w' => e = .returned (.int .i64 (fewC r x)) ∧ Below w.heap.size w w' := by
  obtain ⟨k, m, a, p, c, ds, rfl, hq, hrow, hlen, hp⟩ := hR.form
  have hmax := hrow.1
  unfold maxLen at hmax
  have hlow : ∀ q ∈ r.parts, ∀ y, 0 ≤ y → -400000000000000000 ≤ fewC q y ∧ fewC q y ≤ y - 1 := fun q hqm y hy => few_low q y (hf.part hqm) (by omega)
  have hfp : ∀ q ∈ r.parts, q.fits := fun q hqm => hf.part hqm
  have hss : r.str = a.data.toList := by rw [hq]; rfl
  have ha : a.size ≤ maxLen := by rw [Lib.size_eq, ← hss]; exact hf.str
  have hda := div_max ha
  obtain ⟨y, ey⟩ : ∃ y, x - 1 - ((a.size / 100 : Nat) : Int) = y := ⟨_, rfl⟩
  have hsm : fewC r x = fewL r.parts y := by rw [fewC_eq, ← ey, hss, Lib.size_eq]
  rw [hsm]
  have hy1 : -400000000000000000 ≤ y := by omega
  have hy2 : y ≤ 200 := by omega
  have bx := Blk.new w 28 #[.int .i64 k, .int .i64 m, .string a, .slice p r.parts.length c]
  have hb := (Below.refl w.heap.size w).alloc (Nat.le_refl _) (.cells #[.int .i64 k, .int .i64 m, .string a, .slice p r.parts.length c] 28)
  obtain ⟨W, eW⟩ : ∃ W, w.alloc (.cells #[.int .i64 k, .int .i64 m, .string a, .slice p r.parts.length c] 28) = W := ⟨_, rfl⟩
  have hzW : W.heap.size = w.heap.size + 1 := by rw [← eW]; simp
  rw [eW] at bx hb
  have bxc := bx.cell
  have hrec' := Lib.hid hrec
  have hrow' := Lib.hid hrow
  have hp' := Lib.hid hp
  have hlow' := Lib.hid hlow
  have hfp' := Lib.hid hfp
  have hb' := Lib.hid hb
  have haa : a.size ≤ 9223372036854775807 := ha
  generalize r.parts = ps at *
  generalize hn : ps.length = n at *
  have hn' := Lib.hid hn
  clear hrec hrow hp hlow hfp hb hn hsm hss hq ha hlen bx hR hf
  go_enter Tryz.func11, Tryz.ntmps11
  go_wp2_with fail
  go_loopw [1, 17] (fun l i wr => ∃ (j : Nat) (z : Int), j ≤ n ∧ i = .int .i64 j ∧ l = .int .i64 z ∧ fewL (ps.drop j) z = fewL ps y ∧ -400000000000000000 ≤ z ∧ z ≤ 200 ∧ Below w.heap.size w wr ∧ w.heap.size + 1 ≤ wr.heap.size) (fun _ i _ => n - (intOf i).toNat)
  case atStart => exact ⟨0, y, Nat.zero_le _, rfl, by first | rfl | (rw [← ey]; rfl) | skip, rfl, hy1, hy2, hb'.out, by omega⟩
  case round =>
    obtain ⟨j, z, hj, rfl, rfl, hsl, hz1, hz2, hB, hsz⟩ := hrel
    by_cases hlt : j < n
    · have hjl : j < ps.length := by rw [hn'.out]; exact hlt
      obtain ⟨q, hqq⟩ : ∃ q, ps[j]? = some q := ⟨_, List.getElem?_eq_getElem hjl⟩
      have hdr : ps.drop j = q :: ps.drop (j + 1) := by
        rw [List.drop_eq_getElem_cons hjl, (List.getElem?_eq_some_iff.1 hqq).2]
      obtain ⟨g, o, rfl, hc1, hcell⟩ := (hrow'.out.below hB).cell (by omega)
      obtain ⟨kq, mq, aq, pq, cq, Rq, -, lg, x0, x1, x2, x3⟩ := CV.part hcell hqq ((hp'.out j _ hqq).later hB)
      have hqm := List.mem_of_getElem? hqq
      rw [hdr, fewL_cons] at hsl
      obtain ⟨w3, e3⟩ : ∃ w3, wr.alloc (.cells #[.int .i64 kq, .int .i64 mq, .string aq, .slice pq q.parts.length cq] 28) = w3 := ⟨_, rfl⟩
      have hb3 := (Below.refl wr.heap.size wr).alloc (Nat.le_refl _) (.cells #[.int .i64 kq, .int .i64 mq, .string aq, .slice pq q.parts.length cq] 28)
      have bq3 := Blk.new wr 28 #[.int .i64 kq, .int .i64 mq, .string aq, .slice pq q.parts.length cq]
      have hz3 : w3.heap.size = wr.heap.size + 1 := by rw [← e3]; simp
      rw [e3] at hb3 bq3
      have B3 := hB.trans (hb3.mono (by omega))
      have c3 := bq3.cell
      have R3 := Rq.later hb3
      by_cases h0 : z < 0
      · rw [if_pos h0] at hsl
        have hsl' := Lib.hid hsl
        have B3' := Lib.hid B3
        clear hsl B3 hb3 bq3 hB Rq R3 hdr hcell
        go_wp2_with fail
        go_ret
        exact ⟨by rw [← hsl'.out]; rfl, B3'.out⟩
      · rw [if_neg h0] at hsl
        obtain ⟨l1, l2⟩ := hlow'.out q hqm z (by omega)
        have P := hrec'.out q hqm _ z w3 R3 (hfp'.out q hqm) (by omega) hz2
        have P' := Lib.hid P
        have hsl' := Lib.hid hsl
        have B3' := Lib.hid B3
        clear P hsl B3 hb3 bq3 hB Rq R3 hdr hcell hjl hqq hqm
        go_wp2_with fail
        refine P'.out.mono ?_
        rintro e w4 ⟨rfl, hb4⟩
        have l4 := hb4.size
        have B4 := B3'.out.trans (hb4.mono (by omega))
        have B4' := Lib.hid B4
        generalize fewC q z = z2 at *
        clear B4 hb4 c3 x0 x1 x2 x3
        go_wp2_with fail
        go_roundw
        case rel => exact ⟨j + 1, z2, by omega, by go_num, rfl, hsl'.out, l1, by omega, B4'.out, by omega⟩
        case measure => simp [intOf]; omega
    · obtain rfl : j = n := by omega
      rw [List.drop_eq_nil_of_le (by rw [hn'.out]; exact Nat.le_refl _), fewL_nil] at hsl
      have hsl' := Lib.hid hsl
      have hB' := Lib.hid hB
      clear hsl hB
      go_wp2_with fail
      go_ret
      exact ⟨by rw [← hsl'.out]; rfl, hB'.out⟩
theorem few_calls (r : CT) (cs : List Value) (x : Int) (w : World) (hR : CV w cs r) (hf : r.fits) (hx : -100000000000000000 ≤ x) (hx2 : x ≤ 200) : Calls Tryz.prog 11 #[.agg cs.toArray, .int .i64 x] w fun e w' => e = .returned (.int .i64 (fewC r x)) ∧ Below w.heap.size w w' :=
  few_step r (fun q _ cs x w hR hf hx hx2 => few_calls q cs x w hR hf hx hx2) cs x w hR hf hx hx2
termination_by SizeOf.sizeOf r
decreasing_by exact partc_lt (by assumption)
end Go.Proofs.YtdfgbkilaepolaaGreatDoor
namespace Go.Proofs.YtdfgbkilaepolaaGreatDoor
def orC (a b : CT) : CT := .node 8 0 [] [a, b]
def andC (a b : CT) : CT := .node 7 0 [] [a, b]
theorem kind_not (K : List UInt8 → Int) (c : CT) : kindC K (notC c) = if kindC K c = 1 then 1 else 0 := by
  rw [kindC_eq]
  show ofK 6 (togI [kindC K c]) = _
  unfold ofK togI takesK
  by_cases h : kindC K c = 1
  · rw [h]; decide
  · simp [h]
theorem kind_two {K : List UInt8 → Int} {a b : CT} (k : Int) (hk : k = 7 ∨ k = 8) (ha : kindC K a = 1) (hb : kindC K b = 1) : kindC K (.node k 0 [] [a, b]) = 1 := by
  rw [kindC_eq]
  show (if k = 1 ∨ k = 2 then (1 : Int) else if k = 3 then 2 else if k = 4 then 3 else if k = 5 then K [] else ofK k (togI [kindC K a, kindC K b])) = 1
  rw [ha, hb, if_neg (by omega), if_neg (by omega), if_neg (by omega), if_neg (by omega)]
  rcases hk with rfl | rfl <;> decide
/-- a value of a kind -/
structure OkV (k : Int) (v : Vl) : Prop where
  kind : v.kind = k
  flag : k = 1 → v.s = [] ∧ (v.n = 0 ∨ v.n = 1)
  low : -mostI ≤ v.n
  high : v.n ≤ mostI
theorem flag_ok (b : Bool) : OkV 1 (flagV b) := by
  cases b <;> exact ⟨rfl, fun _ => ⟨rfl, by decide⟩, by decide, by decide⟩
theorem OkV.is_flag {v : Vl} (h : OkV 1 v) : v = flagV (decide (v.n = 1)) := by
  obtain ⟨h1, h2, _, _⟩ := h
  obtain ⟨h3, h4⟩ := h2 rfl
  obtain ⟨k, n, s⟩ := v
  simp only at h1 h3 h4
  subst h1 h3
  rcases h4 with rfl | rfl <;> rfl
theorem first_flag {till : Bool} : ∀ {l : List (Option Vl)} {v : Vl}, firstV till l = some v → ∃ b, v = flagV b
  | [], v, h => ⟨_, (Option.some.inj h).symm⟩
  | none :: l, v, h => by cases h
  | some u :: l, v, h => by
    unfold firstV at h
    split at h
    · rename_i e; exact ⟨till, (Option.some.inj h).symm.trans e⟩
    · exact first_flag h
theorem amongR_flag {u : Vl} : ∀ {l : List (Option Vl)} {v : Vl}, amongR u l = some v → ∃ b, v = flagV b
  | [], v, h => ⟨_, (Option.some.inj h).symm⟩
  | none :: l, v, h => by cases h
  | some w :: l, v, h => by
    unfold amongR at h
    split at h
    · exact ⟨true, (Option.some.inj h).symm⟩
    · exact amongR_flag h
theorem among_flag {l : List (Option Vl)} {v : Vl} (h : amongV l = some v) : ∃ b, v = flagV b := by
  match l, h with
  | some u :: l, h => exact amongR_flag h
/-- the values that names stand for go with their kinds -/
def Goes (K : List UInt8 → Int) (B : List UInt8 → Vl) : Prop := ∀ s, OkV (K s) (B s)
theorem reckon_ok {k a b n : Int} (h : reckonI k a b = some n) : -mostI ≤ n ∧ n ≤ mostI := by
  obtain ⟨X, hX⟩ : ∃ X, (if k = 13 then a - b else if k = 14 then a * b else a + b) = X := ⟨_, rfl⟩
  have h' : (if -mostI ≤ X ∧ X ≤ mostI then some X else none) = some n := by rw [← hX]; exact h
  by_cases hc : -mostI ≤ X ∧ X ≤ mostI
  · rw [if_pos hc] at h'
    obtain rfl := Option.some.inj h'
    exact hc
  · rw [if_neg hc] at h'; cases h'
theorem value_ok {K : List UInt8 → Int} {B : List UInt8 → Vl} (hB : Goes K B) (r : CT) (hr : rightC r = true) (hk : 0 < kindC K r) {v : Vl} (hv : valueC B r = some v) : OkV (kindC K r) v := by
  rw [valueC_eq] at hv
  rw [kindC_eq] at hk ⊢
  have hr' := hr
  unfold stepV at hv
  by_cases h1 : r.kind = 1 ∨ r.kind = 2
  · rw [if_pos h1] at hv ⊢
    obtain rfl := Option.some.inj hv
    exact flag_ok _
  · rw [if_neg h1] at hv hk ⊢
    by_cases h3 : r.kind = 3
    · rw [if_pos h3] at hv hk ⊢
      obtain rfl := Option.some.inj hv
      unfold rightC at hr
      rw [if_neg h1, if_pos h3] at hr
      simp only [Bool.and_eq_true, decide_eq_true_eq] at hr
      exact ⟨rfl, fun e => absurd e (by decide), by unfold mostI; exact hr.1.2, by unfold mostI; exact hr.2⟩
    · rw [if_neg h3] at hv hk ⊢
      by_cases h4 : r.kind = 4
      · rw [if_pos h4] at hv hk ⊢
        obtain rfl := Option.some.inj hv
        exact ⟨rfl, fun e => absurd e (by decide), by unfold mostI; simp, by unfold mostI; simp⟩
      · rw [if_neg h4] at hv hk ⊢
        by_cases h5 : r.kind = 5
        · rw [if_pos h5] at hv hk ⊢
          obtain rfl := Option.some.inj hv
          exact hB _
        · rw [if_neg h5] at hv hk ⊢
          have hof : ofK r.kind (togI (r.parts.map (kindC K))) = (if r.kind = 6 ∨ r.kind = 7 ∨ r.kind = 8 ∨ r.kind = 9 ∨ r.kind = 15 ∨ r.kind = 10 ∨ r.kind = 11 then 1 else 2) := by
            unfold ofK at hk ⊢
            split at hk
            · rename_i h; rw [if_pos h]
            · simp at hk
          rw [hof]
          by_cases h7 : r.kind = 7
          · rw [if_pos h7] at hv
            rw [if_pos (.inr (.inl h7))]
            obtain ⟨b, rfl⟩ := first_flag hv; exact flag_ok b
          · rw [if_neg h7] at hv
            by_cases h8 : r.kind = 8
            · rw [if_pos h8] at hv
              rw [if_pos (.inr (.inr (.inl h8)))]
              obtain ⟨b, rfl⟩ := first_flag hv; exact flag_ok b
            · rw [if_neg h8] at hv
              by_cases h15 : r.kind = 15
              · rw [if_pos h15] at hv
                rw [if_pos (by simp [h15])]
                obtain ⟨b, rfl⟩ := among_flag hv; exact flag_ok b
              · rw [if_neg h15] at hv
                by_cases h6 : r.kind = 6
                · rw [if_pos h6] at hv
                  rw [if_pos (.inl h6)]
                  split at hv
                  · obtain rfl := Option.some.inj hv; exact flag_ok _
                  · cases hv
                · rw [if_neg h6] at hv
                  unfold pairV at hv
                  split at hv
                  · unfold bothV at hv
                    by_cases h9 : r.kind = 9
                    · rw [if_pos h9] at hv
                      rw [if_pos (by simp [h9])]
                      obtain rfl := Option.some.inj hv; exact flag_ok _
                    · rw [if_neg h9] at hv
                      by_cases h10 : r.kind = 10
                      · rw [if_pos h10] at hv
                        rw [if_pos (by simp [h10])]
                        obtain rfl := Option.some.inj hv; exact flag_ok _
                      · rw [if_neg h10] at hv
                        by_cases h11 : r.kind = 11
                        · rw [if_pos h11] at hv
                          rw [if_pos (by simp [h11])]
                          obtain rfl := Option.some.inj hv; exact flag_ok _
                        · rw [if_neg h11] at hv
                          rw [if_neg (by simp [h6, h7, h8, h9, h15, h10, h11])]
                          obtain ⟨n, hn, rfl⟩ := Option.map_eq_some_iff.1 hv
                          obtain ⟨l1, l2⟩ := reckon_ok hn
                          exact ⟨rfl, fun e => absurd e (by decide), l1, l2⟩
                  · cases hv
theorem value_not (B : List UInt8 → Vl) (c : CT) : valueC B (notC c) = (valueC B c).map fun v => flagV (decide (v.n = 0)) := by
  rw [valueC_eq]
  show stepV B 6 0 [] [valueC B c] = _
  unfold stepV
  rw [if_neg (by decide), if_neg (by decide), if_neg (by decide), if_neg (by decide), if_neg (by decide), if_neg (by decide), if_neg (by decide), if_pos rfl]
  cases valueC B c <;> rfl
theorem value_or {B : List UInt8 → Vl} {c : CT} {b : Bool} (h : valueC B c = some (flagV b)) : valueC B (orC c (notC c)) = some (flagV true) := by
  rw [valueC_eq]
  show stepV B 8 0 [] [valueC B c, valueC B (notC c)] = _
  rw [value_not, h]
  cases b <;> rfl
theorem value_and {B : List UInt8 → Vl} {c : CT} {b : Bool} (h : valueC B c = some (flagV b)) : valueC B (andC c (notC c)) = some (flagV false) := by
  rw [valueC_eq]
  show stepV B 7 0 [] [valueC B c, valueC B (notC c)] = _
  rw [value_not, h]
  cases b <;> rfl
end Go.Proofs.YtdfgbkilaepolaaGreatDoor
