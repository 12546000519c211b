/- A law of one's own for a statement that draws its order: each operation gives its own value, whatever the order; the last one waits for all; each is looked at once, at the frame that holds all values. -/
import Derived.Test.YtabcdodjkfknlaaGreatDoorPN05
import Derived.StillTail
namespace Go.Proofs.YtabcdodjkfknlaaGreatDoor
open Go.RowKit
variable {P : Program} {ops : Array Oper} {Q : Exit → Act → World → Prop}
def opsAll (ops : Array Oper) (p : Nat → Oper → Bool) : Bool := (List.range ops.size).all fun i => match ops[i]? with
  | some o => p i o
  | none => true
theorem opsAll_spec {p : Nat → Oper → Bool} (h : opsAll ops p = true) {i : Nat} {o : Oper} (ho : ops[i]? = some o) : p i o = true := by
  unfold opsAll at h
  rw [List.all_eq_true] at h
  have := h i (List.mem_range.2 (Array.getElem?_eq_some_iff.1 ho).1)
  rw [ho] at this
  exact this
def hasEdge (o : Oper) (j : Nat) : Bool := o.after.any fun e => Region.binds .any e && e.on == j
/-- no guards; no slot is written twice; who reads a slot waits for who writes it -/
def canonB (ops : Array Oper) : Bool := opsAll ops fun i o => o.guard.isNone && opsAll ops (fun j o' => decide (j = i) || o.dst.isNone || o'.dst != o.dst) && o.op.operands.all (fun x => match x with
  | .tmp d => opsAll ops fun j o' => o'.dst != some d || hasEdge o j
  | _ => true)
theorem put_size (a : Act) (x : Option Tmp) (v : Value) : (a.put x v).tmps.size = a.tmps.size := by
  cases x <;> simp [Act.put]
theorem put_defers' (a : Act) (x : Option Tmp) (v : Value) : (a.put x v).defers = a.defers := by
  cases x <;> rfl
theorem put_ne (a : Act) (x : Option Tmp) (v : Value) (d : Nat) (h : x ≠ some d) : (a.put x v).tmps[d]? = a.tmps[d]? := by
  cases x with
  | none => rfl
  | some e =>
    have : e ≠ d := fun h' => h (by rw [h'])
    simp [Act.put, Array.getElem?_setIfInBounds_ne this]
theorem put_eq (a : Act) (v : Value) (d : Nat) (h : d < a.tmps.size) : (a.put (some d) v).tmps[d]? = some v := by
  simp [Act.put, h]
def wiped (l : List Oper) (a : Act) : Act := l.foldl (fun a o => a.put o.dst undef) a
theorem wiped_spec (l : List Oper) (a : Act) : (wiped l a).tmps.size = a.tmps.size ∧ (wiped l a).defers = a.defers ∧ ∀ d : Nat, (∀ o : Oper, o ∈ l → o.dst ≠ some d) → (wiped l a).tmps[d]? = a.tmps[d]? := by
  induction l generalizing a with
  | nil => exact ⟨rfl, rfl, fun _ _ => rfl⟩
  | cons o l ih =>
    obtain ⟨h1, h2, h3⟩ := ih (a.put o.dst undef)
    exact ⟨h1.trans (put_size ..), h2.trans (put_defers' ..), fun d hd => (h3 d fun o' ho' => hd o' (List.mem_cons_of_mem _ ho')).trans (put_ne _ _ _ _ (hd o List.mem_cons_self))⟩
theorem eval_at {a a' : Act} (x : Operand) (h : ∀ d : Nat, x = .tmp d → a.tmps[d]? = a'.tmps[d]?) : a.eval x = a'.eval x := by
  cases x with
  | tmp d => simp only [Act.eval, Array.getD_eq_getD_getElem?, h d rfl]
  | _ => rfl
abbrev noExit : Exit → Act → World → Prop := fun _ _ _ => False
theorem wpOp_turn {i : Nat} {o : Oper} {a a1 : Act} {w : World} {K1 K : Act → World → Prop} (ho : ops[i]? = some o) (hg : o.guard = none) (hs : ∀ cs b, o.op ≠ .select cs b) (he : ∀ x ∈ o.op.operands, a.eval x = a1.eval x)
    (hd : ∀ a' w', K1 a' w' → a'.defers = a1.defers) (hK : ∀ v w', K1 (a1.put o.dst v) w' → K (a.put o.dst v) w') (h : wpOp P ops noExit i K1 a1 w) : wpOp P ops Q i K a w := by
  unfold wpOp at *
  simp only [ho, Region.wanted, hg, if_true] at h ⊢
  rcases h with h | ⟨_, _, _, h⟩
  · left
    unfold Oper.wp at *
    rw [execOp_congr o hs he]
    generalize (execOp a1.eval o).run P w = r at *
    cases r with
    | ok n w' =>
      cases n with
      | value v => exact hK v w' h
      | skip => exact hK undef w' h
      | defer d =>
        have := hd _ _ h
        rw [put_defers'] at this
        have := congrArg List.length this
        simp at this
      | enter f args => exact Calls.mono h (fun e w'' he => by
          cases e with
          | returned v => exact hK v w'' he
          | panicked c => exact False.elim he
          | outgrown => obtain ⟨_, _, he⟩ := he; exact False.elim he)
      | row row args => exact Rows.mono h (fun v w'' he => hK v w'' he)
      | _ => exact False.elim h
    | halt x w' => cases x <;> exact False.elim h
  · exact False.elim h
/-- what is so amid the region -/
structure Amid (ops : Array Oper) (n : Nat) (full : Act) (W : Array Bool → World → Prop) (Q : Exit → Act → World → Prop) (l : Array Bool) (a : Act) (w : World) : Prop where
  size : a.tmps.size = full.tmps.size
  defers : a.defers = full.defers
  some_ : ∀ (j : Nat) (o : Oper) (d : Nat), ops[j]? = some o → o.dst = some d → l.getD j false = true → a.tmps[d]? = full.tmps[d]?
  none_ : ∀ d : Nat, (∀ (j : Nat) (o : Oper), ops[j]? = some o → o.dst ≠ some d) → a.tmps[d]? = full.tmps[d]?
  closed : ∀ (j : Nat) (o : Oper), ops[j]? = some o → l.getD j false = true → ∀ e ∈ o.after, Region.binds .any e = true → l.getD e.on false = true
  amid : l.getD n false = false → W l w
  done : l.getD n false = true → Q .normal full w
theorem sink_all {n : Nat} {l : Array Bool} (hs : Region.sinkB .any ops n = true) (hc : ∀ (j : Nat) (o : Oper), ops[j]? = some o → l.getD j false = true → ∀ e ∈ o.after, Region.binds .any e = true → l.getD e.on false = true) (hn : l.getD n false = true) : ∀ k i, n - i = k → i ≤ n → l.getD i false = true := by
  intro k
  induction k using Nat.strongRecOn with
  | ind k ih =>
    intro i hk hi
    by_cases hin : i = n
    · subst hin; exact hn
    · have h1 := List.all_eq_true.1 hs i (List.mem_range.2 (by omega))
      obtain ⟨j, hj, hj2⟩ := List.any_eq_true.1 h1
      simp only [Bool.and_eq_true, decide_eq_true_eq] at hj2
      obtain ⟨oj, hoj, e, he, hb, hon⟩ := Region.waitsFor_spec hj2.2
      have hjn : j ≤ n := by have := List.mem_range.1 hj; omega
      have := hc j oj hoj (ih (n - j) (by omega) j rfl hjn) e he hb
      rw [hon] at this
      exact this
theorem sink_free {n : Nat} {l : Array Bool} (hs : Region.sinkB .any ops n = true) (hc : ∀ (j : Nat) (o : Oper), ops[j]? = some o → l.getD j false = true → ∀ e ∈ o.after, Region.binds .any e = true → l.getD e.on false = true) {o : Oper} (ho : ops[n]? = some o) (hr : n ∈ Region.ready .any ops l) : ∀ i, i < n → l.getD i false = true := by
  suffices h : ∀ k i, n - i = k → i < n → l.getD i false = true from fun i hi => h _ i rfl hi
  intro k
  induction k using Nat.strongRecOn with
  | ind k ih =>
    intro i hk hi
    have h1 := List.all_eq_true.1 hs i (List.mem_range.2 hi)
    obtain ⟨j, hj, hj2⟩ := List.any_eq_true.1 h1
    simp only [Bool.and_eq_true, decide_eq_true_eq] at hj2
    obtain ⟨oj, hoj, e, he, hb, hon⟩ := Region.waitsFor_spec hj2.2
    have hjn : j ≤ n := by have := List.mem_range.1 hj; omega
    rw [← hon]
    rcases Nat.lt_or_ge j n with hlt | hge
    · exact hc j oj hoj (ih (n - j) (by omega) j rfl hlt) e he hb
    · obtain rfl : j = n := by omega
      obtain rfl : oj = o := by rw [ho] at hoj; exact (Option.some.inj hoj).symm
      exact ready_on hr ho e he hb
theorem act_ext {a b : Act} (h1 : a.tmps.size = b.tmps.size) (h2 : a.defers = b.defers) (h3 : ∀ d : Nat, a.tmps[d]? = b.tmps[d]?) : a = b := by
  obtain ⟨t, f⟩ := a
  obtain ⟨t', f'⟩ := b
  simp only at h1 h2 h3
  subst h2
  congr 1
  exact Array.ext_getElem? h3
theorem wp_region_canon {id : Nat} {a : Act} {w : World} (hm : P.follows .mixedOrders = true) (n : Nat) (hsz : ops.size = n + 1) (hc : canonB ops = true) (hsel : Region.noSelect ops = true) (hsink : Region.sinkB .any ops n = true)
    (hord : ((List.range ops.size).all fun i => ((ops[i]?).map fun o => o.after.all fun e => decide (e.on < i)).getD true) = true) (full : Act) (hfull : wiped ops.toList a = wiped ops.toList full) (W : Array Bool → World → Prop) (h0 : W (Array.replicate ops.size false) w.drew)
    (hs : ∀ i l w', i < n → W l w' → i ∈ Region.ready .any ops l → wpOp P ops noExit i (fun a' w'' => a' = full ∧ W (l.setIfInBounds i true) w'') full w')
    (hl : ∀ l w', W l w' → (∀ i, i < n → l.getD i false = true) → wpOp P ops noExit n (fun a' w'' => a' = full ∧ Q .normal full w'') full w') : (Code.region id ops true).wp P Q a w := by
  obtain ⟨f1, f2, f3⟩ := wiped_spec ops.toList a
  obtain ⟨g1, g2, g3⟩ := wiped_spec ops.toList full
  have hmem : ∀ o, o ∈ ops.toList → ∃ j, ops[j]? = some o := fun o ho => by
    obtain ⟨j, hj⟩ := List.getElem?_of_mem ho
    exact ⟨j, by simpa using hj⟩
  have step : ∀ (l : Array Bool) (a' : Act) (w' : World) (i : Nat) (o : Oper) (Z : World → Prop), Amid ops n full W Q l a' w' → i ∈ Region.ready .any ops l → ops[i]? = some o →
      wpOp P ops noExit i (fun a'' w'' => a'' = full ∧ Z w'') full w' → (∀ w'', Z w'' → (n = i → Q .normal full w'') ∧ (n ≠ i → l.getD n false = false → W (l.setIfInBounds i true) w'')) →
      wpOp P ops Q i (fun a'' w'' => Amid ops n full W Q (l.setIfInBounds i true) a'' w'') a' w' := by
    intro l a' w' i o Z hA hi ho hw hZ
    have hp := opsAll_spec hc ho
    simp only [Bool.and_eq_true] at hp
    obtain ⟨⟨hp1, hp2⟩, hp3⟩ := hp
    obtain ⟨hlt, hfree⟩ := ready_free hi
    refine wpOp_turn ho (by simpa using hp1) (fun cs b => Region.noSelect_spec hsel i o cs b ho) (fun x hx => eval_at x fun d hd => ?_) (fun a'' w'' h => by rw [h.1]) (fun v w'' h => ?_) hw
    · subst hd
      have hx2 := Array.all_eq_true_iff_forall_mem.1 hp3 _ hx
      simp only at hx2
      by_cases hex : ∃ (j : Nat) (o' : Oper), ops[j]? = some o' ∧ o'.dst = some d
      · obtain ⟨j, o', hj, hd⟩ := hex
        have hx3 := opsAll_spec hx2 hj
        rw [hd] at hx3
        simp only [bne_self_eq_false, Bool.false_or] at hx3
        unfold hasEdge at hx3
        obtain ⟨e, he, hb⟩ := Array.any_eq_true'.1 hx3
        simp only [Bool.and_eq_true, beq_iff_eq] at hb
        refine hA.some_ j o' d hj hd ?_
        rw [← hb.2]
        exact ready_on hi ho e he hb.1
      · exact hA.none_ d fun j o' hj hd => hex ⟨j, o', hj, hd⟩
    · obtain ⟨hf, hz⟩ := h
      have hsize := (put_size a' o.dst v).trans hA.size
      obtain ⟨z1, z2⟩ := hZ w'' hz
      have hfr : l.getD i false = false := not_listed hfree
      refine ⟨hsize, (put_defers' ..).trans hA.defers, ?_, ?_, ?_, ?_, ?_⟩
      · intro j o' d hj hd hjl
        by_cases hij : j = i
        · subst hij
          obtain rfl : o' = o := by rw [ho] at hj; exact (Option.some.inj hj).symm
          rw [hd] at hf ⊢
          by_cases hdl : d < full.tmps.size
          · rw [put_eq _ _ _ (by rw [hA.size]; exact hdl), ← hf, put_eq _ _ _ hdl]
          · rw [Array.getElem?_eq_none (by rw [put_size, hA.size]; omega), Array.getElem?_eq_none (by omega)]
        · have hne : o.dst ≠ some d := by
            intro e
            have := opsAll_spec hp2 hj
            simp only [Bool.or_eq_true, decide_eq_true_eq, hij, false_or, e, Option.isNone_some, Bool.false_eq_true, bne_iff_ne, ne_eq] at this
            exact this hd
          rw [put_ne _ _ _ _ hne]
          refine hA.some_ j o' d hj hd ?_
          rwa [getD_set_ne (fun e => hij e.symm)] at hjl
      · intro d hd
        rw [put_ne _ _ _ _ (hd i o ho)]
        exact hA.none_ d hd
      · intro j o' hj hjl e he hb
        by_cases hij : j = i
        · subst hij
          obtain rfl : o' = o := by rw [ho] at hj; exact (Option.some.inj hj).symm
          have := ready_on hi ho e he hb
          by_cases hei : e.on = j
          · rw [hei] at this; rw [this] at hfr; cases hfr
          · rw [getD_set_ne (fun h => hei h.symm)]; exact this
        · rw [getD_set_ne (fun h => hij h.symm)] at hjl
          have := hA.closed j o' hj hjl e he hb
          by_cases hei : e.on = i
          · rw [hei]; rw [hei] at this; rw [this] at hfr; cases hfr
          · rw [getD_set_ne (fun h => hei h.symm)]; exact this
      · intro hn
        by_cases hin : n = i
        · subst hin
          rw [getD_set_eq hfree] at hn; cases hn
        · rw [getD_set_ne (fun h => hin h.symm)] at hn
          exact z2 hin hn
      · intro hn
        by_cases hin : n = i
        · exact z1 hin
        · rw [getD_set_ne (fun h => hin h.symm)] at hn
          have := sink_all hsink hA.closed hn _ i rfl (by omega)
          rw [this] at hfr; cases hfr
  refine wp_region_inv hm (Amid ops n full W Q) ?_ ?_ ?_
  · refine ⟨by rw [← f1, hfull, g1], by rw [← f2, hfull, g2], fun j o d _ _ h => ?_, fun d hd => ?_, fun j o _ h => ?_, fun _ => h0, fun h => ?_⟩
    · rw [Go.getD_replicate_false] at h; cases h
    · have hd' : ∀ o : Oper, o ∈ ops.toList → o.dst ≠ some d := fun o ho => by obtain ⟨j, hj⟩ := hmem o ho; exact hd j o hj
      rw [← f3 d hd', hfull, g3 d hd']
    · rw [Go.getD_replicate_false] at h; cases h
    · rw [Go.getD_replicate_false] at h; cases h
  · intro l a' w' i hA hi
    obtain ⟨hlt, hfree⟩ := ready_free hi
    have ho := Array.getElem?_eq_getElem hlt
    by_cases hin : i = n
    · subst hin
      have hall := sink_free hsink hA.closed ho hi
      exact step l a' w' i _ (fun w'' => Q .normal full w'') hA hi ho (hl l w' (hA.amid (not_listed hfree)) hall) (fun _ hz => ⟨fun _ => hz, fun h => absurd rfl h⟩)
    · have hn : l.getD n false = false := by
        cases hh : l.getD n false with
        | false => rfl
        | true =>
          have := sink_all hsink hA.closed hh _ i rfl (by omega)
          rw [not_listed hfree] at this; cases this
      exact step l a' w' i _ (fun w'' => W (l.setIfInBounds i true) w'') hA hi ho (hs i l w' (by omega) (hA.amid hn) hi) (fun _ hz => ⟨fun h => absurd h.symm hin, fun _ _ => hz⟩)
  · intro l a' w' hA hsz' hr
    have hlow := ready_all hsz' hr hord
    have he : a' = full := act_ext hA.size hA.defers fun d => by
      by_cases hex : ∃ (j : Nat) (o' : Oper), ops[j]? = some o' ∧ o'.dst = some d
      · obtain ⟨j, o', hj, hd⟩ := hex
        exact hA.some_ j o' d hj hd (hlow j (Array.getElem?_eq_some_iff.1 hj).1)
      · exact hA.none_ d fun j o' hj hd => hex ⟨j, o', hj, hd⟩
    rw [he]
    exact hA.done (hlow n (by omega))
/-- the same, the values told one by one -/
theorem wp_region_values {id : Nat} {a : Act} {w : World} (hm : P.follows .mixedOrders = true) (n : Nat) (hsz : ops.size = n + 1) (hc : canonB ops = true) (hsel : Region.noSelect ops = true) (hsink : Region.sinkB .any ops n = true)
    (hord : ((List.range ops.size).all fun i => ((ops[i]?).map fun o => o.after.all fun e => decide (e.on < i)).getD true) = true) (cs : List (Nat × Value))
    (W : Array Bool → World → Prop) (h0 : W (Array.replicate ops.size false) w.drew)
    (h : ∀ full, cs.foldl (fun a x => a.put (some x.1) x.2) a = full → wiped ops.toList a = wiped ops.toList full ∧
      (∀ i l w', i < n → W l w' → i ∈ Region.ready .any ops l → wpOp P ops noExit i (fun a' w'' => a' = full ∧ W (l.setIfInBounds i true) w'') full w') ∧
      (∀ l w', W l w' → (∀ i, i < n → l.getD i false = true) → wpOp P ops noExit n (fun a' w'' => a' = full ∧ Q .normal full w'') full w')) : (Code.region id ops true).wp P Q a w := by
  obtain ⟨h1, h2, h3⟩ := h _ rfl
  exact wp_region_canon hm n hsz hc hsel hsink hord _ h1 W h0 h2 h3
end Go.Proofs.YtabcdodjkfknlaaGreatDoor
