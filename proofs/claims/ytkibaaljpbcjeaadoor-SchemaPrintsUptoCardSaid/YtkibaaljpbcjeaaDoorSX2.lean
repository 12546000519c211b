/- Walks: the document's own; Text of a rule that is no group. Walk: the document's Text of a group. -/
import Derived.Test.YtkibaaljpbcjeaaDoorSC1
import Derived.Test.YtkibaaljpbcjeaaDoorSDm
import Derived.Test.YtkibaaljpbcjeaaDoorSQ5
namespace Go.Proofs.YtkibaaljpbcjeaaDoor
open Go.RowKit
/-- what Text tells -/
def TextSaid (T : Option (List UInt8)) (w : World) (e : Ending) (w' : World) : Prop :=
  (∃ (s : ByteArray) (ok : Bool), e = .returned (.tuple #[.string s, .bool ok]) ∧ ((ok = true ∧ T = some s.data.toList) ∨ (ok = false ∧ T = none))) ∧ Below w.heap.size w w'
set_option maxHeartbeats 1000000 in
set_option maxRecDepth 100000 in
theorem own_calls (s : ByteArray) (w : World) (hs : s.size ≤ maxLen) :
    Calls Tryd.prog 29 #[.string s] w fun e w' => e = .returned (.bool (good s.data.toList)) ∧ w = w' := by
  have hN := fun w => refIsName_calls s w hs
  have hg : good s.data.toList = (isName s.data.toList && !(s.toList == [116, 104, 105, 115])) := by rw [this_eq]; rfl
  have hN' := Lib.hid hN
  rw [hg]
  clear hN hg
  unfold maxLen at hs
  generalize isName s.data.toList = b1 at *
  cases b1
  · go_enter Tryd.func29, Tryd.ntmps29
    go_wp2_with fail
    refine (hN'.out _).mono ?_
    rintro e w1 ⟨rfl, rfl⟩
    go_wp2_with fail
    go_ret
    exact ⟨rfl, rfl⟩
  · generalize hq : (s.toList == [116, 104, 105, 115]) = q
    cases q
    all_goals
      go_enter Tryd.func29, Tryd.ntmps29
      go_wp2_with fail
      refine (hN'.out _).mono ?_
      rintro e w1 ⟨rfl, rfl⟩
      go_wp2_with fail
      go_ret
      first
        | exact ⟨rfl, rfl⟩
        | (refine ⟨ret_bool ?_, rfl⟩; simp_all)
theorem own_quiet (s : ByteArray) (w : World) (hs : s.size ≤ maxLen) :
    Calls Tryd.prog 29 #[.string s] w fun e w' => e = .returned (.bool (good s.data.toList)) ∧ w' = w := (own_calls s w hs).mono fun _ _ h => ⟨h.1, h.2.symm⟩
set_option maxHeartbeats 2000000 in
set_option maxRecDepth 100000 in
theorem text_1 (a bb : ByteArray) (p : Option Addr) (c n : Nat) (hn : n ≤ maxLen) (d : Nat) (deep : Int) (w : World) (ps : List RT) (hps : ps.length = n) :
    Calls Tryd.prog 30 #[.agg #[.int .i64 1, .string a, .string bb, .slice p n c], .int .i64 deep] w (TextSaid (ruleT d (.node 1 a.data.toList bb.data.toList ps)) w) := by
  have bx := Blk.new w 42 #[.int .i64 1, .string a, .string bb, .slice p n c]
  have hb := (Below.refl w.heap.size w).alloc (Nat.le_refl _) (.cells #[.int .i64 1, .string a, .string bb, .slice p n c] 42)
  obtain ⟨W, eW⟩ : ∃ W, w.alloc (.cells #[.int .i64 1, .string a, .string bb, .slice p n c] 42) = W := ⟨_, rfl⟩
  have hzW : W.heap.size = w.heap.size + 1 := by rw [← eW]; simp
  rw [eW] at bx hb
  have bxc := bx.cell
  have hpe : ps = [] ↔ n = 0 := by rw [← hps]; exact List.length_eq_zero_iff.symm
  have hT : (a.toList = [] ∧ bb.toList = [] ∧ n = 0 → ruleT d (.node 1 a.data.toList bb.data.toList ps) = some thisL) ∧ (¬ (a.toList = [] ∧ bb.toList = [] ∧ n = 0) → ruleT d (.node 1 a.data.toList bb.data.toList ps) = none) := by
    unfold ruleT
    rw [if_pos rfl]
    simp only [← nil_data, hpe]
    exact ⟨fun h => if_pos h, fun h => if_neg h⟩
  unfold maxLen at hn
  generalize ruleT d (.node 1 a.data.toList bb.data.toList ps) = T at *
  have hT' := Lib.hid hT
  have hb' := Lib.hid hb
  clear bx hb hT hps hpe
  by_cases ha : a.toList = []
  · have za : a.toList.isEmpty = true := by rw [List.isEmpty_iff]; exact ha
    by_cases hbb : bb.toList = []
    · have zb : bb.toList.isEmpty = true := by rw [List.isEmpty_iff]; exact hbb
      by_cases hn0 : n = 0
      · have ht := Lib.hid (hT'.out.1 ⟨ha, hbb, hn0⟩)
        clear hT'
        subst hn0
        go_enter Tryd.func30, Tryd.ntmps30
        go_wp2_with fail
        go_quiet (fail)
        go_wp2_with fail
        go_ret2
        exact ⟨⟨_, _, rfl, .inl ⟨rfl, ht.out⟩⟩, bdrewN hb'.out _⟩
      · have ht := Lib.hid (hT'.out.2 fun e => hn0 e.2.2)
        have zn : ((n : Int) == 0) = false := beq_false_of_ne (by omega)
        clear hT'
        go_enter Tryd.func30, Tryd.ntmps30
        go_wp2_with fail
        go_quiet (fail)
        go_wp2_with fail
        go_ret2
        exact ⟨⟨_, _, rfl, .inr ⟨rfl, ht.out⟩⟩, bdrewN hb'.out _⟩
    · have ht := Lib.hid (hT'.out.2 fun e => hbb e.2.1)
      have zb : bb.toList.isEmpty = false := by rw [List.isEmpty_eq_false_iff]; exact hbb
      clear hT'
      go_enter Tryd.func30, Tryd.ntmps30
      go_wp2_with fail
      go_quiet (fail)
      go_wp2_with fail
      go_ret2
      exact ⟨⟨_, _, rfl, .inr ⟨rfl, ht.out⟩⟩, bdrewN hb'.out _⟩
  · have ht := Lib.hid (hT'.out.2 fun e => ha e.1)
    have za : a.toList.isEmpty = false := by rw [List.isEmpty_eq_false_iff]; exact ha
    clear hT'
    go_enter Tryd.func30, Tryd.ntmps30
    go_wp2_with fail
    go_quiet (fail)
    go_wp2_with fail
    go_ret2
    exact ⟨⟨_, _, rfl, .inr ⟨rfl, ht.out⟩⟩, bdrewN hb'.out _⟩
set_option maxHeartbeats 2000000 in
set_option maxRecDepth 100000 in
theorem text_2 (a bb : ByteArray) (p : Option Addr) (c n : Nat) (hn : n ≤ maxLen) (hsa : a.size ≤ maxLen) (d : Nat) (deep : Int) (w : World) (ps : List RT) (hps : ps.length = n) :
    Calls Tryd.prog 30 #[.agg #[.int .i64 2, .string a, .string bb, .slice p n c], .int .i64 deep] w (TextSaid (ruleT d (.node 2 a.data.toList bb.data.toList ps)) w) := by
  have bx := Blk.new w 42 #[.int .i64 2, .string a, .string bb, .slice p n c]
  have hb := (Below.refl w.heap.size w).alloc (Nat.le_refl _) (.cells #[.int .i64 2, .string a, .string bb, .slice p n c] 42)
  obtain ⟨W, eW⟩ : ∃ W, w.alloc (.cells #[.int .i64 2, .string a, .string bb, .slice p n c] 42) = W := ⟨_, rfl⟩
  have hzW : W.heap.size = w.heap.size + 1 := by rw [← eW]; simp
  rw [eW] at bx hb
  have bxc := bx.cell
  have hpe : ps = [] ↔ n = 0 := by rw [← hps]; exact List.length_eq_zero_iff.symm
  have hT : (good a.data.toList = true ∧ bb.toList = [] ∧ n = 0 → ruleT d (.node 2 a.data.toList bb.data.toList ps) = some a.data.toList) ∧ (¬ (good a.data.toList = true ∧ bb.toList = [] ∧ n = 0) → ruleT d (.node 2 a.data.toList bb.data.toList ps) = none) := by
    unfold ruleT
    rw [if_neg (by decide), if_pos rfl]
    simp only [← nil_data, hpe]
    exact ⟨fun h => if_pos h, fun h => if_neg h⟩
  have hO := fun w => own_quiet a w hsa
  unfold maxLen at hn hsa
  generalize ruleT d (.node 2 a.data.toList bb.data.toList ps) = T at *
  have hT' := Lib.hid hT
  have hb' := Lib.hid hb
  clear bx hb hT hps hpe
  cases hg : good a.data.toList
  · have hOA := Lib.hid hO
    rw [hg] at hOA
    have ht := Lib.hid (hT'.out.2 fun e => by rw [e.1] at hg; cases hg)
    clear hT' hO hg
    go_enter Tryd.func30, Tryd.ntmps30
    go_wp2_with fail
    go_quiet ((go_at_call 29; exact Calls.quiet_of_same (hOA.out _)))
    go_wp2_with fail
    go_ret2
    exact ⟨⟨_, _, rfl, .inr ⟨rfl, ht.out⟩⟩, bdrewN hb'.out _⟩
  · have hOA := Lib.hid hO
    rw [hg] at hOA
    clear hO
    by_cases hbb : bb.toList = []
    · have zb : bb.toList.isEmpty = true := by rw [List.isEmpty_iff]; exact hbb
      by_cases hn0 : n = 0
      · have ht := Lib.hid (hT'.out.1 ⟨hg, hbb, hn0⟩)
        clear hT' hg
        subst hn0
        go_enter Tryd.func30, Tryd.ntmps30
        go_wp2_with fail
        go_quiet ((go_at_call 29; exact Calls.quiet_of_same (hOA.out _)))
        go_wp2_with fail
        go_ret2
        exact ⟨⟨_, _, rfl, .inl ⟨rfl, ht.out⟩⟩, bdrewN hb'.out _⟩
      · have ht := Lib.hid (hT'.out.2 fun e => hn0 e.2.2)
        have zn : ((n : Int) == 0) = false := beq_false_of_ne (by omega)
        clear hT' hg
        go_enter Tryd.func30, Tryd.ntmps30
        go_wp2_with fail
        go_quiet ((go_at_call 29; exact Calls.quiet_of_same (hOA.out _)))
        go_wp2_with fail
        go_ret2
        exact ⟨⟨_, _, rfl, .inr ⟨rfl, ht.out⟩⟩, bdrewN hb'.out _⟩
    · have ht := Lib.hid (hT'.out.2 fun e => hbb e.2.1)
      have zb : bb.toList.isEmpty = false := by rw [List.isEmpty_eq_false_iff]; exact hbb
      clear hT' hg
      go_enter Tryd.func30, Tryd.ntmps30
      go_wp2_with fail
      go_quiet ((go_at_call 29; exact Calls.quiet_of_same (hOA.out _)))
      go_wp2_with fail
      go_ret2
      exact ⟨⟨_, _, rfl, .inr ⟨rfl, ht.out⟩⟩, bdrewN hb'.out _⟩
set_option maxHeartbeats 2000000 in
set_option maxRecDepth 100000 in
theorem text_3 (a bb : ByteArray) (p : Option Addr) (c n : Nat) (hn : n ≤ maxLen) (hsa : a.size ≤ 1000000000) (hsb : bb.size ≤ 1000000000) (d : Nat) (deep : Int) (w : World) (ps : List RT) (hps : ps.length = n) :
    Calls Tryd.prog 30 #[.agg #[.int .i64 3, .string a, .string bb, .slice p n c], .int .i64 deep] w (TextSaid (ruleT d (.node 3 a.data.toList bb.data.toList ps)) w) := by
  have bx := Blk.new w 42 #[.int .i64 3, .string a, .string bb, .slice p n c]
  have hb := (Below.refl w.heap.size w).alloc (Nat.le_refl _) (.cells #[.int .i64 3, .string a, .string bb, .slice p n c] 42)
  obtain ⟨W, eW⟩ : ∃ W, w.alloc (.cells #[.int .i64 3, .string a, .string bb, .slice p n c] 42) = W := ⟨_, rfl⟩
  have hzW : W.heap.size = w.heap.size + 1 := by rw [← eW]; simp
  rw [eW] at bx hb
  have bxc := bx.cell
  have hpe : ps = [] ↔ n = 0 := by rw [← hps]; exact List.length_eq_zero_iff.symm
  have hT : (good a.data.toList = true ∧ good bb.data.toList = true ∧ n = 0 → ruleT d (.node 3 a.data.toList bb.data.toList ps) = some (a.data.toList ++ arL ++ bb.data.toList)) ∧ (¬ (good a.data.toList = true ∧ good bb.data.toList = true ∧ n = 0) → ruleT d (.node 3 a.data.toList bb.data.toList ps) = none) := by
    unfold ruleT
    rw [if_neg (by decide), if_neg (by decide), if_pos rfl]
    simp only [hpe]
    exact ⟨fun h => if_pos h, fun h => if_neg h⟩
  have hA := fun w => own_quiet a w (by unfold maxLen; omega)
  have hB := fun w => own_quiet bb w (by unfold maxLen; omega)
  unfold maxLen at hn
  have hout : ((a ++ ⟨#[45, 62]⟩ ++ bb : ByteArray)).data.toList = a.data.toList ++ arL ++ bb.data.toList := by simp [arL]
  rw [← hout] at hT
  generalize ruleT d (.node 3 a.data.toList bb.data.toList ps) = T at *
  have hT' := Lib.hid hT
  have hb' := Lib.hid hb
  clear bx hb hT hps hpe hout
  cases hg : good a.data.toList
  · have hOA := Lib.hid hA
    have hOB := Lib.hid hB
    rw [hg] at hOA
    have ht := Lib.hid (hT'.out.2 fun e => by rw [e.1] at hg; cases hg)
    clear hT' hA hB hg
    go_enter Tryd.func30, Tryd.ntmps30
    go_wp2_with fail
    go_quiet (first | (go_at_call_of 29 (Value.string a); exact Calls.quiet_of_same (hOA.out _)) | (go_at_call_of 29 (Value.string bb); exact Calls.quiet_of_same (hOB.out _)))
    go_wp2_with fail
    go_ret2
    exact ⟨⟨_, _, rfl, .inr ⟨rfl, ht.out⟩⟩, bdrewN hb'.out _⟩
  · cases hg2 : good bb.data.toList
    · have hOA := Lib.hid hA
      have hOB := Lib.hid hB
      rw [hg] at hOA
      rw [hg2] at hOB
      have ht := Lib.hid (hT'.out.2 fun e => by rw [e.2.1] at hg2; cases hg2)
      clear hT' hA hB hg hg2
      go_enter Tryd.func30, Tryd.ntmps30
      go_wp2_with fail
      go_quiet (first | (go_at_call_of 29 (Value.string a); exact Calls.quiet_of_same (hOA.out _)) | (go_at_call_of 29 (Value.string bb); exact Calls.quiet_of_same (hOB.out _)))
      go_wp2_with fail
      go_ret2
      exact ⟨⟨_, _, rfl, .inr ⟨rfl, ht.out⟩⟩, bdrewN hb'.out _⟩
    · have hOA := Lib.hid hA
      have hOB := Lib.hid hB
      rw [hg] at hOA
      rw [hg2] at hOB
      clear hA hB
      by_cases hn0 : n = 0
      · have ht := Lib.hid (hT'.out.1 ⟨hg, hg2, hn0⟩)
        clear hT' hg hg2
        subst hn0
        go_enter Tryd.func30, Tryd.ntmps30
        go_wp2_with fail
        go_quiet (first | (go_at_call_of 29 (Value.string a); exact Calls.quiet_of_same (hOA.out _)) | (go_at_call_of 29 (Value.string bb); exact Calls.quiet_of_same (hOB.out _)))
        go_wp2_with fail
        go_ret2
        exact ⟨⟨_, _, rfl, .inl ⟨rfl, ht.out⟩⟩, bdrewN hb'.out _⟩
      · have ht := Lib.hid (hT'.out.2 fun e => hn0 e.2.2)
        have zn : ((n : Int) == 0) = false := beq_false_of_ne (by omega)
        clear hT' hg hg2
        go_enter Tryd.func30, Tryd.ntmps30
        go_wp2_with fail
        go_quiet (first | (go_at_call_of 29 (Value.string a); exact Calls.quiet_of_same (hOA.out _)) | (go_at_call_of 29 (Value.string bb); exact Calls.quiet_of_same (hOB.out _)))
        go_wp2_with fail
        go_ret2
        exact ⟨⟨_, _, rfl, .inr ⟨rfl, ht.out⟩⟩, bdrewN hb'.out _⟩
end Go.Proofs.YtkibaaljpbcjeaaDoor
namespace Go.Proofs.YtkibaaljpbcjeaaDoor
open Go.RowKit
theorem tl_wt : ∀ (r : RT), r.tl ≤ r.wt
  | .node k a b ps => by
    have hL : ∀ (qs : List RT), (∀ p ∈ qs, p ∈ ps) → tlL qs ≤ wtL qs := by
      intro qs
      induction qs with
      | nil => intro _; rw [tlL_nil]; exact Nat.zero_le _
      | cons q qs ih =>
        intro hm
        have hqm : q ∈ ps := hm q (by simp)
        have h1 := tl_wt q
        have h2 := ih fun p hp => hm p (List.mem_cons_of_mem _ hp)
        have e : wtL (q :: qs) = q.wt + 8 + wtL qs := by conv => lhs; unfold wtL
        rw [tlL_cons, e]; omega
    have := hL ps fun _ h => h
    rw [tl_node, RT.wt_eq]
    show a.length + b.length + 4 + tlL ps ≤ a.length + b.length + 8 + wtL ps
    omega
termination_by r => SizeOf.sizeOf r
decreasing_by exact part_lt (r := .node k a b ps) hqm
/-- Text of a rule tells what it should -/
def TextOK (q : RT) : Prop := ∀ (d : Nat) (deep : Int) (w : World) (cs : List Value), d ≤ 8 → deep = 8 - d → RV w cs q → q.wt ≤ 900000000 → Calls Tryd.prog 30 #[.agg cs.toArray, .int .i64 deep] w (TextSaid (ruleT d q) w)
/-- parts written so far -/
structure TInv (k : Int) (d : Nat) (ps : List RT) (j : Nat) (O : ByteArray) : Prop where
  len : O.size + wtL (ps.drop j) ≤ wtL ps
  said : partsT k d true ps = (partsT k d (decide (j = 0)) (ps.drop j)).map fun u => O.data.toList ++ u
theorem TInv.start (k : Int) (d : Nat) (ps : List RT) : TInv k d ps 0 ⟨#[]⟩ := by
  refine ⟨by rw [List.drop_zero]; exact Nat.le_of_eq (Nat.zero_add _), ?_⟩
  rw [List.drop_zero]
  show partsT k d true ps = (partsT k d true ps).map fun u => [] ++ u
  cases partsT k d true ps <;> rfl
theorem TInv.bad {k : Int} {d : Nat} {ps : List RT} {j : Nat} {O : ByteArray} {q : RT} (h : TInv k d ps j O) (hq : ps[j]? = some q) (hb : q.kind = k ∨ partT k d q = none) : partsT k d true ps = none := by
  have hlt := (List.getElem?_eq_some_iff.1 hq).1
  have hd : ps.drop j = q :: ps.drop (j + 1) := by rw [List.drop_eq_getElem_cons hlt, (List.getElem?_eq_some_iff.1 hq).2]
  rw [h.said, hd, partsT_cons]
  by_cases hk : q.kind = k
  · rw [if_pos hk]; rfl
  · rw [if_neg hk, hb.resolve_left hk]; rfl
theorem TInv.step {k : Int} {d : Nat} {ps : List RT} {j : Nat} {O O' : ByteArray} {q : RT} {t : List UInt8} (h : TInv k d ps j O) (hq : ps[j]? = some q) (hk : q.kind ≠ k) (ht : partT k d q = some t) (hO : O'.data.toList = O.data.toList ++ (if j = 0 then [] else sepT k) ++ t) (hl : O'.size ≤ O.size + (q.wt + 8)) : TInv k d ps (j + 1) O' := by
  have hlt := (List.getElem?_eq_some_iff.1 hq).1
  have hd : ps.drop j = q :: ps.drop (j + 1) := by rw [List.drop_eq_getElem_cons hlt, (List.getElem?_eq_some_iff.1 hq).2]
  obtain ⟨h1, h2⟩ := h
  have e : wtL (q :: ps.drop (j + 1)) = q.wt + 8 + wtL (ps.drop (j + 1)) := by conv => lhs; unfold wtL
  rw [hd, e] at h1
  refine ⟨by omega, ?_⟩
  rw [h2, hd, partsT_cons, if_neg hk, ht, hO, show decide (j + 1 = 0) = false from decide_eq_false (by omega)]
  cases partsT k d false (ps.drop (j + 1)) with
  | none => rfl
  | some u =>
    show some (O.data.toList ++ ((if decide (j = 0) = true then [] else sepT k) ++ t ++ u)) = some (O.data.toList ++ (if j = 0 then [] else sepT k) ++ t ++ u)
    simp [decide_eq_true_eq]
theorem TInv.done {k : Int} {d : Nat} {ps : List RT} {O : ByteArray} (h : TInv k d ps ps.length O) : partsT k d true ps = some O.data.toList := by
  rw [h.said, List.drop_eq_nil_of_le (Nat.le_refl _)]
  have e : partsT k d (decide (ps.length = 0)) [] = some [] := by unfold partsT; rfl
  rw [e]
  show some (O.data.toList ++ []) = _
  rw [List.append_nil]
theorem part_len {k : Int} {d : Nat} {q : RT} {t : List UInt8} (ht : partT k d q = some t) : t.length ≤ q.wt + 2 := by
  have h := tl_wt q
  by_cases h5 : k = 5 ∧ q.kind = 4
  · cases d with
    | zero => rw [partT_0 h5.1 h5.2] at ht; cases ht
    | succ d =>
      rw [partT_s h5.1 h5.2] at ht
      cases hr : ruleT d q with
      | none => rw [hr] at ht; cases ht
      | some z =>
        rw [hr] at ht
        obtain rfl := Option.some.inj ht
        have := rule_len q d z hr
        simp only [List.length_append]
        rw [show opL.length = 1 from rfl, show clL.length = 1 from rfl]
        omega
  · rw [partT_ne h5] at ht
    have := rule_len q d t ht
    omega
theorem bd (x y : ByteArray) : (x ++ y).data.toList = x.data.toList ++ y.data.toList := by simp
theorem dec0 (j : Nat) (h : j = 0) : (decide ((0 : Int) < (j : Int))) = false := decide_eq_false (by omega)
theorem dec1 (j : Nat) (h : 0 < j) : (decide ((0 : Int) < (j : Int))) = true := decide_eq_true (by omega)
set_option maxHeartbeats 8000000 in
set_option maxRecDepth 100000 in
theorem text_grp4 (a bb : ByteArray) (p : Option Addr) (c : Nat) (ps : List RT) (ds : List Value) (w : World) (hrow : RowV w (.slice p ps.length c) ps.length ds)
    (hps : ∀ (i : Nat) (q : RT), ps[i]? = some q → RV w ((ds.drop (i * 4)).take 4) q) (hrec : ∀ q ∈ ps, TextOK q) (d : Nat) (deep : Int) (hd : d ≤ 8) (hdp : deep = 8 - d) (hl : wtL ps ≤ 900000000) :
    Calls Tryd.prog 30 #[.agg #[.int .i64 4, .string a, .string bb, .slice p ps.length c], .int .i64 deep] w (TextSaid (ruleT d (.node 4 a.data.toList bb.data.toList ps)) w) := by
  have hmax := hrow.1
  unfold maxLen at hmax
  have bx := Blk.new w 42 #[.int .i64 4, .string a, .string bb, .slice p ps.length c]
  have hb := (Below.refl w.heap.size w).alloc (Nat.le_refl _) (.cells #[.int .i64 4, .string a, .string bb, .slice p ps.length c] 42)
  obtain ⟨W, eW⟩ : ∃ W, w.alloc (.cells #[.int .i64 4, .string a, .string bb, .slice p ps.length c] 42) = W := ⟨_, rfl⟩
  have hzW : W.heap.size = w.heap.size + 1 := by rw [← eW]; simp
  rw [eW] at bx hb
  have bxc := bx.cell
  have hT : (a.toList = [] ∧ bb.toList = [] ∧ 2 ≤ ps.length → ruleT d (.node 4 a.data.toList bb.data.toList ps) = partsT 4 d true ps) ∧ (¬ (a.toList = [] ∧ bb.toList = [] ∧ 2 ≤ ps.length) → ruleT d (.node 4 a.data.toList bb.data.toList ps) = none) := by
    rw [ruleT_grp (by decide)]
    simp only [← nil_data]
    exact ⟨fun h => if_pos h, fun h => if_neg h⟩
  generalize ruleT d (.node 4 a.data.toList bb.data.toList ps) = T at *
  generalize hn : ps.length = n at *
  have hn' := Lib.hid hn
  have hT' := Lib.hid hT
  have hb' := Lib.hid hb
  have bx' := Lib.hid bx
  have hrow' := Lib.hid hrow
  have hps' := Lib.hid hps
  have hrec' := Lib.hid hrec
  clear bx hb hT hn hrow hps hrec
  by_cases ha : a.toList = []
  rotate_left
  · have ht := Lib.hid (hT'.out.2 fun e => ha e.1)
    have za : a.toList.isEmpty = false := by rw [List.isEmpty_eq_false_iff]; exact ha
    clear hT'
    go_enter Tryd.func30, Tryd.ntmps30
    go_wp2_with fail
    go_ret2
    exact ⟨⟨_, _, rfl, .inr ⟨rfl, ht.out⟩⟩, hb'.out⟩
  have za : a.toList.isEmpty = true := by rw [List.isEmpty_iff]; exact ha
  by_cases hbb : bb.toList = []
  rotate_left
  · have ht := Lib.hid (hT'.out.2 fun e => hbb e.2.1)
    have zb : bb.toList.isEmpty = false := by rw [List.isEmpty_eq_false_iff]; exact hbb
    clear hT'
    go_enter Tryd.func30, Tryd.ntmps30
    go_wp2_with fail
    go_ret2
    exact ⟨⟨_, _, rfl, .inr ⟨rfl, ht.out⟩⟩, hb'.out⟩
  have zb : bb.toList.isEmpty = true := by rw [List.isEmpty_iff]; exact hbb
  by_cases hn2 : n < 2
  · have ht := Lib.hid (hT'.out.2 fun e => by omega)
    have zn : decide ((n : Int) < 2) = true := decide_eq_true (by omega)
    clear hT'
    go_enter Tryd.func30, Tryd.ntmps30
    go_wp2_with fail
    go_ret2
    exact ⟨⟨_, _, rfl, .inr ⟨rfl, ht.out⟩⟩, hb'.out⟩
  have zn : decide ((n : Int) < 2) = false := decide_eq_false (by omega)
  have ht := hT'.out.1 ⟨ha, hbb, by omega⟩
  have ht' := Lib.hid ht
  have hd0 : 0 ≤ deep := by omega
  have hd8 : deep ≤ 8 := by omega
  have hdp' := Lib.hid hdp
  clear hT' ht hdp
  go_enter Tryd.func30, Tryd.ntmps30
  go_wp2_with fail
  go_loopw [6, 91] (fun l i wr => ∃ (j : Nat) (O : ByteArray), j ≤ n ∧ i = .int .i64 j ∧ l = .string O ∧ TInv 4 d ps j O ∧ Blk wr w.heap.size 42 #[.int .i64 4, .string a, .string bb, .slice p n c] ∧ Below w.heap.size w wr ∧ w.heap.size + 1 ≤ wr.heap.size) (fun _ i _ => n - (intOf i).toNat)
  case atStart => exact ⟨0, ⟨#[]⟩, Nat.zero_le _, rfl, rfl, TInv.start _ _ _, bx'.out, hb'.out, by omega⟩
  case round =>
    obtain ⟨j, O, hj, rfl, rfl, hI, hX, hB, hz⟩ := hrel
    by_cases hlt : j < n
    · have hjl : j < ps.length := by rw [hn'.out]; exact hlt
      obtain ⟨q, hq⟩ : ∃ q, ps[j]? = some q := ⟨_, List.getElem?_eq_getElem hjl⟩
      obtain ⟨g, o, rfl, hc1, hcell⟩ := (hrow'.out.below hB).cell (by omega)
      obtain ⟨kq, aq, bq, pq, cq, Rq, hqe, lg, x0, x1, x2, x3⟩ := RV.part hcell hq ((hps'.out j _ hq).later hB)
      have hkq : q.kind = kq := by rw [hqe]; rfl
      have hqm := List.mem_of_getElem? hq
      have hqw := wtL_mem hqm
      have hlen := hI.len
      obtain ⟨w3, e3⟩ : ∃ w3, wr.alloc (.cells #[.int .i64 kq, .string aq, .string bq, .slice pq q.parts.length cq] 42) = w3 := ⟨_, rfl⟩
      have hb3 := (Below.refl wr.heap.size wr).alloc (Nat.le_refl _) (.cells #[.int .i64 kq, .string aq, .string bq, .slice pq q.parts.length cq] 42)
      have bq3 := Blk.new wr 42 #[.int .i64 kq, .string aq, .string bq, .slice pq q.parts.length cq]
      have hz3 : w3.heap.size = wr.heap.size + 1 := by rw [← e3]; simp
      rw [e3] at hb3 bq3
      have B3 := hB.trans (hb3.mono (by omega))
      have X3 := hX.below hb3 (by omega)
      have c3 := bq3.cell
      have X3c := X3.cell
      have R3 := Rq.later hb3
      have hbad := fun h => hI.bad hq h
      have hI' := Lib.hid hI
      have hq' := Lib.hid hq
      have hbad' := Lib.hid hbad
      have B3' := Lib.hid B3
      have X3' := Lib.hid X3
      have bq3' := Lib.hid bq3
      have R3' := Lib.hid R3
      have lx3 : w.heap.size < w3.heap.size := by omega
      have lq3 : wr.heap.size < w3.heap.size := by omega
      clear hI hq hbad B3 X3 bq3 R3 hb3 Rq hqe hcell hjl hB hX
      by_cases hkk : kq = 4
      · have hnone := Lib.hid (hbad'.out (.inl (by rw [hkq, hkk])))
        clear hbad' hkq
        subst hkk
        go_wp2_with fail
        go_ret2
        exact ⟨⟨_, _, rfl, .inr ⟨rfl, by rw [ht'.out]; exact hnone.out⟩⟩, B3'.out⟩
      have o2 : (kq != 4) = true := bne_iff_ne.2 hkk
      have hpt : partT 4 d q = ruleT d q := partT_ne fun e => absurd e.1 (by decide)
      have P := hrec'.out q hqm d deep w3 _ hd hdp'.out R3'.out (by omega)
      have P' := Lib.hid P
      clear P R3' hqm
      go_wp2_with fail
      refine P'.out.mono ?_
      rintro e w4 ⟨⟨s, ok, rfl, hs⟩, hb4⟩
      have l4 := hb4.size
      have B4 := B3'.out.trans (hb4.mono (by omega))
      have X4 := X3'.out.below hb4 lx3
      have X4c := X4.cell
      have bq4 := bq3'.out.below hb4 lq3
      have bq4c := bq4.cell
      have lx4 : w.heap.size < w4.heap.size := by omega
      have lq4 : wr.heap.size < w4.heap.size := by omega
      have B4' := Lib.hid B4
      have X4' := Lib.hid X4
      rcases hs with ⟨rfl, hs⟩ | ⟨rfl, hs⟩
      rotate_left
      · have hnone := Lib.hid (hbad'.out (.inr (by rw [hpt, hs])))
        clear hbad' B4 X4 bq4 hb4 hs P' hpt
        go_wp2_with fail
        go_ret2
        exact ⟨⟨_, _, rfl, .inr ⟨rfl, by rw [ht'.out]; exact hnone.out⟩⟩, B4'.out⟩
      have hsome : partT 4 d q = some (s.data.toList) := by rw [hpt, hs]
      have htl := part_len hsome
      have hss : s.size ≤ q.wt + 2 := by
        rw [Lib.size_eq]
        refine Nat.le_trans ?_ htl
        simp
      have hsome' := Lib.hid hsome
      clear hbad' B4 X4 bq4 hb4 hs P' hpt hsome htl
      rcases Nat.eq_zero_or_pos j with hj0 | hj0
      · have z1 := dec0 j hj0
        have hO : TInv 4 d ps (j + 1) (O ++ s) := by
          refine hI'.out.step hq'.out (by rw [hkq]; exact hkk) hsome'.out ?_ ?_
          · rw [if_pos hj0, List.append_nil, bd]
          · rw [ByteArray.size_append]; omega
        have hO' := Lib.hid hO
        clear hO
        go_wp2_with fail
        go_roundw
        case rel => exact ⟨j + 1, _, by omega, by go_num, rfl, hO'.out, X4'.out, B4'.out, by omega⟩
        case measure => simp [intOf]; omega
      · have z1 := dec1 j hj0
        have hO : TInv 4 d ps (j + 1) (O ++ ⟨#[32, 124, 32]⟩ ++ s) := by
          refine hI'.out.step hq'.out (by rw [hkq]; exact hkk) hsome'.out ?_ ?_
          · rw [if_neg (by omega), bd, bd]; rfl
          · rw [ByteArray.size_append, ByteArray.size_append, show (⟨#[32, 124, 32]⟩ : ByteArray).size = 3 from rfl]; omega
        have hO' := Lib.hid hO
        clear hO
        go_wp2_with fail
        go_roundw
        case rel => exact ⟨j + 1, _, by omega, by go_num, rfl, hO'.out, X4'.out, B4'.out, by omega⟩
        case measure => simp [intOf]; omega
    · obtain rfl : j = n := by omega
      have hE := hI
      rw [← hn'.out] at hE
      have hE' := Lib.hid hE.done
      have hB' := Lib.hid hB
      clear hE hI hX hB
      go_wp2_with fail
      go_ret2
      exact ⟨⟨_, _, rfl, .inl ⟨rfl, by rw [ht'.out]; exact hE'.out⟩⟩, hB'.out⟩
end Go.Proofs.YtkibaaljpbcjeaaDoor
