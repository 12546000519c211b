/- Walk: the document's one, but brackets. -/
import Derived.Test.YtkibaaljpbcjeaaDoorSDm
namespace Go.Proofs.YtkibaaljpbcjeaaDoor
open Go.RowKit
theorem dOne_name {t : List UInt8} {l1 : Toks} (d : Nat) (h : t ≠ opL) : dOne d (t :: l1) = if isName t = true then dName t l1 else none := by
  unfold dOne
  simp only [h, if_false]
theorem RAt.later_leaf {P : Nat → Prop} {w : World} (k : Int) (a b : ByteArray) : RAt P w [.int .i64 k, .string a, .string b, .slice none 0 0] (.node k a.data.toList b.data.toList []) := by
  have := RAt.leaf P w k a.data.toList b.data.toList
  rw [← strV_mk, ← strV_mk] at this
  exact this
/-- the end of a walk that has stored its result into the new cell -/
theorem dend {D : Toks → Option (RT × Toks)} {w : World} {g : Nat} {l : Toks} {k : Int} {a b : ByteArray} {p2 : Option Addr} {n2 c2 : Nat} (hd : D l = none) :
    DTold D w g l (.returned (.tuple #[.agg #[.int .i64 k, .string a, .string b, .slice none 0 0], .slice p2 n2 c2, .bool false])) (w.alloc (.cells #[.int .i64 k, .string a, .string b, .slice none 0 0] 42)) :=
  ⟨(Below.refl w.heap.size w).alloc (Nat.le_refl _) _, _, _, _, _, _, _, _, _, _, _, rfl, .inl ⟨rfl, hd⟩⟩
theorem dend_ok {D : Toks → Option (RT × Toks)} {w W : World} {g : Nat} {l l' : Toks} {k : Int} {a b : ByteArray} {p2 : Option Addr} {n2 c2 : Nat} (hb : Below w.heap.size w W) (hl : LAt w g (.slice p2 n2 c2) l') (hd : D l = some (.node k a.data.toList b.data.toList [], l')) :
    DTold D w g l (.returned (.tuple #[.agg #[.int .i64 k, .string a, .string b, .slice none 0 0], .slice p2 n2 c2, .bool true])) W :=
  ⟨hb, _, _, _, _, _, _, _, _, _, _, rfl, .inr ⟨rfl, _, _, hd, .later_leaf _ _ _, hl.below hb hl.lt⟩⟩
set_option maxHeartbeats 2000000 in
set_option maxRecDepth 100000 in
theorem done_nil (d : Nat) (deep : Int) (v : Value) (w : World) (g : Nat) (h : LAt w g v []) :
    Calls Tryd.prog 61 #[v, .int .i64 deep] w (DTold (dOne d) w g []) := by
  obtain ⟨o, c, rfl, hc⟩ := h.form
  have hc5 := (Blk.new w 42 ruleZ).cell
  have hd : dOne d [] = none := by unfold dOne; rfl
  have hd' := Lib.hid hd
  clear h hd
  go_enter Tryd.func61, Tryd.ntmps61
  go_wp2_with fail
  refine bodyPost_ret (v := .tuple #[.agg #[.int .i64 0, .string ⟨#[]⟩, .string ⟨#[]⟩, .slice none 0 0], .slice (some ⟨g, o, none⟩) 0 c, .bool false]) (by simp [results, Tryd.results61, go_sem, hc5]) rfl ?_
  exact dend hd'.out
theorem str_of (t : List UInt8) : ∃ Q : ByteArray, strV t = .string Q ∧ Q.data.toList = t := ⟨⟨t.toArray⟩, rfl, rfl⟩
theorem eq_lit (T : ByteArray) (x : List UInt8) : (T.toList == x) = (T.data.toList == x) := by rw [Lib.toList_data]
def isNameSaid (T : ByteArray) (b : Bool) : Prop := ∀ w, Calls Tryd.prog 21 #[.string T] w fun e w' => e = .returned (.bool b) ∧ w = w'
/-- the name stands alone: why there is no arrow to be taken -/
def Falls (w : World) (g o : Nat) (T : ByteArray) (l1 : Toks) : Prop :=
  l1.length < 2 ∨ (2 ≤ l1.length ∧ ∃ A, w.cell? ⟨g, o + 1, none⟩ = some (.string A) ∧ (A.toList == [45, 62]) = false) ∨
  (2 ≤ l1.length ∧ ∃ A U, w.cell? ⟨g, o + 1, none⟩ = some (.string A) ∧ (A.toList == [45, 62]) = true ∧ w.cell? ⟨g, o + 2, none⟩ = some (.string U) ∧ isNameSaid U false) ∨
  (2 ≤ l1.length ∧ ∃ A U, w.cell? ⟨g, o + 1, none⟩ = some (.string A) ∧ (A.toList == [45, 62]) = true ∧ w.cell? ⟨g, o + 2, none⟩ = some (.string U) ∧ isNameSaid U true ∧ (T.toList == [116, 104, 105, 115]) = true) ∨
  (2 ≤ l1.length ∧ ∃ A U, w.cell? ⟨g, o + 1, none⟩ = some (.string A) ∧ (A.toList == [45, 62]) = true ∧ w.cell? ⟨g, o + 2, none⟩ = some (.string U) ∧ isNameSaid U true ∧ (T.toList == [116, 104, 105, 115]) = false ∧ (U.toList == [116, 104, 105, 115]) = true)
def Via (t : List UInt8) (l1 : Toks) : Prop := ∃ t2 l2, l1 = arL :: t2 :: l2 ∧ isName t2 = true ∧ t ≠ thisL ∧ t2 ≠ thisL
theorem dName_no {t : List UInt8} {l1 : Toks} (h : ¬ Via t l1) : dName t l1 = if t = thisL then some (.node 1 [] [] [], l1) else some (.node 2 t [] [], l1) := by
  unfold dName
  split
  · rename_i a t2 l2
    rw [if_neg]
    rintro ⟨rfl, h2, h3, h4⟩
    exact h ⟨t2, l2, rfl, h2, h3, h4⟩
  · rfl
theorem falls {w : World} {g o : Nat} {T : ByteArray} {l1 : Toks} (hsz : ∀ x ∈ l1, x.length ≤ 100000) (hcell : ∀ i x, l1[i]? = some x → w.cell? ⟨g, o + (i + 1), none⟩ = some (strV x)) (h : ¬ Via T.data.toList l1) : Falls w g o T l1 := by
  match l1, hsz, hcell, h with
  | [], _, _, _ => exact .inl (by simp)
  | [a], _, _, _ => exact .inl (by simp)
  | a :: t2 :: l2, hsz, hcell, h =>
    obtain ⟨A, eA, dA⟩ := str_of a
    obtain ⟨U, eU, dU⟩ := str_of t2
    have c1 := hcell 0 a rfl
    have c2 := hcell 1 t2 rfl
    rw [eA] at c1
    rw [eU] at c2
    have h2 : 2 ≤ (a :: t2 :: l2).length := by simp
    have hN := fun w => refIsName_calls U w (by rw [Lib.size_eq, dU]; have := hsz t2 (by simp); unfold maxLen; omega)
    rw [dU] at hN
    by_cases ha : a = arL
    · have e1 : (A.toList == [45, 62]) = true := by rw [ar_eq, dA, ha]; rfl
      cases hn : isName t2
      · rw [hn] at hN
        exact .inr (.inr (.inl ⟨h2, A, U, c1, e1, c2, hN⟩))
      · rw [hn] at hN
        by_cases ht : T.data.toList = thisL
        · exact .inr (.inr (.inr (.inl ⟨h2, A, U, c1, e1, c2, hN, by rw [this_eq, ht]; rfl⟩)))
        · by_cases hu : t2 = thisL
          · exact .inr (.inr (.inr (.inr ⟨h2, A, U, c1, e1, c2, hN, by rw [this_eq]; exact beq_false_of_ne ht, by rw [this_eq, dU, hu]; rfl⟩)))
          · exact absurd ⟨t2, l2, by rw [ha], hn, ht, hu⟩ h
    · exact .inr (.inl ⟨h2, A, c1, by rw [ar_eq, dA]; exact beq_false_of_ne ha⟩)
set_option maxHeartbeats 4000000 in
set_option maxRecDepth 100000 in
theorem done_name (d : Nat) (deep : Int) (v : Value) (w : World) (g : Nat) (t : List UInt8) (l1 : Toks) (h : LAt w g v (t :: l1)) (ht : t ≠ opL) :
    Calls Tryd.prog 61 #[v, .int .i64 deep] w (DTold (dOne d) w g (t :: l1)) := by
  have hsz := h.sz
  have hgl := h.lt
  obtain ⟨o, c, rfl, hc⟩ := h.form
  obtain ⟨_, _, hcell, hdrop⟩ := h.cell
  have hlen : (t :: l1).length = l1.length + 1 := rfl
  rw [hlen] at hc
  obtain ⟨T, eT, dT⟩ := str_of t
  have c0 := hcell 0 t rfl
  rw [eT, Nat.add_zero] at c0
  have e1 : (T.toList == [40]) = false := by rw [op_eq, dT]; exact beq_false_of_ne ht
  have e2 := this_eq T
  rw [dT] at e2
  have hN := fun w => refIsName_calls T w (by rw [Lib.size_eq, dT]; have := hsz t (by simp); unfold maxLen; omega)
  rw [dT] at hN
  have hd := dOne_name (l1 := l1) d ht
  have hN' := Lib.hid hN
  have hd' := Lib.hid hd
  have h' := Lib.hid h
  have hdrop' := Lib.hid hdrop
  have hcell' := Lib.hid hcell
  clear h hN hd hdrop hcell hlen
  cases hn : isName t
  · rw [hn] at hN' hd'
    have hc5 := (Blk.new w 42 ruleZ).cell
    go_enter Tryd.func61, Tryd.ntmps61
    go_wp2_with fail
    refine (hN'.out _).mono ?_
    rintro e w1 ⟨rfl, rfl⟩
    go_wp2_with fail
    refine bodyPost_ret (v := .tuple #[.agg #[.int .i64 0, .string ⟨#[]⟩, .string ⟨#[]⟩, .slice none 0 0], .slice (some ⟨g, o, none⟩) (l1.length + 1) c, .bool false]) (by simp [results, Tryd.results61, go_sem, hc5]) rfl ?_
    exact dend hd'.out
  · rw [hn] at hN' hd'
    rw [if_pos rfl] at hd'
    have hsz1 : ∀ x ∈ l1, x.length ≤ 100000 := fun x hx => hsz x (List.mem_cons_of_mem _ hx)
    have hcell1 : ∀ i x, l1[i]? = some x → w.cell? ⟨g, o + (i + 1), none⟩ = some (strV x) := fun i x hx => hcell'.out (i + 1) x hx
    have hL1 := Lib.hid (hdrop'.out 1 (by simp))
    have hL2 := Lib.hid (fun e => h'.out.cut (k := 1) e)
    by_cases hvia : Via t l1
    · obtain ⟨t2, l2, rfl, h2, h3, h4⟩ := hvia
      have hdv : dName t (arL :: t2 :: l2) = some (.node 3 t t2 [], l2) := by
        unfold dName
        exact if_pos ⟨rfl, h2, h3, h4⟩
      rw [hdv] at hd'
      obtain ⟨A, eA, dA⟩ := str_of arL
      obtain ⟨U, eU, dU⟩ := str_of t2
      have c1 := hcell1 0 arL rfl
      have c2 := hcell1 1 t2 rfl
      rw [eA] at c1
      rw [eU] at c2
      have a1 : (A.toList == [45, 62]) = true := by rw [ar_eq, dA]; rfl
      have a2 : (U.toList == [116, 104, 105, 115]) = false := by rw [this_eq, dU]; exact beq_false_of_ne h4
      have hN2 := fun w => refIsName_calls U w (by rw [Lib.size_eq, dU]; have := hsz1 t2 (by simp); unfold maxLen; omega)
      rw [dU, h2] at hN2
      have hN2' := Lib.hid hN2
      rw [show (t == thisL) = false from beq_false_of_ne h3] at e2
      rw [← dT, ← dU] at hd'
      have hL3 := Lib.hid (hdrop'.out 3 (by simp))
      have hL4 := Lib.hid (fun e => h'.out.cut (k := 3) e)
      have hc5 := (Blk.new w 42 #[.int .i64 3, .string T, .string U, .slice none 0 0]).drew.cell
      have hb5 := Lib.hid ((Below.refl w.heap.size w).alloc (Nat.le_refl _) (.cells #[.int .i64 3, .string T, .string U, .slice none 0 0] 42)).drew
      clear hdv hdrop' hL1 hL2 hcell1 hsz1 hsz hN2 h2 h3 h4 eA eU dA eT hcell' h' hn ht
      go_enter Tryd.func61, Tryd.ntmps61
      go_wp2_with fail
      refine (hN'.out _).mono ?_
      rintro e w1 ⟨rfl, rfl⟩
      go_wp2_with fail
      refine (hN2'.out _).mono ?_
      rintro e w1 ⟨rfl, rfl⟩
      go_wp2_with fail
      go_region
      go_wp2_with fail
      case inl =>
        refine bodyPost_ret (v := .tuple #[.agg #[.int .i64 3, .string T, .string U, .slice none 0 0], .slice (some ⟨g, o, none⟩) l2.length 0, .bool true]) (by simp [results, Tryd.results61, go_sem, hc5]) rfl ?_
        have := hL4.out (by omega)
        rw [← dT, ← dU]
        exact dend_ok (l' := l2) hb5.out this hd'.out
      case inr =>
        refine bodyPost_ret (v := .tuple #[.agg #[.int .i64 3, .string T, .string U, .slice none 0 0], .slice (some ⟨g, o + 3, none⟩) l2.length (c - 3), .bool true]) (by simp [results, Tryd.results61, go_sem, hc5]) rfl ?_
        rw [← dT, ← dU]
        exact dend_ok (l' := l2) hb5.out hL3.out hd'.out
    · have hF := falls (T := T) (g := g) (o := o) hsz1 hcell1 (by rw [dT]; exact hvia)
      rw [dName_no hvia] at hd'
      by_cases hth : t = thisL
      · rw [if_pos hth] at hd'
        rw [show (t == thisL) = true by rw [hth]; rfl] at e2
        have hc5 := (Blk.new w 42 #[.int .i64 1, .string ⟨#[]⟩, .string ⟨#[]⟩, .slice none 0 0]).drew.cell
        have hb5 := Lib.hid ((Below.refl w.heap.size w).alloc (Nat.le_refl _) (.cells #[.int .i64 1, .string ⟨#[]⟩, .string ⟨#[]⟩, .slice none 0 0] 42)).drew
        clear hdrop' hth hvia ht hn hcell' hcell1 hsz hsz1 h' eT dT
        rcases hF with hl2 | ⟨hl2, A, c1, a1⟩ | ⟨hl2, A, U, c1, a1, c2, hN2⟩ | ⟨hl2, A, U, c1, a1, c2, hN2, _⟩ | ⟨hl2, A, U, c1, a1, c2, hN2, a2, _⟩
        case inr.inr.inr.inr => rw [e2] at a2; cases a2
        all_goals
          go_enter Tryd.func61, Tryd.ntmps61
          go_wp2_with fail
          refine (hN'.out _).mono ?_
          rintro e w1 ⟨rfl, rfl⟩
          go_wp2_with fail
          try
            refine (hN2 _).mono ?_
            rintro e w1 ⟨rfl, rfl⟩
            go_wp2_with fail
          go_region
          go_wp2_with fail
          all_goals first
          | refine bodyPost_ret (v := .tuple #[.agg #[.int .i64 1, .string ⟨#[]⟩, .string ⟨#[]⟩, .slice none 0 0], .slice (some ⟨g, o, none⟩) l1.length 0, .bool true]) (by simp [results, Tryd.results61, go_sem, hc5]) rfl ?_
            exact dend_ok (l' := l1) hb5.out (hL2.out (by omega)) hd'.out
          | refine bodyPost_ret (v := .tuple #[.agg #[.int .i64 1, .string ⟨#[]⟩, .string ⟨#[]⟩, .slice none 0 0], .slice (some ⟨g, o + 1, none⟩) l1.length (c - 1), .bool true]) (by simp [results, Tryd.results61, go_sem, hc5]) rfl ?_
            exact dend_ok (l' := l1) hb5.out hL1.out hd'.out
      · rw [if_neg hth, ← dT] at hd'
        rw [show (t == thisL) = false from beq_false_of_ne hth] at e2
        have hc5 := (Blk.new w 42 #[.int .i64 2, .string T, .string ⟨#[]⟩, .slice none 0 0]).drew.cell
        have hb5 := Lib.hid ((Below.refl w.heap.size w).alloc (Nat.le_refl _) (.cells #[.int .i64 2, .string T, .string ⟨#[]⟩, .slice none 0 0] 42)).drew
        rw [← dT] at hL1 hL2 ⊢
        clear hdrop' hth hvia ht hn hcell' hcell1 hsz hsz1 h' eT
        rcases hF with hl2 | ⟨hl2, A, c1, a1⟩ | ⟨hl2, A, U, c1, a1, c2, hN2⟩ | ⟨hl2, A, U, c1, a1, c2, hN2, a2⟩ | ⟨hl2, A, U, c1, a1, c2, hN2, _, a2⟩
        case inr.inr.inr.inl => rw [e2] at a2; cases a2
        all_goals
          go_enter Tryd.func61, Tryd.ntmps61
          go_wp2_with fail
          refine (hN'.out _).mono ?_
          rintro e w1 ⟨rfl, rfl⟩
          go_wp2_with fail
          try
            refine (hN2 _).mono ?_
            rintro e w1 ⟨rfl, rfl⟩
            go_wp2_with fail
          go_region
          go_wp2_with fail
          all_goals first
          | refine bodyPost_ret (v := .tuple #[.agg #[.int .i64 2, .string T, .string ⟨#[]⟩, .slice none 0 0], .slice (some ⟨g, o, none⟩) l1.length 0, .bool true]) (by simp [results, Tryd.results61, go_sem, hc5]) rfl ?_
            try rw [← dT]
            exact dend_ok (l' := l1) hb5.out (hL2.out (by omega)) hd'.out
          | refine bodyPost_ret (v := .tuple #[.agg #[.int .i64 2, .string T, .string ⟨#[]⟩, .slice none 0 0], .slice (some ⟨g, o + 1, none⟩) l1.length (c - 1), .bool true]) (by simp [results, Tryd.results61, go_sem, hc5]) rfl ?_
            try rw [← dT]
            exact dend_ok (l' := l1) hb5.out hL1.out hd'.out
end Go.Proofs.YtkibaaljpbcjeaaDoor
