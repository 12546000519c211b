/- Walks: schema: one, this. Walks: schema: one, names. -/
import Derived.Test.YtkibaaljpbcjeaaDoorSPl
namespace Go.Proofs.YtkibaaljpbcjeaaDoor
open Go.RowKit
section
variable {s : List UInt8}
theorem toks_cons (h : pk s ≠ []) : toks s = pk s :: toks (rest s) := by
  rw [toks_eq]
  have h2 : (pk s).isEmpty = false := by cases hp : pk s with
    | nil => exact absurd hp h
    | cons a l => rfl
  have h1 : (trimL s).isEmpty = false := by
    cases ht : (trimL s).isEmpty
    · rfl
    · exact absurd (pk_trim ht) h
  rw [h1, h2]; rfl
theorem toks_end (h : (trimL s).isEmpty = true) : toks s = [] := by rw [toks_eq, if_pos h]
theorem toks_bad (h : pbad s = true) : toks s = [[]] := by
  unfold pbad at h
  rw [Bool.and_eq_true] at h
  rw [toks_eq, h.2]
  have h1 := h.1
  rw [Bool.not_eq_true'] at h1
  rw [h1]; rfl
theorem pbad_of (h : pk s = []) : pbad s = !(trimL s).isEmpty := by unfold pbad; rw [h]; simp
theorem pbad_no (h : pk s ≠ []) : pbad s = false := by
  unfold pbad
  cases hp : pk s with
  | nil => exact absurd hp h
  | cons a l => simp
theorem head_some {t : List UInt8} (ht : t ≠ []) : (toks s).head? = some t ↔ pk s = t := by
  by_cases h : pk s = []
  · cases he : (trimL s).isEmpty
    · rw [toks_bad (by rw [pbad_of h, he]; rfl), h]
      constructor
      · intro e; exact Option.some.inj e
      · intro e; exact absurd e.symm ht
    · rw [toks_end he, h]
      constructor
      · intro e; cases e
      · intro e; exact absurd e.symm ht
  · rw [toks_cons h]
    exact ⟨fun e => Option.some.inj e, fun e => congrArg some e⟩
theorem head_bad : (toks s).head? = some [] ↔ pbad s = true := by
  by_cases h : pk s = []
  · cases he : (trimL s).isEmpty
    · have hb : pbad s = true := by rw [pbad_of h, he]; rfl
      rw [toks_bad hb, hb]; exact ⟨fun _ => rfl, fun _ => rfl⟩
    · rw [toks_end he, pbad_of h, he]
      exact ⟨fun e => (by cases e), fun e => (by cases e)⟩
  · rw [toks_cons h, pbad_no h]
    exact ⟨fun e => absurd (Option.some.inj e) h, fun e => (by cases e)⟩
end
/-- a group has two parts at least, nothing else has any -/
def okR (r : RT) : Prop := ((r.kind = 4 ∨ r.kind = 5) ∧ 2 ≤ r.parts.length) ∨ (r.kind ≠ 4 ∧ r.kind ≠ 5 ∧ r.parts = [])
/-- what is left of s, and how many parts came of what was taken -/
structure Sized (s s' : List UInt8) (r : RT) : Prop where
  ok : okR r
  le : s'.length ≤ s.length
  parts : r.parts.length + s'.length ≤ s.length + 1
theorem Sized.leaf {s s' : List UInt8} {k : Int} {a b : List UInt8} (hk : k ≠ 4 ∧ k ≠ 5) (h : s'.length ≤ s.length) : Sized s s' (.node k a b []) := ⟨.inr ⟨hk.1, hk.2, rfl⟩, h, by show 0 + _ ≤ _; omega⟩
theorem Sized.wide {s s' t t' : List UInt8} {r : RT} (h : Sized s s' r) (h1 : s.length ≤ t.length) (h2 : t'.length ≤ s'.length) : Sized t t' r := ⟨h.ok, by have := h.le; omega, by have := h.parts; omega⟩
/-- what a walk over a rule leaves -/
def Told (G : Toks → Option (RT × Toks)) (w : World) (g : Nat) (s : List UInt8) (deep : Int) (e : Ending) (w' : World) : Prop :=
  ∃ (cs : List Value) (r : RT) (s' : List UInt8) (odd' : Bool) (deep' : Int), e = .returned (.agg cs.toArray) ∧ RAt (fun j => w.heap.size ≤ j) w' cs r ∧ RdAt w' g s' odd' deep' ∧ Sized s s' r ∧ Keeps (fun j => j = g) w w' ∧ ((G (toks s) = none ∧ odd' = true) ∨ (G (toks s) = some (r, toks s') ∧ odd' = false ∧ deep' = deep))
theorem RAt.leaf (P : Nat → Prop) (w : World) (k : Int) (a b : List UInt8) : RAt P w [.int .i64 k, strV a, strV b, .slice none 0 0] (.node k a b []) := by
  refine .mk (cs := []) (.inl ⟨rfl, rfl⟩) (fun g hg => by cases hg) rfl fun i p h => by simp at h
abbrev ruleZ : Array Value := #[.int .i64 0, .string ⟨#[]⟩, .string ⟨#[]⟩, .slice none 0 0]
theorem gOne_this {s : List UInt8} (d : Nat) (h : pk s = thisL) : gOne d (toks s) = if pk (rest s) = arL then none else some (.node 1 [] [] [], toks (rest s)) := by
  have h0 : pk s ≠ [] := by rw [h]; exact List.cons_ne_nil _ _
  rw [toks_cons h0, h]
  unfold gOne
  have e : thisL ≠ opL := by decide
  simp only [e, if_false, if_true]
  by_cases ha : pk (rest s) = arL
  · rw [if_pos ha, if_pos ((head_some (by decide)).2 ha)]
  · rw [if_neg ha, if_neg fun e => ha ((head_some (by decide)).1 e)]
theorem ar_eq (s : ByteArray) : (s.toList == [45, 62]) = (s.data.toList == arL) := by rw [Lib.toList_data]; rfl
theorem RdAt.odd {w : World} {g : Nat} {s : List UInt8} {o : Bool} {d : Int} (h : RdAt w g s o d) (o' : Bool) : RdAt (w.setCell ⟨g, 1, none⟩ (.bool o')) g s o' d := Blk.set_ h 1 (.bool o')
theorem RdAt.deep {w : World} {g : Nat} {s : List UInt8} {o : Bool} {d : Int} (h : RdAt w g s o d) (d' : Int) : RdAt (w.setCell ⟨g, 2, none⟩ (.int .i64 d')) g s o d' := Blk.set_ h 2 (.int .i64 d')
/-- what a store of the result leaves -/
theorem put_rule {w V : World} {g : Nat} {s' : List UInt8} {o : Bool} {d : Int} {z : Array Value} (hz : z.size = 4) (h : RdAt V g s' o d) (hr : Blk V w.heap.size 42 z) (hk : Keeps (fun j => j = g) w V) (hg : g < w.heap.size) (v0 v1 v2 v3 : Value) :
    ∃ W, ((((V.setCell ⟨w.heap.size, 0, none⟩ v0).setCell ⟨w.heap.size, 1, none⟩ v1).setCell ⟨w.heap.size, 2, none⟩ v2).setCell ⟨w.heap.size, 3, none⟩ v3) = W ∧ Blk W w.heap.size 42 #[v0, v1, v2, v3] ∧ RdAt W g s' o d ∧ Keeps (fun j => j = g) w W ∧ Keeps (fun j => j = w.heap.size) V W := by
  have hn : g ≠ w.heap.size := Nat.ne_of_lt hg
  refine ⟨_, rfl, ?_, ?_, ?_, ?_⟩
  · have := (((hr.set_ 0 v0).set_ 1 v1).set_ 2 v2).set_ 3 v3
    have e : (((z.setIfInBounds 0 v0).setIfInBounds 1 v1).setIfInBounds 2 v2).setIfInBounds 3 v3 = #[v0, v1, v2, v3] := by
      obtain ⟨l⟩ := z
      match l, hz with
      | [_, _, _, _], _ => rfl
    rw [e] at this; exact this
  · exact Blk.far (Blk.far (Blk.far (Blk.far h (p := ⟨w.heap.size, 0, none⟩) hn _) (p := ⟨w.heap.size, 1, none⟩) hn _) (p := ⟨w.heap.size, 2, none⟩) hn _) (p := ⟨w.heap.size, 3, none⟩) hn _
  · exact (((hk.setCell (p := ⟨w.heap.size, 0, none⟩) (.inr (Nat.le_refl _)) _).setCell (p := ⟨w.heap.size, 1, none⟩) (.inr (Nat.le_refl _)) _).setCell (p := ⟨w.heap.size, 2, none⟩) (.inr (Nat.le_refl _)) _).setCell (p := ⟨w.heap.size, 3, none⟩) (.inr (Nat.le_refl _)) _
  · exact ((((Keeps.refl (fun j => j = w.heap.size) V).setCell (p := ⟨w.heap.size, 0, none⟩) (.inl rfl) _).setCell (p := ⟨w.heap.size, 1, none⟩) (.inl rfl) _).setCell (p := ⟨w.heap.size, 2, none⟩) (.inl rfl) _).setCell (p := ⟨w.heap.size, 3, none⟩) (.inl rfl) _
set_option maxHeartbeats 2000000 in
set_option maxRecDepth 100000 in
theorem one_this (s : List UInt8) (deep : Int) (g d : Nat) (w : World) (hs : s.length ≤ 100000000) (h : RdAt w g s false deep) (hp : pk s = thisL) :
    Calls Tryd.prog 70 #[.pointer (some ⟨g, 0, none⟩)] w (Told (gOne d) w g s deep) := by
  have hgl := h.lt
  have hb : pbad s = false := pbad_no (by rw [hp]; exact List.cons_ne_nil _ _)
  have hst : strV (pk s) = .string ⟨#[116, 104, 105, 115]⟩ := by rw [hp]; rfl
  have hG := gOne_this (s := s) d hp
  have P1 := fun w h => peek_calls s false deep g w hs h
  have P2 := fun w h => token_calls s false deep g w hs h
  have P3 := fun w h => peek_calls (rest s) false deep g w (Nat.le_trans (rest_le s) hs) h
  obtain ⟨Q, eQ, dQ⟩ : ∃ Q : ByteArray, strV (pk (rest s)) = .string Q ∧ Q.data.toList = pk (rest s) := ⟨⟨(pk (rest s)).toArray⟩, rfl, rfl⟩
  rw [hst] at P1 P2
  rw [hb] at P1 P2
  rw [eQ] at P3
  have har := ar_eq Q
  rw [dQ] at har
  have h0 : RdAt (w.alloc (.cells ruleZ 42)) g s false deep := h.alloc _
  have hr := Blk.new w 42 ruleZ
  have hk := (Keeps.refl (fun j => j = g) w).alloc (.cells ruleZ 42)
  have hP1 := Lib.hid P1
  have hP2 := Lib.hid P2
  have hP3 := Lib.hid P3
  have h0' := Lib.hid h0
  have hr' := Lib.hid hr
  have hk' := Lib.hid hk
  have hG' := Lib.hid hG
  clear P1 P2 P3 h0 hr hk hG hst hb hp h
  go_enter Tryd.func70, Tryd.ntmps70
  go_wp2_with fail
  refine (hP1.out _ h0'.out).mono ?_
  rintro e w1 ⟨rfl, h1, k1⟩
  have r1 := hr'.out.keeps k1 (by omega)
  have k1' := hk'.out.trans k1
  clear k1
  go_wp2_with fail
  refine (hP1.out _ h1).mono ?_
  rintro e w2 ⟨rfl, h2, k2⟩
  have r2 := r1.keeps k2 (by omega)
  have k2' := k1'.trans k2
  clear k2 h1 r1 k1'
  go_wp2_with fail
  refine (hP2.out _ h2).mono ?_
  rintro e w3 ⟨rfl, h3, k3⟩
  have r3 := r2.keeps k3 (by omega)
  have k3' := k2'.trans k3
  clear k3 h2 r2 k2'
  have q3 := Blk.cell h3
  have qf3 := Blk.frozen h3
  go_wp2_with fail
  refine (hP3.out _ h3).mono ?_
  rintro e w4 ⟨rfl, h4, k4⟩
  have r4 := r3.keeps k4 (by omega)
  have k4' := k3'.trans k4
  clear k4 h3 r3 k3'
  have q4 := Blk.cell h4
  have qf4 := Blk.frozen h4
  have c4 := r4.cell
  have cf4 := r4.frozen
  go_wp2_with fail
  obtain ⟨W, eW, hB, hR, hK, _⟩ := put_rule (w := w) rfl (h4.odd (pk (rest s) == arL)) (r4.far (p := ⟨g, 1, none⟩) (Nat.ne_of_gt hgl) _) (k4'.setCell (p := ⟨g, 1, none⟩) (.inl rfl) _) hgl (.int .i64 1) (.string ⟨#[]⟩) (.string ⟨#[]⟩) (.slice none 0 0)
  rw [eW]
  have c5 := hB.cell
  refine bodyPost_ret (v := .agg #[.int .i64 1, .string ⟨#[]⟩, .string ⟨#[]⟩, .slice none 0 0]) (by simp [results, Tryd.results70, go_sem, c5]) rfl ?_
  refine ⟨_, .node 1 [] [] [], rest s, _, deep, rfl, RAt.leaf _ _ 1 [] [], hR, .leaf (by decide) (rest_le s), hK, ?_⟩
  rw [hG'.out]
  by_cases ha : pk (rest s) = arL
  · rw [if_pos ha]; exact .inl ⟨rfl, by rw [ha]; rfl⟩
  · rw [if_neg ha]; exact .inr ⟨rfl, beq_false_of_ne ha, rfl⟩
end Go.Proofs.YtkibaaljpbcjeaaDoor
namespace Go.Proofs.YtkibaaljpbcjeaaDoor
open Go.RowKit
theorem good_nil : good [] = false := rfl
theorem gOne_name {s : List UInt8} (d : Nat) (h1 : pk s ≠ opL) (h2 : pk s ≠ thisL) : gOne d (toks s) = if good (pk s) = false then none else if pk (rest s) = arL then (if good (pk (rest (rest s))) then some (.node 3 (pk s) (pk (rest (rest s))) [], toks (rest (rest (rest s)))) else none) else if pbad (rest s) then none else some (.node 2 (pk s) [] [], toks (rest s)) := by
  by_cases h0 : pk s = []
  · rw [h0, good_nil, if_pos rfl]
    cases he : (trimL s).isEmpty
    · rw [toks_bad (by rw [pbad_of h0, he]; rfl)]
      unfold gOne
      rfl
    · rw [toks_end he]
      unfold gOne
      rfl
  · rw [toks_cons h0]
    unfold gOne
    simp only [h1, h2, if_false]
    cases hg : good (pk s)
    · rfl
    · simp only [if_true]
      by_cases ha : pk (rest s) = arL
      · rw [if_pos ((head_some (by decide)).2 ha), if_pos ha, toks_cons (by rw [ha]; decide), List.tail_cons]
        by_cases h3 : pk (rest (rest s)) = []
        · rw [h3, good_nil]
          cases he : (trimL (rest (rest s))).isEmpty
          · rw [toks_bad (by rw [pbad_of h3, he]; rfl)]
            rfl
          · rw [toks_end he]
            rfl
        · rw [toks_cons h3]; rfl
      · rw [if_neg fun e => ha ((head_some (by decide)).1 e), if_neg ha]
        cases hb : pbad (rest s)
        · rw [if_neg fun e => by rw [head_bad.1 e] at hb; cases hb]; rfl
        · rw [if_pos (head_bad.2 hb)]; rfl
theorem op_eq (s : ByteArray) : (s.toList == [40]) = (s.data.toList == opL) := by rw [Lib.toList_data]; rfl
set_option maxHeartbeats 2000000 in
set_option maxRecDepth 100000 in
theorem one_name (s : List UInt8) (deep : Int) (g d : Nat) (w : World) (hs : s.length ≤ 100000000) (h : RdAt w g s false deep) (hp1 : pk s ≠ opL) (hp2 : pk s ≠ thisL) :
    Calls Tryd.prog 70 #[.pointer (some ⟨g, 0, none⟩)] w (Told (gOne d) w g s deep) := by
  have hgl := h.lt
  have hG := gOne_name (s := s) d hp1 hp2
  have P1 := fun w o h => peek_calls s o deep g w hs h
  have P2 := fun w o h => name_calls s o deep g w hs h
  have hs1 := Nat.le_trans (rest_le s) hs
  have hs2 := Nat.le_trans (rest_le (rest s)) hs1
  have P3 := fun w o h => peek_calls (rest s) o deep g w hs1 h
  have P4 := fun w o h => token_calls (rest s) o deep g w hs1 h
  have P5 := fun w o h => name_calls (rest (rest s)) o deep g w hs2 h
  obtain ⟨Q, eQ, dQ⟩ : ∃ Q : ByteArray, strV (pk s) = .string Q ∧ Q.data.toList = pk s := ⟨⟨(pk s).toArray⟩, rfl, rfl⟩
  obtain ⟨T, eT, dT⟩ : ∃ Q : ByteArray, strV (pk (rest s)) = .string Q ∧ Q.data.toList = pk (rest s) := ⟨⟨(pk (rest s)).toArray⟩, rfl, rfl⟩
  obtain ⟨U, eU, dU⟩ : ∃ Q : ByteArray, strV (pk (rest (rest s))) = .string Q ∧ Q.data.toList = pk (rest (rest s)) := ⟨⟨(pk (rest (rest s))).toArray⟩, rfl, rfl⟩
  rw [eQ] at P1 P2
  rw [eT] at P3 P4
  rw [eU] at P5
  have e1 : (Q.toList == [40]) = false := by rw [op_eq, dQ]; exact beq_false_of_ne hp1
  have e2 : (Q.toList == [116, 104, 105, 115]) = false := by rw [this_eq, dQ]; exact beq_false_of_ne hp2
  have e3 := ar_eq T
  rw [dT] at e3
  have h0 : RdAt (w.alloc (.cells ruleZ 42)) g s false deep := h.alloc _
  have hr := Blk.new w 42 ruleZ
  have hk := (Keeps.refl (fun j => j = g) w).alloc (.cells ruleZ 42)
  have hP1 := Lib.hid P1
  have hP2 := Lib.hid P2
  have hP3 := Lib.hid P3
  have hP4 := Lib.hid P4
  have hP5 := Lib.hid P5
  have h0' := Lib.hid h0
  have hr' := Lib.hid hr
  have hk' := Lib.hid hk
  have hG' := Lib.hid hG
  clear P1 P2 P3 P4 P5 h0 hr hk hG hp1 hp2 h dQ dT dU
  go_enter Tryd.func70, Tryd.ntmps70
  go_wp2_with fail
  refine (hP1.out _ _ h0'.out).mono ?_
  rintro e w1 ⟨rfl, h1, k1⟩
  have r1 := hr'.out.keeps k1 (by omega)
  have k1' := hk'.out.trans k1
  clear k1
  go_wp2_with fail
  refine (hP1.out _ _ h1).mono ?_
  rintro e w2 ⟨rfl, h2, k2⟩
  have r2 := r1.keeps k2 (by omega)
  have k2' := k1'.trans k2
  clear k2 h1 r1 k1'
  go_wp2_with fail
  refine (hP2.out _ _ h2).mono ?_
  rintro e w3 ⟨rfl, h3, k3⟩
  have r3 := r2.keeps k3 (by omega)
  have k3' := k2'.trans k3
  clear k3 h2 r2 k2'
  obtain ⟨o, ho⟩ : ∃ o, (false || pbad s || pbad s || !good (pk s)) = o := ⟨_, rfl⟩
  have ho' : o = !good (pk s) := by
    rw [← ho, Bool.or_assoc false, Bool.or_self]; exact odd_name false s
  rw [ho] at h3
  have x4 := Blk.new w3 42 #[.int .i64 2, .string Q, .string ⟨#[]⟩, .slice none 0 0]
  have h4 := Blk.alloc h3 (.cells #[.int .i64 2, .string Q, .string ⟨#[]⟩, .slice none 0 0] 42)
  have r4 := r3.alloc (.cells #[.int .i64 2, .string Q, .string ⟨#[]⟩, .slice none 0 0] 42)
  have k4 := k3'.alloc (.cells #[.int .i64 2, .string Q, .string ⟨#[]⟩, .slice none 0 0] 42)
  have hz3 : w.heap.size < w3.heap.size := r3.lt
  clear r3 k3' h3 ho
  go_wp2_with fail
  refine (hP3.out _ _ h4).mono ?_
  rintro e w5 ⟨rfl, h5, k5⟩
  have x5 := x4.keeps k5 (by omega)
  have r5 := r4.keeps k5 (by omega)
  have k5' := k4.trans k5
  have xc := x5.cell
  have xf := x5.frozen
  have rc := r5.cell
  have rf := r5.frozen
  clear k5 x4 h4 r4 k4
  by_cases ha : pk (rest s) = arL
  · have e4 : (T.toList == [45, 62]) = true := by rw [e3, ha]; rfl
    clear e3
    have hpb : pbad (rest s) = false := pbad_no (by rw [ha]; decide)
    rw [hpb, Bool.or_false] at h5
    go_wp2_with fail
    refine (hP4.out _ _ h5).mono ?_
    rintro e w6 ⟨rfl, h6, k6⟩
    rw [hpb, Bool.or_false] at h6
    have x6 := x5.keeps k6 (by omega)
    have r6 := r5.keeps k6 (by omega)
    have k6' := k5'.trans k6
    clear k6 x5 r5 xc xf rc rf h5
    go_wp2_with fail
    refine (hP5.out _ _ h6).mono ?_
    rintro e w7 ⟨rfl, h7, k7⟩
    have x7 := x6.keeps k7 (by omega)
    have r7 := r6.keeps k7 (by omega)
    have k7' := k6'.trans k7
    have xc := x7.cell
    have xf := x7.frozen
    have rc := r7.cell
    have rf := r7.frozen
    clear k7 x6 r6 h6
    go_wp2_with fail
    have hle : w.heap.size ≤ w3.heap.size := Nat.le_of_lt hz3
    obtain ⟨W, eW, hB, hR, hK, _⟩ := put_rule (w := w) rfl (Blk.far (Blk.far h7 (p := ⟨w3.heap.size, 0, none⟩) (Nat.ne_of_lt (Nat.lt_trans hgl hz3)) (.int .i64 3)) (p := ⟨w3.heap.size, 2, none⟩) (Nat.ne_of_lt (Nat.lt_trans hgl hz3)) (.string U)) ((r7.far (p := ⟨w3.heap.size, 0, none⟩) (Nat.ne_of_lt hz3) _).far (p := ⟨w3.heap.size, 2, none⟩) (Nat.ne_of_lt hz3) _) ((k7'.setCell (p := ⟨w3.heap.size, 0, none⟩) (.inr hle) _).setCell (p := ⟨w3.heap.size, 2, none⟩) (.inr hle) _) hgl (.int .i64 3) (.string Q) (.string U) (.slice none 0 0)
    rw [eW]
    have c6 := hB.cell
    refine bodyPost_ret (v := .agg #[.int .i64 3, .string Q, .string U, .slice none 0 0]) (by simp [results, Tryd.results70, go_sem, c6]) rfl ?_
    rw [← eQ, ← eU]
    refine ⟨_, .node 3 (pk s) (pk (rest (rest s))) [], rest (rest (rest s)), _, deep, rfl, RAt.leaf _ _ 3 (pk s) (pk (rest (rest s))), hR, .leaf (by decide) (Nat.le_trans (rest_le _) (Nat.le_trans (rest_le _) (rest_le s))), hK, ?_⟩
    rw [hG'.out, ho', if_pos ha]
    cases good (pk s)
    · exact .inl ⟨rfl, rfl⟩
    · rw [if_neg Bool.noConfusion]
      cases good (pk (rest (rest s)))
      · exact .inl ⟨rfl, rfl⟩
      · exact .inr ⟨rfl, rfl, rfl⟩
  · have e4 : (T.toList == [45, 62]) = false := by rw [e3]; exact beq_false_of_ne ha
    clear e3
    go_wp2_with fail
    obtain ⟨W, eW, hB, hR, hK, _⟩ := put_rule (w := w) rfl h5 r5 k5' hgl (.int .i64 2) (.string Q) (.string ⟨#[]⟩) (.slice none 0 0)
    rw [eW]
    have c6 := hB.cell
    refine bodyPost_ret (v := .agg #[.int .i64 2, .string Q, .string ⟨#[]⟩, .slice none 0 0]) (by simp [results, Tryd.results70, go_sem, c6]) rfl ?_
    rw [← eQ]
    refine ⟨_, .node 2 (pk s) [] [], rest s, _, deep, rfl, RAt.leaf _ _ 2 (pk s) [], hR, .leaf (by decide) (rest_le s), hK, ?_⟩
    rw [hG'.out, ho', if_neg ha]
    cases good (pk s)
    · exact .inl ⟨rfl, rfl⟩
    · rw [if_neg Bool.noConfusion]
      cases pbad (rest s)
      · exact .inr ⟨rfl, rfl, rfl⟩
      · exact .inl ⟨rfl, rfl⟩
end Go.Proofs.YtkibaaljpbcjeaaDoor
