/- Rules as trees that are only read: their rows may lie anywhere. Walk: the writer's parts, for any way of writing one part. -/
import Derived.Test.YtkibaaljpbcjeaaDoorSApp
import Derived.Test.YtkibaaljpbcjeaaDoorSBc
namespace Go.Proofs.YtkibaaljpbcjeaaDoor
open Go.RowKit
/-- a row that is only read -/
def RowV (w : World) (v : Value) (n : Nat) (cs : List Value) : Prop := n ≤ maxLen ∧ ((∃ p c, v = .slice p 0 c ∧ n = 0) ∨ ∃ (g o c : Nat), v = .slice (some ⟨g, o, none⟩) n c ∧ n ≤ c ∧ ∀ (i : Nat) (u : Value), cs[i]? = some u → g < w.heap.size ∧ w.cell? ⟨g, o + i, none⟩ = some u)
theorem RowV.below {w w' : World} {v : Value} {n : Nat} {cs : List Value} (h : RowV w v n cs) (hb : Below w.heap.size w w') : RowV w' v n cs := by
  refine ⟨h.1, h.2.imp id ?_⟩
  rintro ⟨g, o, c, rfl, hc, hcell⟩
  refine ⟨g, o, c, rfl, hc, fun i u hu => ?_⟩
  obtain ⟨h1, h2⟩ := hcell i u hu
  exact ⟨Nat.lt_of_lt_of_le h1 hb.size, by rw [hb.cell (p := ⟨g, o + i, none⟩) h1]; exact h2⟩
theorem RowV.form {w : World} {v : Value} {n : Nat} {cs : List Value} (h : RowV w v n cs) : ∃ p c, v = .slice p n c := by
  rcases h.2 with ⟨p, c, rfl, rfl⟩ | ⟨g, o, c, rfl, _⟩
  · exact ⟨_, _, rfl⟩
  · exact ⟨_, _, rfl⟩
theorem RowV.cell {w : World} {p : Option Addr} {n c : Nat} {cs : List Value} (h : RowV w (.slice p n c) n cs) (hn : 0 < n) : ∃ g o, p = some ⟨g, o, none⟩ ∧ n ≤ c ∧ ∀ (i : Nat) (u : Value), cs[i]? = some u → g < w.heap.size ∧ w.cell? ⟨g, o + i, none⟩ = some u := by
  rcases h.2 with ⟨p, c, _, rfl⟩ | ⟨g, o, c', e, hc, hcell⟩
  · omega
  · injection e with e1 _ e3
    subst e1 e3
    exact ⟨g, o, rfl, hc, hcell⟩
theorem RowV.of_row {w : World} {T : TypeId} {v : Value} {n : Nat} {cs : List Value} (h : RowAt w T v n cs) (hn : n ≤ maxLen) : RowV w v n cs := by
  refine ⟨hn, ?_⟩
  rcases h with ⟨rfl, rfl⟩ | ⟨g, c, cur, rfl, hc, hl, hcell⟩
  · exact .inl ⟨_, _, rfl, rfl⟩
  · exact .inr ⟨g, 0, c, rfl, hc, fun i u hu => ⟨hl.lt, by rw [hl.cell, Nat.zero_add]; exact hcell i u hu⟩⟩
/-- a rule's cells, only read -/
inductive RV (w : World) : List Value → RT → Prop
  | mk {k : Int} {a b : List UInt8} {v : Value} {ps : List RT} {cs : List Value} (hrow : RowV w v ps.length cs) (hlen : cs.length = ps.length * 4) (hparts : ∀ (i : Nat) (p : RT), ps[i]? = some p → RV w ((cs.drop (i * 4)).take 4) p) : RV w [.int .i64 k, strV a, strV b, v] (.node k a b ps)
theorem RV.later {w w' : World} {cs : List Value} {r : RT} (h : RV w cs r) (hb : Below w.heap.size w w') : RV w' cs r := by
  induction h with
  | mk hrow hlen _ ih => exact .mk (hrow.below hb) hlen ih
/-- no group has more parts than that -/
inductive RT.small (N : Nat) : RT → Prop
  | mk {k : Int} {a b : List UInt8} {ps : List RT} (hn : ps.length ≤ N) (hp : ∀ p ∈ ps, RT.small N p) : RT.small N (.node k a b ps)
theorem RV.of {P : Nat → Prop} {w : World} {cs : List Value} {r : RT} (h : RAt P w cs r) {N : Nat} (hN : N ≤ maxLen) (hs : r.small N) : RV w cs r := by
  induction h with
  | mk hrow hp hlen _ ih =>
    cases hs with
    | mk hn hps => exact .mk (.of_row hrow (by omega)) hlen fun i p hi => ih i p hi (hps p (List.mem_of_getElem? hi))
theorem RV.form {w : World} {cs : List Value} {r : RT} (h : RV w cs r) : ∃ (k : Int) (a b : ByteArray) (p : Option Addr) (c : Nat) (ds : List Value), cs = [.int .i64 k, .string a, .string b, .slice p r.parts.length c] ∧ r = .node k a.data.toList b.data.toList r.parts ∧ RowV w (.slice p r.parts.length c) r.parts.length ds ∧ ds.length = r.parts.length * 4 ∧ ∀ (i : Nat) (q : RT), r.parts[i]? = some q → RV w ((ds.drop (i * 4)).take 4) q := by
  cases h with
  | mk hrow hlen hparts =>
    obtain ⟨p, c, rfl⟩ := hrow.form
    exact ⟨_, _, _, p, c, _, rfl, rfl, hrow, hlen, hparts⟩
/-- the four cells of one part -/
theorem RV.part {w : World} {g o i : Nat} {ds : List Value} {ps : List RT} {q : RT} (hcell : ∀ (i : Nat) (u : Value), ds[i]? = some u → g < w.heap.size ∧ w.cell? ⟨g, o + i, none⟩ = some u) (hq : ps[i]? = some q) (h : RV w ((ds.drop (i * 4)).take 4) q) :
    ∃ (k : Int) (a b : ByteArray) (p : Option Addr) (c : Nat), RV w [.int .i64 k, .string a, .string b, .slice p q.parts.length c] q ∧ q = .node k a.data.toList b.data.toList q.parts ∧ g < w.heap.size ∧ w.cell? ⟨g, o + i * 4, none⟩ = some (.int .i64 k) ∧ w.cell? ⟨g, o + i * 4 + 1, none⟩ = some (.string a) ∧ w.cell? ⟨g, o + i * 4 + 2, none⟩ = some (.string b) ∧ w.cell? ⟨g, o + i * 4 + 3, none⟩ = some (.slice p q.parts.length c) := by
  obtain ⟨k, a, b, p, c, _, e, hr, _⟩ := h.form
  have hi := (List.getElem?_eq_some_iff.1 hq).1
  have hu : ∀ j u, j < 4 → [Value.int .i64 k, .string a, .string b, .slice p q.parts.length c][j]? = some u → g < w.heap.size ∧ w.cell? ⟨g, o + (i * 4 + j), none⟩ = some u := fun j u hj hu => by
    rw [← e, List.getElem?_take, if_pos hj, List.getElem?_drop] at hu
    exact hcell _ u hu
  rw [e] at h
  refine ⟨k, a, b, p, c, h, hr, (hu 0 _ (by decide) rfl).1, (hu 0 _ (by decide) rfl).2, ?_, ?_, ?_⟩
  · have := (hu 1 _ (by decide) rfl).2; rw [← Nat.add_assoc] at this; exact this
  · have := (hu 2 _ (by decide) rfl).2; rw [← Nat.add_assoc] at this; exact this
  · have := (hu 3 _ (by decide) rfl).2; rw [← Nat.add_assoc] at this; exact this
end Go.Proofs.YtkibaaljpbcjeaaDoor
namespace Go.Proofs.YtkibaaljpbcjeaaDoor
open Go.RowKit
/-- what a walk over a rule's writing leaves -/
def WSaid (T : Option (List UInt8)) (W B b : Nat) (w : World) (l : List UInt8) (e : Ending) (w' : World) : Prop :=
  e = .returned (.tuple #[]) ∧ WKeeps B b w w' ∧ ∃ l', l'.length ≤ l.length + W ∧ ((∃ x, T = some x ∧ l' = l ++ x ∧ WrAt B b w' l' false) ∨ (T = none ∧ WrAt B b w' l' true))
/-- a rule is written as its text says -/
def RuleOK (q : RT) : Prop := ∀ (w0 : World) (b d : Nat) (deep : Int) (w : World) (l : List UInt8) (cs : List Value), d ≤ 8 → deep = 8 - d → RV w0 cs q → Below w0.heap.size w0 w → w0.heap.size ≤ w.heap.size → WrAt w0.heap.size b w l false → l.length + q.wt ≤ 1000000000 →
  Calls Tryd.prog 27 #[.pointer (some ⟨b, 0, none⟩), .agg cs.toArray, .int .i64 deep] w (WSaid (ruleT d q) q.wt w0.heap.size b w l)
/-- where a flag is set, a rule is left alone -/
def RuleOdd : Prop := ∀ (B b : Nat) (w : World) (l : List UInt8) (cs : List Value) (n : Int), cs.length = 4 → (∃ (k : Int) (a bb : ByteArray) (p : Option Addr) (m c : Nat), cs = [.int .i64 k, .string a, .string bb, .slice p m c]) → B ≤ w.heap.size → WrAt B b w l true →
  Calls Tryd.prog 27 #[.pointer (some ⟨b, 0, none⟩), .agg cs.toArray, .int .i64 n] w fun e w' => e = .returned (.tuple #[]) ∧ WKeeps B b w w' ∧ WrAt B b w' l true
/-- the text of one part -/
def partT (k : Int) (d : Nat) (p : RT) : Option (List UInt8) := if k = 5 ∧ p.kind = 4 then (match d with
  | 0 => none
  | d + 1 => (ruleT d p).map fun t => opL ++ t ++ clL) else ruleT d p
theorem partsT_cons (k : Int) (d : Nat) (first : Bool) (p : RT) (ps : List RT) : partsT k d first (p :: ps) = if p.kind = k then none else match partT k d p with
    | none => none
    | some t => match partsT k d false ps with
      | none => none
      | some u => some ((if first then [] else sepT k) ++ t ++ u) := by
  conv => lhs; unfold partsT
  rfl
/-- parts so far: their text, or none -/
structure PInv (k : Int) (d : Nat) (ps : List RT) (l : List UInt8) (i : Nat) (li : List UInt8) (odd : Bool) : Prop where
  len : li.length + wtL (ps.drop i) ≤ l.length + wtL ps
  said : (odd = true ∧ partsT k d true ps = none) ∨ (odd = false ∧ ∃ x, li = l ++ x ∧ partsT k d true ps = (match partsT k d (decide (i = 0)) (ps.drop i) with
    | none => none
    | some u => some (x ++ u)))
theorem PInv.start (k : Int) (d : Nat) (ps : List RT) (l : List UInt8) : PInv k d ps l 0 l false := by
  refine ⟨Nat.le_refl _, .inr ⟨rfl, [], by simp, ?_⟩⟩
  rw [List.drop_zero, show decide (0 = 0) = true from rfl]
  cases partsT k d true ps <;> rfl
theorem PInv.step {k : Int} {d : Nat} {ps : List RT} {l li li' : List UInt8} {i : Nat} {p : RT} (h : PInv k d ps l i li false) (hp : ps[i]? = some p) (hk : p.kind ≠ k) {odd' : Bool} (hlen : li'.length ≤ li.length + (p.wt + 8))
    (hs : (odd' = true ∧ partT k d p = none) ∨ (odd' = false ∧ ∃ t, partT k d p = some t ∧ li' = li ++ (if i = 0 then [] else sepT k) ++ t)) : PInv k d ps l (i + 1) li' odd' := by
  have hlt := (List.getElem?_eq_some_iff.1 hp).1
  have hd : ps.drop i = p :: ps.drop (i + 1) := by
    rw [List.drop_eq_getElem_cons hlt, (List.getElem?_eq_some_iff.1 hp).2]
  obtain ⟨h1, h2⟩ := h
  rw [hd] at h1 h2
  have hw : wtL (p :: ps.drop (i + 1)) = p.wt + 8 + wtL (ps.drop (i + 1)) := by conv => lhs; unfold wtL
  rw [hw] at h1
  refine ⟨by omega, ?_⟩
  rcases h2 with ⟨e, _⟩ | ⟨_, x, rfl, h2⟩
  · cases e
  · rw [partsT_cons, if_neg hk] at h2
    rcases hs with ⟨ho, hn⟩ | ⟨ho, t, ht, hli⟩
    · rw [hn] at h2
      exact .inl ⟨ho, h2⟩
    · rw [ht] at h2
      refine .inr ⟨ho, x ++ (if i = 0 then [] else sepT k) ++ t, by rw [hli]; simp, ?_⟩
      rw [h2]
      simp only [show decide (i + 1 = 0) = false from decide_eq_false (by omega)]
      cases partsT k d false (ps.drop (i + 1)) with
      | none => rfl
      | some u =>
        show some (x ++ ((if decide (i = 0) = true then [] else sepT k) ++ t ++ u)) = some (x ++ (if i = 0 then [] else sepT k) ++ t ++ u)
        simp [decide_eq_true_eq]
theorem PInv.same_kind {k : Int} {d : Nat} {ps : List RT} {l li : List UInt8} {i : Nat} {p : RT} (h : PInv k d ps l i li false) (hp : ps[i]? = some p) (hk : p.kind = k) : partsT k d true ps = none := by
  have hlt := (List.getElem?_eq_some_iff.1 hp).1
  have hd : ps.drop i = p :: ps.drop (i + 1) := by
    rw [List.drop_eq_getElem_cons hlt, (List.getElem?_eq_some_iff.1 hp).2]
  rcases h.said with ⟨e, _⟩ | ⟨_, x, _, h2⟩
  · cases e
  · rw [hd, partsT_cons, if_pos hk] at h2
    exact h2
theorem PInv.end_ {k : Int} {d : Nat} {ps : List RT} {l li : List UInt8} {odd : Bool} (h : PInv k d ps l ps.length li odd) : li.length ≤ l.length + wtL ps ∧ ((odd = true ∧ partsT k d true ps = none) ∨ (odd = false ∧ ∃ x, partsT k d true ps = some x ∧ li = l ++ x)) := by
  obtain ⟨h1, h2⟩ := h
  rw [List.drop_eq_nil_of_le (Nat.le_refl _)] at h1 h2
  refine ⟨by omega, h2.imp id ?_⟩
  rintro ⟨ho, x, hx, he⟩
  refine ⟨ho, x, ?_, hx⟩
  rw [he]
  unfold partsT
  simp
end Go.Proofs.YtkibaaljpbcjeaaDoor
