/- A schema that is only read. Print of a schema: what stands to be written, in plain words; a rule's writing at any flag; the writer's start. -/
import Derived.Test.YtkibaaljpbcjeaaDoorSE2
import Derived.Test.YtkibaaljpbcjeaaDoorSTx
import Derived.Test.YtkibaaljpbcjeaaDoorSBb
import Derived.Test.YtkibaaljpbcjeaaDoorSBc
namespace Go.Proofs.YtkibaaljpbcjeaaDoor
open Go.RowKit
def RelsV (w : World) (rcs : List Value) (rels : List RelD) : Prop := rcs.length = rels.length * 5 ∧ ∀ (i : Nat) (n : List UInt8) (r : RT), rels[i]? = some (n, r) → ∃ rc, (rcs.drop (i * 5)).take 5 = strV n :: rc ∧ RV w rc r
def TysV (w : World) (cs : List Value) (ts : List TyD) : Prop := cs.length = ts.length * 2 ∧ ∀ (i : Nat) (n : List UInt8) (rels : List RelD), ts[i]? = some (n, rels) → ∃ u rcs, (cs.drop (i * 2)).take 2 = [strV n, u] ∧ RowV w u rels.length rcs ∧ RelsV w rcs rels
/-- a schema that is only read: its rows may lie anywhere -/
def SchV (w : World) (v : Value) (ts : List TyD) : Prop := ∃ cs, RowV w v ts.length cs ∧ TysV w cs ts
section
variable {w w' : World}
theorem RelsV.later {rcs : List Value} {rels : List RelD} (h : RelsV w rcs rels) (hb : Below w.heap.size w w') : RelsV w' rcs rels :=
  ⟨h.1, fun i n r hi => by obtain ⟨rc, h1, h2⟩ := h.2 i n r hi; exact ⟨rc, h1, h2.later hb⟩⟩
theorem TysV.later {cs : List Value} {ts : List TyD} (h : TysV w cs ts) (hb : Below w.heap.size w w') : TysV w' cs ts :=
  ⟨h.1, fun i n rels hi => by obtain ⟨u, rcs, h1, h2, h3⟩ := h.2 i n rels hi; exact ⟨u, rcs, h1, h2.below hb, h3.later hb⟩⟩
theorem SchV.later {v : Value} {ts : List TyD} (h : SchV w v ts) (hb : Below w.heap.size w w') : SchV w' v ts := by
  obtain ⟨cs, h1, h2⟩ := h; exact ⟨cs, h1.below hb, h2.later hb⟩
theorem SchV.form {v : Value} {ts : List TyD} (h : SchV w v ts) : ∃ p c, v = .slice p ts.length c := by
  obtain ⟨cs, h1, _⟩ := h; exact h1.form
/-- all rules of a schema are small -/
def TsSmall (N : Nat) (ts : List TyD) : Prop := ts.length ≤ N ∧ ∀ t ∈ ts, t.2.length ≤ N ∧ ∀ x ∈ t.2, x.2.small N
theorem drop_tcells : ∀ (i : Nat) (ts : List TyD) (us : List Value) (t : TyD) (u : Value), us.length = ts.length → ts[i]? = some t → us[i]? = some u → ((tcells ts us).drop (i * 2)).take 2 = [strV t.1, u]
  | _, [], _, _, _, _, h, _ => by simp at h
  | _, _ :: _, [], _, _, hl, _, _ => by simp at hl
  | 0, t :: ts, u :: us, t', u', _, h1, h2 => by
    obtain rfl := Option.some.inj h1
    obtain rfl := Option.some.inj h2
    rfl
  | i + 1, t :: ts, u :: us, t', u', hl, h1, h2 => by
    have e : tcells (t :: ts) (u :: us) = strV t.1 :: u :: tcells ts us := rfl
    rw [e, show (i + 1) * 2 = i * 2 + 2 by omega, List.drop_succ_cons, List.drop_succ_cons]
    exact drop_tcells i ts us t' u' (by simpa using hl) h1 h2
theorem SchV.of_sch {B : Nat} {v : Value} {us : List Value} {ts : List TyD} (h : Sch B w v us ts) {N : Nat} (hN : N ≤ maxLen) (hs : TsSmall N ts) : SchV w v ts := by
  refine ⟨_, .of_row (RowAt.of_own h.row) (by have := hs.1; omega), tcells_len ts us h.len, fun i n rels hi => ?_⟩
  have hlt : i < us.length := by rw [h.len]; exact (List.getElem?_eq_some_iff.1 hi).1
  have hu : us[i]? = some us[i] := List.getElem?_eq_getElem hlt
  obtain ⟨cs, h1, h2⟩ := h.rels i (n, rels) us[i] hi hu
  obtain ⟨hr1, hr2⟩ := hs.2 (n, rels) (List.mem_of_getElem? hi)
  refine ⟨us[i], cs, drop_tcells i ts us (n, rels) us[i] h.len hi hu, .of_row (RowAt.of_own h1) (Nat.le_trans hr1 hN), h2.len, fun j m r hj => ?_⟩
  obtain ⟨rc, h3, h4⟩ := h2.part j m r hj
  exact ⟨rc, h3, .of h4 hN (hr2 (m, r) (List.mem_of_getElem? hj))⟩
/-- the two cells of one type -/
theorem TysV.part {g o i : Nat} {cs : List Value} {ts : List TyD} {n : List UInt8} {rels : List RelD} (h : TysV w cs ts) (hcell : ∀ (i : Nat) (u : Value), cs[i]? = some u → g < w.heap.size ∧ w.cell? ⟨g, o + i, none⟩ = some u) (hq : ts[i]? = some (n, rels)) :
    ∃ (N : ByteArray) (p : Option Addr) (c : Nat) (rcs : List Value), N.data.toList = n ∧ g < w.heap.size ∧ w.cell? ⟨g, o + i * 2, none⟩ = some (.string N) ∧ w.cell? ⟨g, o + i * 2 + 1, none⟩ = some (.slice p rels.length c) ∧ RowV w (.slice p rels.length c) rels.length rcs ∧ RelsV w rcs rels := by
  obtain ⟨u, rcs, e, h1, h2⟩ := h.2 i n rels hq
  obtain ⟨p, c, rfl⟩ := h1.form
  have hu : ∀ j u, j < 2 → [strV n, Value.slice p rels.length c][j]? = some u → g < w.heap.size ∧ w.cell? ⟨g, o + (i * 2 + j), none⟩ = some u := fun j u hj hu => by
    rw [← e, List.getElem?_take, if_pos hj, List.getElem?_drop] at hu
    exact hcell _ u hu
  obtain ⟨N, eN, dN⟩ : ∃ Q : ByteArray, strV n = .string Q ∧ Q.data.toList = n := ⟨⟨n.toArray⟩, rfl, rfl⟩
  have h0 := hu 0 _ (by decide) rfl
  rw [eN] at h0
  have h3 := (hu 1 _ (by decide) rfl).2
  rw [← Nat.add_assoc] at h3
  exact ⟨N, p, c, rcs, dN, h0.1, h0.2, h3, h1, h2⟩
/-- the five cells of one relation -/
theorem RelsV.part {g o i : Nat} {rcs : List Value} {rels : List RelD} {n : List UInt8} {r : RT} (h : RelsV w rcs rels) (hcell : ∀ (i : Nat) (u : Value), rcs[i]? = some u → g < w.heap.size ∧ w.cell? ⟨g, o + i, none⟩ = some u) (hq : rels[i]? = some (n, r)) :
    ∃ (N : ByteArray) (k : Int) (a b : ByteArray) (p : Option Addr) (c : Nat), N.data.toList = n ∧ g < w.heap.size ∧ w.cell? ⟨g, o + i * 5, none⟩ = some (.string N) ∧ w.cell? ⟨g, o + i * 5 + 1, none⟩ = some (.int .i64 k) ∧ w.cell? ⟨g, o + i * 5 + 2, none⟩ = some (.string a) ∧ w.cell? ⟨g, o + i * 5 + 3, none⟩ = some (.string b) ∧ w.cell? ⟨g, o + i * 5 + 4, none⟩ = some (.slice p r.parts.length c) ∧ RV w [.int .i64 k, .string a, .string b, .slice p r.parts.length c] r := by
  obtain ⟨rc, e, h1⟩ := h.2 i n r hq
  obtain ⟨k, a, b, p, c, _, rfl, _⟩ := h1.form
  have hu : ∀ j u, j < 5 → [strV n, Value.int .i64 k, .string a, .string b, .slice p r.parts.length c][j]? = some u → g < w.heap.size ∧ w.cell? ⟨g, o + (i * 5 + j), none⟩ = some u := fun j u hj hu => by
    rw [← e, List.getElem?_take, if_pos hj, List.getElem?_drop] at hu
    exact hcell _ u hu
  obtain ⟨N, eN, dN⟩ : ∃ Q : ByteArray, strV n = .string Q ∧ Q.data.toList = n := ⟨⟨n.toArray⟩, rfl, rfl⟩
  have h0 := hu 0 _ (by decide) rfl
  rw [eN] at h0
  refine ⟨N, k, a, b, p, c, dN, h0.1, h0.2, ?_, ?_, ?_, ?_, h1⟩
  · have := (hu 1 _ (by decide) rfl).2; rw [← Nat.add_assoc] at this; exact this
  · have := (hu 2 _ (by decide) rfl).2; rw [← Nat.add_assoc] at this; exact this
  · have := (hu 3 _ (by decide) rfl).2; rw [← Nat.add_assoc] at this; exact this
  · have := (hu 4 _ (by decide) rfl).2; rw [← Nat.add_assoc] at this; exact this
end
end Go.Proofs.YtkibaaljpbcjeaaDoor
namespace Go.Proofs.YtkibaaljpbcjeaaDoor
open Go.RowKit
/-- what is left to write: relations of this type, types behind it -/
def restT (rels : List RelD) (ts : List TyD) : Option (List UInt8) := match relsT rels with
  | none => none
  | some t => (tysT ts).map fun u => t ++ u
def restW (rels : List RelD) (ts : List TyD) : Nat := relsW rels + tysW ts
theorem restT_nil (ts : List TyD) : restT [] ts = tysT ts := by
  unfold restT relsT
  cases tysT ts <;> rfl
theorem restW_nil (ts : List TyD) : restW [] ts = tysW ts := by unfold restW relsW; omega
theorem restW_cons (m : List UInt8) (r : RT) (rels : List RelD) (ts : List TyD) : restW ((m, r) :: rels) ts = m.length + r.wt + 8 + restW rels ts := by
  unfold restW; conv => lhs; unfold relsW
  omega
theorem tysW_cons (n : List UInt8) (rels : List RelD) (ts : List TyD) : tysW ((n, rels) :: ts) = n.length + 16 + restW rels ts := by
  unfold restW; conv => lhs; unfold tysW
  omega
theorem tysT_cons (n : List UInt8) (rels : List RelD) (ts : List TyD) : tysT ((n, rels) :: ts) = if good n = true then (restT rels ts).map fun u => typeL ++ [32] ++ n ++ [10] ++ u else none := by
  conv => lhs; unfold tysT
  unfold restT
  by_cases h : good n = true
  · rw [if_pos h, if_pos h]
    cases relsT rels with
    | none => rfl
    | some t => cases tysT ts <;> simp
  · rw [if_neg h, if_neg h]
theorem restT_cons (m : List UInt8) (r : RT) (rels : List RelD) (ts : List TyD) : restT ((m, r) :: rels) ts = match relT m r with
    | none => none
    | some t => (restT rels ts).map fun u => t ++ u := by
  have e : relsT ((m, r) :: rels) = match relT m r with
    | none => none
    | some t => (relsT rels).map fun u => t ++ u := by
    conv => lhs; unfold relsT
    cases relT m r <;> rfl
  unfold restT
  rw [e]
  cases relT m r with
  | none => rfl
  | some t =>
    cases relsT rels with
    | none => rfl
    | some t2 => cases tysT ts <;> simp
/-- a writing under way: so much is written, so much is left -/
structure PI (T : Option (List UInt8)) (W : Nat) (l : List UInt8) (odd : Bool) (R : Option (List UInt8)) (rw : Nat) : Prop where
  len : l.length + rw ≤ W
  said : (odd = true ∧ T = none) ∨ (odd = false ∧ T = R.map fun u => l ++ u)
theorem PI.start (T : Option (List UInt8)) (W : Nat) : PI T W [] false T W := ⟨by simp, .inr ⟨rfl, by cases T <;> rfl⟩⟩
theorem PI.type {T : Option (List UInt8)} {W : Nat} {l l' : List UInt8} {odd odd' : Bool} {n : List UInt8} {rels : List RelD} {ts : List TyD} (h : PI T W l odd (tysT ((n, rels) :: ts)) (tysW ((n, rels) :: ts))) (hl : l' = l ++ (typeL ++ [32] ++ n ++ [10])) (ho : odd' = (odd || !good n)) : PI T W l' odd' (restT rels ts) (restW rels ts) := by
  obtain ⟨h1, h2⟩ := h
  rw [tysW_cons] at h1
  rw [tysT_cons] at h2
  refine ⟨by rw [hl]; simp only [List.length_append]; rw [show typeL.length = 4 from rfl]; simp only [List.length_cons, List.length_nil]; omega, ?_⟩
  rcases h2 with ⟨e, h2⟩ | ⟨e, h2⟩
  · exact .inl ⟨by rw [ho, e]; rfl, h2⟩
  · cases hg : good n
    · rw [hg, if_neg (by decide)] at h2
      exact .inl ⟨by rw [ho, hg, e]; rfl, h2⟩
    · rw [hg, if_pos rfl] at h2
      refine .inr ⟨by rw [ho, hg, e]; rfl, ?_⟩
      rw [h2, hl]
      cases restT rels ts <;> simp
theorem PI.rel {T : Option (List UInt8)} {W : Nat} {l l' : List UInt8} {odd odd' : Bool} {m : List UInt8} {r : RT} {rels : List RelD} {ts : List TyD} (h : PI T W l odd (restT ((m, r) :: rels) ts) (restW ((m, r) :: rels) ts)) (hlen : l'.length ≤ l.length + (m.length + r.wt + 8))
    (hs : (odd' = true ∧ (odd = true ∨ relT m r = none)) ∨ (odd' = false ∧ odd = false ∧ ∃ t, relT m r = some t ∧ l' = l ++ t)) : PI T W l' odd' (restT rels ts) (restW rels ts) := by
  obtain ⟨h1, h2⟩ := h
  rw [restW_cons] at h1
  rw [restT_cons] at h2
  refine ⟨by omega, ?_⟩
  rcases h2 with ⟨e, h2⟩ | ⟨e, h2⟩
  · rcases hs with ⟨ho, _⟩ | ⟨_, ho, _⟩
    · exact .inl ⟨ho, h2⟩
    · rw [e] at ho; cases ho
  · rcases hs with ⟨ho, hs⟩ | ⟨ho, _, t, ht, hl⟩
    · rcases hs with hs | hs
      · rw [e] at hs; cases hs
      · rw [hs] at h2
        exact .inl ⟨ho, h2⟩
    · rw [ht] at h2
      refine .inr ⟨ho, ?_⟩
      rw [h2, hl]
      cases restT rels ts <;> simp
theorem PI.done {T : Option (List UInt8)} {W : Nat} {l : List UInt8} {odd : Bool} (h : PI T W l odd (tysT []) (tysW [])) : (odd = true ∧ T = none) ∨ (odd = false ∧ T = some l) := by
  refine h.said.imp id ?_
  rintro ⟨h1, h2⟩
  refine ⟨h1, ?_⟩
  rw [h2]
  show some (l ++ []) = _
  rw [List.append_nil]
/-- what a rule's writing leaves, at any flag -/
def WAny (T : Option (List UInt8)) (W B b : Nat) (w : World) (l : List UInt8) (odd : Bool) (e : Ending) (w' : World) : Prop :=
  e = .returned (.tuple #[]) ∧ WKeeps B b w w' ∧ ∃ l' odd', l'.length ≤ l.length + W ∧ WrAt B b w' l' odd' ∧ ((odd' = true ∧ (odd = true ∨ T = none)) ∨ (odd' = false ∧ odd = false ∧ ∃ x, T = some x ∧ l' = l ++ x))
theorem wrule_any (q : RT) (w0 : World) (b : Nat) (w : World) (l : List UInt8) (odd : Bool) (k : Int) (a bb : ByteArray) (p : Option Addr) (m c : Nat) (hR : RV w0 [.int .i64 k, .string a, .string bb, .slice p m c] q) (hB : Below w0.heap.size w0 w) (hz : w0.heap.size ≤ w.heap.size) (hW : WrAt w0.heap.size b w l odd) (hl : l.length + q.wt ≤ 1000000000) :
    Calls Tryd.prog 27 #[.pointer (some ⟨b, 0, none⟩), .agg #[.int .i64 k, .string a, .string bb, .slice p m c], .int .i64 0] w (WAny (ruleT 8 q) q.wt w0.heap.size b w l odd) := by
  cases odd
  · refine (wrule_calls q w0 b 8 0 w l _ (Nat.le_refl _) (by decide) hR hB hz hW hl).mono ?_
    rintro e w' ⟨rfl, hK, l', hl', hs⟩
    refine ⟨rfl, hK, l', ?_⟩
    rcases hs with ⟨x, hx, he, hw⟩ | ⟨hx, hw⟩
    · exact ⟨false, hl', hw, .inr ⟨rfl, rfl, x, hx, he⟩⟩
    · exact ⟨true, hl', hw, .inl ⟨rfl, .inr hx⟩⟩
  · refine (wrule_odd w0.heap.size b w l _ 0 rfl ⟨k, a, bb, p, m, c, rfl⟩ hz hW).mono ?_
    rintro e w' ⟨rfl, hK, hw⟩
    exact ⟨rfl, hK, l, true, by omega, hw, .inl ⟨rfl, .inl rfl⟩⟩
/-- a new writer -/
theorem WrAt.new (B : Nat) (w : World) (hB : B ≤ w.heap.size) : WrAt B w.heap.size (w.alloc (.cells #[.pointer none, .slice none 0 0, .bool false] 63)) [] false :=
  ⟨hB, _, _, .inl rfl, Blk.new w _ _, World.ownsRow_nil _ _ _ _⟩
end Go.Proofs.YtkibaaljpbcjeaaDoor
