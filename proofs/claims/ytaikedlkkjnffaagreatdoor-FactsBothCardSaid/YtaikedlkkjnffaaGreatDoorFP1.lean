/- A book of tuples, plainly: who is a subject of what, which objects there are; rows in order, each once. No program in sight. -/
import Derived.Test.YtaikedlkkjnffaaGreatDoorUQ2
namespace Go.Proofs.YtaikedlkkjnffaaGreatDoor
open Go.RowKit
/-- an order -/
structure CmpOk {α : Type} (c : α → α → Int) : Prop where
  flip : ∀ a b, c b a = - c a b
  eq : ∀ a b, c a b = 0 → a = b
  trans : ∀ a b d, c a b < 0 → c b d < 0 → c a d < 0
section
variable {α : Type} {c : α → α → Int}
theorem CmpOk.self (h : CmpOk c) (a : α) : c a a = 0 := by have := h.flip a a; omega
theorem CmpOk.gt (h : CmpOk c) {t u : α} (hl : ¬ c t u < 0) (hn : t ≠ u) : c u t < 0 := by
  rw [h.flip t u]
  have : c t u ≠ 0 := fun e => hn (h.eq _ _ e)
  omega
/-- one behind the other, each greater -/
def SortedG (c : α → α → Int) (l : List α) : Prop := l.Pairwise fun a b => c a b < 0
theorem SortedG.ext (hc : CmpOk c) : ∀ {a b : List α}, SortedG c a → SortedG c b → (∀ t, t ∈ a ↔ t ∈ b) → a = b
  | [], [], _, _, _ => rfl
  | [], u :: b, _, _, h => by have := (h u).2 (by simp); simp at this
  | t :: a, [], _, _, h => by have := (h t).1 (by simp); simp at this
  | t :: a, u :: b, ha, hb, h => by
    have ha1 := List.pairwise_cons.1 ha
    have hb1 := List.pairwise_cons.1 hb
    have e : t = u := by
      rcases List.mem_cons.1 ((h t).1 List.mem_cons_self) with e | e
      · exact e
      · rcases List.mem_cons.1 ((h u).2 List.mem_cons_self) with e' | e'
        · exact e'.symm
        · have h1 := hb1.1 t e
          have h2 := ha1.1 u e'
          rw [hc.flip] at h1
          omega
    subst e
    rw [SortedG.ext hc ha1.2 hb1.2 fun x => ?_]
    constructor
    · intro hx
      rcases List.mem_cons.1 ((h x).1 (List.mem_cons_of_mem _ hx)) with e | e
      · have := ha1.1 x hx; rw [e, hc.self] at this; omega
      · exact e
    · intro hx
      rcases List.mem_cons.1 ((h x).2 (List.mem_cons_of_mem _ hx)) with e | e
      · have := hb1.1 x hx; rw [e, hc.self] at this; omega
      · exact e
/-- what a sort leaves, each once -/
theorem sortedG_of_perm (hc : CmpOk c) {s l : List α} (hp : s.Perm l) (hn : l.Nodup) (hs : s.Pairwise fun a b => ¬ c b a < 0) : SortedG c s := by
  have hn' : s.Nodup := hp.symm.nodup hn
  refine List.Pairwise.imp₂ (fun a b h1 h2 => ?_) hs hn'
  exact hc.gt h1 (Ne.symm h2)
end
section
variable {α : Type} [DecidableEq α] {c : α → α → Int}
/-- one laid into a set, as the document does it -/
def insG (c : α → α → Int) : List α → α → List α
  | [], t => [t]
  | u :: l, t => if c u t < 0 then u :: insG c l t else if u = t then u :: l else t :: u :: l
theorem insG_mem : ∀ (l : List α) (t x : α), x ∈ insG c l t ↔ x ∈ l ∨ x = t
  | [], t, x => by simp [insG]
  | u :: l, t, x => by
    unfold insG
    split
    · rw [List.mem_cons, insG_mem l t x, List.mem_cons]; exact or_assoc.symm
    · split
      · rename_i e
        subst e
        rw [List.mem_cons]
        exact ⟨.inl, fun h => h.elim id .inl⟩
      · rw [List.mem_cons, List.mem_cons]
        exact ⟨fun h => h.elim .inr .inl, fun h => h.elim .inr .inl⟩
theorem insG_sorted (hc : CmpOk c) : ∀ (l : List α) (t : α), SortedG c l → SortedG c (insG c l t)
  | [], t, _ => by show List.Pairwise _ [t]; simp
  | u :: l, t, h => by
    have h1 := List.pairwise_cons.1 h
    unfold insG
    split
    · rename_i hl
      refine List.pairwise_cons.2 ⟨fun x hx => ?_, insG_sorted hc l t h1.2⟩
      rcases (insG_mem l t x).1 hx with e | e
      · exact h1.1 x e
      · rw [e]; exact hl
    · rename_i hl
      split
      · exact h
      · rename_i hn
        have hg := hc.gt hl hn
        refine List.pairwise_cons.2 ⟨fun x hx => ?_, h⟩
        rcases List.mem_cons.1 hx with e | e
        · rw [e]; exact hg
        · exact hc.trans _ _ _ hg (h1.1 x e)
theorem insG_at : ∀ (l : List α) (t : α) (k : Nat), (∀ j u, j < k → l[j]? = some u → c u t < 0) → k ≤ l.length → (∀ u, l[k]? = some u → ¬ c u t < 0) → insG c l t = if l[k]? = some t then l else l.take k ++ t :: l.drop k
  | [], t, k, _, hk, _ => by
    obtain rfl : k = 0 := by simpa using hk
    rfl
  | u :: l, t, 0, _, _, hs => by
    have h0 := hs u rfl
    unfold insG
    rw [if_neg h0]
    by_cases e : u = t
    · subst e; simp
    · rw [if_neg e, if_neg (by simpa using e)]; rfl
  | u :: l, t, k + 1, hlow, hk, hs => by
    have h0 := hlow 0 u (by omega) rfl
    unfold insG
    rw [if_pos h0, insG_at l t k (fun j v hj hv => hlow (j + 1) v (by omega) (by simpa using hv)) (by simpa using hk) (fun v hv => hs v (by simpa using hv))]
    simp only [List.getElem?_cons_succ, List.take_succ_cons, List.drop_succ_cons, List.cons_append]
    split <;> rfl
theorem insG_len : ∀ (l : List α) (t : α), (insG c l t).length ≤ l.length + 1
  | [], _ => Nat.le_refl _
  | u :: l, t => by
    unfold insG
    split
    · have := insG_len l t; simp; omega
    · split <;> simp
theorem foldl_insG (hc : CmpOk c) : ∀ (l s : List α), SortedG c s → SortedG c (l.foldl (insG c) s) ∧ ∀ x, x ∈ l.foldl (insG c) s ↔ x ∈ s ∨ x ∈ l
  | [], s, h => ⟨h, fun x => by simp⟩
  | t :: l, s, h => by
    obtain ⟨h1, h2⟩ := foldl_insG hc l (insG c s t) (insG_sorted hc s t h)
    refine ⟨h1, fun x => ?_⟩
    rw [List.foldl_cons, h2 x, insG_mem, List.mem_cons, or_assoc]
end
/-- three texts: a point, or a subject -/
structure Tri where
  (x y z : ByteArray)
/-- two texts: an object -/
structure Ob where
  (t i : ByteArray)
def Tup.pt (t : Tup) : Tri := ⟨t.a, t.b, t.c⟩
def Tup.sb (t : Tup) : Tri := ⟨t.d, t.e, t.f⟩
def Tup.ob (t : Tup) : Ob := ⟨t.a, t.b⟩
def Tup.so (t : Tup) : Ob := ⟨t.d, t.e⟩
def Tri.v (p : Tri) : Value := .agg #[.string p.x, .string p.y, .string p.z]
def Ob.v (o : Ob) : Value := .agg #[.string o.t, .string o.i]
def same3 (a b c a' b' c' : ByteArray) : Bool := a.toList == a'.toList && (b.toList == b'.toList && c.toList == c'.toList)
def same2 (a b a' b' : ByteArray) : Bool := a.toList == a'.toList && b.toList == b'.toList
def Tri.same (p q : Tri) : Bool := same3 p.x p.y p.z q.x q.y q.z
def Ob.same (p q : Ob) : Bool := same2 p.t p.i q.t q.i
theorem Tri.same_eq {p q : Tri} : p.same q = true ↔ p = q := by
  constructor
  · intro h
    simp only [Tri.same, same3, Bool.and_eq_true, beq_iff_eq, Lib.toList_data] at h
    obtain ⟨h0, h1, h2⟩ := h
    cases p; cases q
    simp only at h0 h1 h2
    rw [bytes_ext h0, bytes_ext h1, bytes_ext h2]
  · rintro rfl; simp [Tri.same, same3]
theorem Ob.same_eq {p q : Ob} : p.same q = true ↔ p = q := by
  constructor
  · intro h
    simp only [Ob.same, same2, Bool.and_eq_true, beq_iff_eq, Lib.toList_data] at h
    obtain ⟨h0, h1⟩ := h
    cases p; cases q
    simp only at h0 h1
    rw [bytes_ext h0, bytes_ext h1]
  · rintro rfl; simp [Ob.same, same2]
instance : DecidableEq Tri := fun t u => if h : t.same u = true then .isTrue (Tri.same_eq.1 h) else .isFalse fun e => h (Tri.same_eq.2 e)
instance : DecidableEq Ob := fun t u => if h : t.same u = true then .isTrue (Ob.same_eq.1 h) else .isFalse fun e => h (Ob.same_eq.2 e)
theorem Tri.same_no {p q : Tri} (h : p ≠ q) : p.same q = false := Bool.eq_false_iff.2 fun e => h (Tri.same_eq.1 e)
theorem Ob.same_no {p q : Ob} (h : p ≠ q) : p.same q = false := Bool.eq_false_iff.2 fun e => h (Ob.same_eq.1 e)
theorem Tri.v_inj {p q : Tri} (h : p.v = q.v) : p = q := by
  cases p; cases q
  simp only [Tri.v, Value.agg.injEq, Array.mk.injEq, List.cons.injEq, Value.string.injEq, and_true] at h
  obtain ⟨rfl, rfl, rfl⟩ := h
  rfl
theorem Ob.v_inj {p q : Ob} (h : p.v = q.v) : p = q := by
  cases p; cases q
  simp only [Ob.v, Value.agg.injEq, Array.mk.injEq, List.cons.injEq, Value.string.injEq, and_true] at h
  obtain ⟨rfl, rfl⟩ := h
  rfl
def subsD (l : List Tup) (p : Tri) : List Tri := (l.filter fun t => decide (t.pt = p)).map Tup.sb
def pointsD (l : List Tup) (s : Tri) : List Tri := (l.filter fun t => decide (t.sb = s)).map Tup.pt
theorem subsD_yes {l : List Tup} {t : Tup} {p : Tri} (h : t.pt = p) : subsD (l ++ [t]) p = subsD l p ++ [t.sb] := by
  unfold subsD; rw [List.filter_append]; simp [h]
theorem subsD_no {l : List Tup} {t : Tup} {p : Tri} (h : t.pt ≠ p) : subsD (l ++ [t]) p = subsD l p := by
  unfold subsD; rw [List.filter_append]; simp [h]
theorem pointsD_yes {l : List Tup} {t : Tup} {p : Tri} (h : t.sb = p) : pointsD (l ++ [t]) p = pointsD l p ++ [t.pt] := by
  unfold pointsD; rw [List.filter_append]; simp [h]
theorem pointsD_no {l : List Tup} {t : Tup} {p : Tri} (h : t.sb ≠ p) : pointsD (l ++ [t]) p = pointsD l p := by
  unfold pointsD; rw [List.filter_append]; simp [h]
theorem subsD_len (l : List Tup) (p : Tri) : (subsD l p).length ≤ l.length := by unfold subsD; rw [List.length_map]; exact List.length_filter_le _ _
theorem pointsD_len (l : List Tup) (p : Tri) : (pointsD l p).length ≤ l.length := by unfold pointsD; rw [List.length_map]; exact List.length_filter_le _ _
/-- the order of objects -/
def cmpO (a b : Ob) : Int := if Lib.compareBytes a.t.data.toList b.t.data.toList = 0 then Lib.compareBytes a.i.data.toList b.i.data.toList else Lib.compareBytes a.t.data.toList b.t.data.toList
theorem cmpO_L (a b : Ob) : cmpO a b = cmpL [a.t.data.toList, a.i.data.toList] [b.t.data.toList, b.i.data.toList] := by
  unfold cmpO cmpL
  split
  · unfold cmpL
    split
    · rename_i h; rw [h]; rfl
    · rfl
  · rfl
theorem cmpO_ok : CmpOk cmpO := ⟨fun a b => by rw [cmpO_L, cmpO_L]; exact cmpL_flip _ _, fun a b h => by
    rw [cmpO_L] at h
    have := cmpL_eq [a.t.data.toList, a.i.data.toList] [b.t.data.toList, b.i.data.toList] rfl h
    cases a; cases b
    simp only [List.cons.injEq, and_true] at this
    obtain ⟨h0, h1⟩ := this
    rw [bytes_ext h0, bytes_ext h1], fun a b d h1 h2 => by
    rw [cmpO_L] at h1 h2 ⊢
    have a1 := cmpL_three [a.t.data.toList, a.i.data.toList] [b.t.data.toList, b.i.data.toList]
    have a2 := cmpL_three [b.t.data.toList, b.i.data.toList] [d.t.data.toList, d.i.data.toList]
    have := cmpL_trans [a.t.data.toList, a.i.data.toList] [b.t.data.toList, b.i.data.toList] [d.t.data.toList, d.i.data.toList] rfl rfl (show cmpL [a.t.data.toList, a.i.data.toList] [b.t.data.toList, b.i.data.toList] = -1 by omega) (show cmpL [b.t.data.toList, b.i.data.toList] [d.t.data.toList, d.i.data.toList] = -1 by omega)
    omega⟩
/-- all objects of tuples -/
def allO (l : List Tup) : List Ob := l.flatMap fun t => [t.ob, t.so]
def objsD (l : List Tup) (typ : ByteArray) : List Ob := ((allO l).filter fun o => decide (o.t = typ)).foldl (insG cmpO) []
theorem allO_app (l : List Tup) (t : Tup) : allO (l ++ [t]) = allO l ++ [t.ob, t.so] := by unfold allO; rw [List.flatMap_append]; simp
theorem objsD_sorted (l : List Tup) (typ : ByteArray) : SortedG cmpO (objsD l typ) := (foldl_insG cmpO_ok _ [] List.Pairwise.nil).1
theorem objsD_mem (l : List Tup) (typ : ByteArray) (o : Ob) : o ∈ objsD l typ ↔ o ∈ allO l ∧ o.t = typ := by
  unfold objsD
  rw [(foldl_insG cmpO_ok _ [] List.Pairwise.nil).2 o, List.mem_filter]
  simp
theorem foldl_insG_len {α : Type} [DecidableEq α] {c : α → α → Int} : ∀ (l s : List α), (l.foldl (insG c) s).length ≤ s.length + l.length
  | [], s => Nat.le_refl _
  | t :: l, s => by
    rw [List.foldl_cons]
    have h1 := foldl_insG_len (c := c) l (insG c s t)
    have h2 := insG_len (c := c) s t
    rw [List.length_cons]
    omega
theorem allO_len : ∀ l : List Tup, (allO l).length = 2 * l.length
  | [] => rfl
  | t :: l => by
    show ([t.ob, t.so] ++ allO l).length = _
    rw [List.length_append, allO_len l, List.length_cons]; simp; omega
theorem objsD_len (l : List Tup) (typ : ByteArray) : (objsD l typ).length ≤ 2 * l.length := by
  have h1 := foldl_insG_len (c := cmpO) ((allO l).filter fun o => decide (o.t = typ)) []
  have h2 := List.length_filter_le (fun o : Ob => decide (o.t = typ)) (allO l)
  have h3 := allO_len l
  unfold objsD
  simp at h1
  omega
end Go.Proofs.YtaikedlkkjnffaaGreatDoor
