/- The order of tuples, and a set of them, plainly: no program in sight. -/
import Derived.Test.YtaikedlkkjnffaaGreatDoorCmp
namespace Go.Proofs.YtaikedlkkjnffaaGreatDoor
open Go.RowKit
theorem cb_flip : ∀ a b : List UInt8, Lib.compareBytes b a = - Lib.compareBytes a b
  | [], [] => rfl
  | [], _ :: _ => rfl
  | _ :: _, [] => rfl
  | a :: x, b :: y => by
    unfold Lib.compareBytes
    by_cases h1 : a < b
    · have h2 : ¬ b < a := fun h => UInt8.lt_irrefl _ (UInt8.lt_trans h h1)
      rw [if_neg h2, if_pos h1, if_pos h1]; rfl
    · by_cases h2 : b < a
      · rw [if_pos h2, if_neg h1, if_pos h2]
      · rw [if_neg h2, if_neg h1, if_neg h1, if_neg h2]
        exact cb_flip x y
theorem cb_trans : ∀ a b c : List UInt8, Lib.compareBytes a b = -1 → Lib.compareBytes b c = -1 → Lib.compareBytes a c = -1
  | [], [], _, h, _ => by simp [Lib.compareBytes] at h
  | [], _ :: _, [], _, h => by simp [Lib.compareBytes] at h
  | [], _ :: _, _ :: _, _, _ => rfl
  | _ :: _, [], _, h, _ => by simp [Lib.compareBytes] at h
  | _ :: _, _ :: _, [], _, h => by simp [Lib.compareBytes] at h
  | a :: x, b :: y, c :: z, h1, h2 => by
    unfold Lib.compareBytes at h1 h2 ⊢
    by_cases ab : a < b
    · by_cases bc : b < c
      · rw [if_pos (UInt8.lt_trans ab bc)]
      · rw [if_neg bc] at h2
        by_cases cb : c < b
        · rw [if_pos cb] at h2; cases h2
        · have e : b = c := UInt8.le_antisymm (UInt8.not_lt.1 cb) (UInt8.not_lt.1 bc)
          rw [← e, if_pos ab]
    · rw [if_neg ab] at h1
      by_cases ba : b < a
      · rw [if_pos ba] at h1; cases h1
      · rw [if_neg ba] at h1
        have e : a = b := UInt8.le_antisymm (UInt8.not_lt.1 ba) (UInt8.not_lt.1 ab)
        subst e
        by_cases bc : a < c
        · rw [if_pos bc]
        · rw [if_neg bc] at h2 ⊢
          by_cases cb : c < a
          · rw [if_pos cb] at h2; cases h2
          · rw [if_neg cb] at h2 ⊢
            exact cb_trans x y z h1 h2
theorem cmpL_flip : ∀ a b : List (List UInt8), cmpL b a = - cmpL a b
  | [], [] => rfl
  | [], _ :: _ => rfl
  | _ :: _, [] => rfl
  | p :: ps, q :: qs => by
    unfold cmpL
    rw [cb_flip p q]
    by_cases h : Lib.compareBytes p q = 0
    · rw [if_pos h, if_pos (by omega)]; exact cmpL_flip ps qs
    · rw [if_neg h, if_neg (by omega)]
theorem cmpL_three : ∀ a b : List (List UInt8), cmpL a b = 0 ∨ cmpL a b = -1 ∨ cmpL a b = 1
  | [], [] => .inl rfl
  | [], _ :: _ => .inl rfl
  | _ :: _, [] => .inl rfl
  | p :: ps, q :: qs => by
    unfold cmpL
    split
    · exact cmpL_three ps qs
    · exact cb_three p q
theorem cmpL_eq : ∀ a b : List (List UInt8), a.length = b.length → cmpL a b = 0 → a = b
  | [], [], _, _ => rfl
  | [], _ :: _, h, _ => by cases h
  | _ :: _, [], h, _ => by cases h
  | p :: ps, q :: qs, hl, h => by
    unfold cmpL at h
    split at h
    · rename_i h0
      rw [cb_eq p q h0, cmpL_eq ps qs (by simpa using hl) h]
    · rename_i h0; exact absurd h h0
theorem cmpL_trans : ∀ a b c : List (List UInt8), a.length = b.length → b.length = c.length → cmpL a b = -1 → cmpL b c = -1 → cmpL a c = -1
  | [], _, _, _, _, h, _ => by simp [cmpL] at h
  | _ :: _, [], _, h, _, _, _ => by cases h
  | _ :: _, _ :: _, [], _, h, _, _ => by cases h
  | p :: ps, q :: qs, r :: rs, l1, l2, h1, h2 => by
    unfold cmpL at h1 h2 ⊢
    by_cases a0 : Lib.compareBytes p q = 0
    · rw [if_pos a0] at h1
      obtain rfl := cb_eq p q a0
      by_cases b0 : Lib.compareBytes p r = 0
      · rw [if_pos b0] at h2 ⊢
        exact cmpL_trans ps qs rs (by simpa using l1) (by simpa using l2) h1 h2
      · rw [if_neg b0] at h2 ⊢; exact h2
    · rw [if_neg a0] at h1
      by_cases b0 : Lib.compareBytes q r = 0
      · obtain rfl := cb_eq q r b0
        rw [if_neg a0]; exact h1
      · rw [if_neg b0] at h2
        have := cb_trans p q r h1 h2
        rw [if_neg (by omega)]; exact this
theorem ls_len (t : Tup) : t.ls.length = 6 := rfl
theorem cmpT_flip (t u : Tup) : cmpT u t = - cmpT t u := cmpL_flip _ _
theorem cmpT_three (t u : Tup) : cmpT t u = 0 ∨ cmpT t u = -1 ∨ cmpT t u = 1 := cmpL_three _ _
theorem cmpT_self (t : Tup) : cmpT t t = 0 := cmpL_self _
theorem cmpT_eq {t u : Tup} (h : cmpT t u = 0) : t = u := by
  have := cmpL_eq t.ls u.ls rfl h
  cases t; cases u
  simp only [Tup.ls, Tup.l, List.map_cons, List.map_nil, List.cons.injEq, and_true] at this
  obtain ⟨h0, h1, h2, h3, h4, h5⟩ := this
  rw [bytes_ext h0, bytes_ext h1, bytes_ext h2, bytes_ext h3, bytes_ext h4, bytes_ext h5]
theorem cmpT_trans {t u v : Tup} (h1 : cmpT t u < 0) (h2 : cmpT u v < 0) : cmpT t v < 0 := by
  have a := cmpT_three t u
  have b := cmpT_three u v
  have := cmpL_trans t.ls u.ls v.ls rfl rfl (by show cmpT t u = -1; omega) (by show cmpT u v = -1; omega)
  show cmpL _ _ < 0
  omega
theorem cmpT_gt {t u : Tup} (h : ¬ cmpT t u < 0) (hn : t ≠ u) : cmpT u t < 0 := by
  have a := cmpT_three t u
  rw [cmpT_flip t u]
  have : cmpT t u ≠ 0 := fun e => hn (cmpT_eq e)
  omega
instance : DecidableEq Tup := fun t u => if h : t.same u = true then .isTrue (same_eq.1 h) else .isFalse fun e => h (same_eq.2 e)
/-- one behind the other, each greater -/
def Sorted (l : List Tup) : Prop := l.Pairwise fun a b => cmpT a b < 0
theorem Sorted.ext : ∀ {a b : List Tup}, Sorted a → Sorted b → (∀ t, t ∈ a ↔ t ∈ b) → a = b
  | [], [], _, _, _ => rfl
  | [], u :: b, _, _, h => by have := (h u).2 (by simp); simp at this
  | t :: a, [], _, _, h => by have := (h t).1 (by simp); simp at this
  | t :: a, u :: b, ha, hb, h => by
    have ha1 := List.pairwise_cons.1 ha
    have hb1 := List.pairwise_cons.1 hb
    have e : t = u := by
      rcases List.mem_cons.1 ((h t).1 List.mem_cons_self) with e | e
      · exact e
      · rcases List.mem_cons.1 ((h u).2 List.mem_cons_self) with e' | e'
        · exact e'.symm
        · have h1 := hb1.1 t e
          have h2 := ha1.1 u e'
          rw [cmpT_flip] at h1
          omega
    subst e
    rw [Sorted.ext ha1.2 hb1.2 fun x => ?_]
    constructor
    · intro hx
      rcases List.mem_cons.1 ((h x).1 (List.mem_cons_of_mem _ hx)) with e | e
      · have := ha1.1 x hx; rw [e, cmpT_self] at this; omega
      · exact e
    · intro hx
      rcases List.mem_cons.1 ((h x).2 (List.mem_cons_of_mem _ hx)) with e | e
      · have := hb1.1 x hx; rw [e, cmpT_self] at this; omega
      · exact e
/-- a tuple laid into a set, as the document does it -/
def ins : List Tup → Tup → List Tup
  | [], t => [t]
  | u :: l, t => if cmpT u t < 0 then u :: ins l t else if u = t then u :: l else t :: u :: l
theorem ins_mem : ∀ (l : List Tup) (t x : Tup), x ∈ ins l t ↔ x ∈ l ∨ x = t
  | [], t, x => by simp [ins]
  | u :: l, t, x => by
    unfold ins
    split
    · rw [List.mem_cons, ins_mem l t x, List.mem_cons]; exact or_assoc.symm
    · split
      · rename_i e
        subst e
        rw [List.mem_cons]
        exact ⟨.inl, fun h => h.elim id .inl⟩
      · rw [List.mem_cons, List.mem_cons]
        exact ⟨fun h => h.elim .inr .inl, fun h => h.elim .inr .inl⟩
theorem ins_sorted : ∀ (l : List Tup) (t : Tup), Sorted l → Sorted (ins l t)
  | [], t, _ => by show List.Pairwise _ [t]; simp
  | u :: l, t, h => by
    have h1 := List.pairwise_cons.1 h
    unfold ins
    split
    · rename_i hl
      refine List.pairwise_cons.2 ⟨fun x hx => ?_, ins_sorted l t h1.2⟩
      rcases (ins_mem l t x).1 hx with e | e
      · exact h1.1 x e
      · rw [e]; exact hl
    · rename_i hl
      split
      · exact h
      · rename_i hn
        have hg := cmpT_gt hl hn
        refine List.pairwise_cons.2 ⟨fun x hx => ?_, h⟩
        rcases List.mem_cons.1 hx with e | e
        · rw [e]; exact hg
        · exact cmpT_trans hg (h1.1 x e)
/-- the set of the tuples that may be -/
def setT (l : List Tup) : List Tup := (l.filter Tup.ok).foldl ins []
theorem foldl_ins : ∀ (l s : List Tup), Sorted s → Sorted (l.foldl ins s) ∧ ∀ x, x ∈ l.foldl ins s ↔ x ∈ s ∨ x ∈ l
  | [], s, h => ⟨h, fun x => by simp⟩
  | t :: l, s, h => by
    obtain ⟨h1, h2⟩ := foldl_ins l (ins s t) (ins_sorted s t h)
    refine ⟨h1, fun x => ?_⟩
    rw [List.foldl_cons, h2 x, ins_mem, List.mem_cons, or_assoc]
theorem setT_sorted (l : List Tup) : Sorted (setT l) := (foldl_ins _ [] List.Pairwise.nil).1
theorem setT_mem (l : List Tup) (x : Tup) : x ∈ setT l ↔ x ∈ l ∧ x.ok = true := by
  unfold setT
  rw [(foldl_ins _ [] List.Pairwise.nil).2 x, List.mem_filter]
  simp
/-- neighbours that are the same, once -/
def compactT : List Tup → List Tup
  | [] => []
  | [t] => [t]
  | t :: u :: l => if t = u then compactT (u :: l) else t :: compactT (u :: l)
theorem compactT_mem : ∀ (l : List Tup) (x : Tup), x ∈ compactT l ↔ x ∈ l
  | [], x => Iff.rfl
  | [t], x => Iff.rfl
  | t :: u :: l, x => by
    unfold compactT
    split
    · rename_i e
      rw [compactT_mem (u :: l) x, e]
      exact ⟨fun h => List.mem_cons_of_mem _ h, fun h => (List.mem_cons.1 h).elim (fun e => e ▸ List.mem_cons_self) fun h => h⟩
    · rw [List.mem_cons, compactT_mem (u :: l) x, List.mem_cons (a := x) (b := t)]
theorem compactT_sorted : ∀ (l : List Tup), l.Pairwise (fun a b => ¬ cmpT b a < 0) → Sorted (compactT l)
  | [], _ => List.Pairwise.nil
  | [t], _ => by show List.Pairwise _ [t]; simp
  | t :: u :: l, h => by
    have h1 := List.pairwise_cons.1 h
    unfold compactT
    split
    · exact compactT_sorted (u :: l) h1.2
    · rename_i hn
      refine List.pairwise_cons.2 ⟨fun x hx => ?_, compactT_sorted (u :: l) h1.2⟩
      have hu : cmpT t u < 0 := cmpT_gt (h1.1 u (by simp)) (Ne.symm hn)
      rcases List.mem_cons.1 ((compactT_mem _ x).1 hx) with e | e
      · rw [e]; exact hu
      · have h2 := (List.pairwise_cons.1 h1.2).1 x e
        by_cases e2 : u = x
        · rw [← e2]; exact hu
        · exact cmpT_trans hu (cmpT_gt h2 (Ne.symm e2))
/-- sorted, each once, those that may be: the set -/
theorem sorted_set {l s : List Tup} (h : s.Pairwise fun a b => ¬ cmpT b a < 0) (hm : ∀ x, x ∈ s ↔ x ∈ l) : (compactT s).filter Tup.ok = setT l := by
  refine Sorted.ext ((compactT_sorted s h).sublist List.filter_sublist) (setT_sorted l) fun x => ?_
  rw [List.mem_filter, compactT_mem, hm, setT_mem]
end Go.Proofs.YtaikedlkkjnffaaGreatDoor
