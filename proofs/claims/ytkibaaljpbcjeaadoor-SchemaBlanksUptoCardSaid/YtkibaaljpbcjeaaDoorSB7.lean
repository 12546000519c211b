/- Walk: the writer's rule. Walk: the writer's rule where its front refuses. The writer's rule: what its front says, in plain words. -/
import Derived.Test.YtkibaaljpbcjeaaDoorSB4
namespace Go.Proofs.YtkibaaljpbcjeaaDoor
open Go.RowKit
/-- the flag stored twice -/
theorem WrAt.two {B b : Nat} {w1 : World} {l : List UInt8} {o0 : Bool} (h : WrAt B b w1 l o0) (o1 o2 : Bool) : ∃ w2 w3, w1.setCell ⟨b, 2, none⟩ (.bool o1) = w2 ∧ w2.setCell ⟨b, 2, none⟩ (.bool o2) = w3 ∧ WrAt B b w2 l o1 ∧ WrAt B b w3 l o2 ∧ WKeeps B b w1 w2 ∧ WKeeps B b w1 w3 := by
  obtain ⟨h2, k2⟩ := h.odd o1
  obtain ⟨h3, k3⟩ := h2.odd o2
  exact ⟨_, _, rfl, rfl, h2, h3, k2, k2.trans k3⟩
set_option maxHeartbeats 4000000 in
set_option maxRecDepth 100000 in
theorem wrule_odd : RuleOdd := by
  rintro B b w l cs n - ⟨k, a, bb, p, m, c, rfl⟩ hB h
  have hbl := h.lt
  obtain ⟨w1, e1⟩ : ∃ w1, w.alloc (.cells #[.int .i64 k, .string a, .string bb, .slice p m c] 42) = w1 := ⟨_, rfl⟩
  have hb1 := (Below.refl w.heap.size w).alloc (Nat.le_refl _) (.cells #[.int .i64 k, .string a, .string bb, .slice p m c] 42)
  have bx1 := Blk.new w 42 #[.int .i64 k, .string a, .string bb, .slice p m c]
  rw [e1] at hb1 bx1
  have h1 := h.later hb1
  obtain ⟨w2, w3, e2, e3, h2, h3, k2, k3⟩ := h1.two true true
  have bx2 := bx1.wkeeps k2 (by decide) (by omega)
  have bx3 := bx1.wkeeps k3 (by decide) (by omega)
  have bx1c := bx1.cell
  have bx2c := bx2.cell
  have bx3c := bx3.cell
  obtain ⟨q1, f1⟩ := h1.flag
  obtain ⟨q2, f2⟩ := h2.flag
  obtain ⟨q3, f3⟩ := h3.flag
  have f12 := f1 2
  have f22 := f2 2
  have hfin : WKeeps B b w w3 ∧ WrAt B b w3 l true := ⟨(WKeeps.of_below hb1).trans k3, h3⟩
  have hfin' := Lib.hid hfin
  clear hfin h h1 h2 h3 k2 k3 bx1 bx2 bx3 hb1 f1 f2 f3
  go_enter Tryd.func27, Tryd.ntmps27
  go_wp2_with fail
  all_goals
    refine bodyPost_ret (v := .tuple #[]) (by simp [results, Tryd.results27, go_sem]) rfl ?_
    exact ⟨rfl, hfin'.out⟩
end Go.Proofs.YtkibaaljpbcjeaaDoor
namespace Go.Proofs.YtkibaaljpbcjeaaDoor
open Go.RowKit
/-- the front of a rule's writing says no -/
def WRef (k : Int) (a b : ByteArray) (n : Nat) : Prop :=
  ((k == 4) = false ∧ (k == 5) = false ∧ 0 < n) ∨ ((k == 4) = true ∧ n < 2) ∨ ((k == 4) = false ∧ (k == 5) = true ∧ n < 2) ∨
  ((k == 4) = false ∧ (k == 5) = false ∧ n = 0 ∧ (¬ b.toList = []) ∧ (¬ k = 3)) ∨ ((k == 4) = true ∧ 2 ≤ n ∧ (¬ b.toList = []) ∧ (¬ k = 3)) ∨ ((k == 4) = false ∧ (k == 5) = true ∧ 2 ≤ n ∧ (¬ b.toList = []) ∧ (¬ k = 3)) ∨
  ((k == 4) = false ∧ (k == 5) = false ∧ n = 0 ∧ b.toList = [] ∧ (¬ a.toList = []) ∧ (¬ k = 3) ∧ (¬ k = 2)) ∨ ((k == 4) = true ∧ 2 ≤ n ∧ b.toList = [] ∧ (¬ a.toList = []) ∧ (¬ k = 3) ∧ (¬ k = 2)) ∨ ((k == 4) = false ∧ (k == 5) = true ∧ 2 ≤ n ∧ b.toList = [] ∧ (¬ a.toList = []) ∧ (¬ k = 3) ∧ (¬ k = 2))
set_option maxHeartbeats 8000000 in
set_option maxRecDepth 100000 in
theorem wrule_refused (k : Int) (a bb : ByteArray) (p : Option Addr) (c n : Nat) (hn : n ≤ maxLen) (B b : Nat) (w : World) (l : List UInt8) (deep : Int) (hc : WRef k a bb n) (h : WrAt B b w l false) :
    Calls Tryd.prog 27 #[.pointer (some ⟨b, 0, none⟩), .agg #[.int .i64 k, .string a, .string bb, .slice p n c], .int .i64 deep] w fun e w' => e = .returned (.tuple #[]) ∧ WKeeps B b w w' ∧ WrAt B b w' l true := by
  unfold maxLen at hn
  have hbl := h.lt
  obtain ⟨w1, e1⟩ : ∃ w1, w.alloc (.cells #[.int .i64 k, .string a, .string bb, .slice p n c] 42) = w1 := ⟨_, rfl⟩
  have hb1 := (Below.refl w.heap.size w).alloc (Nat.le_refl _) (.cells #[.int .i64 k, .string a, .string bb, .slice p n c] 42)
  have bx1 := Blk.new w 42 #[.int .i64 k, .string a, .string bb, .slice p n c]
  rw [e1] at hb1 bx1
  have h1 := h.later hb1
  have hfront : ∀ o1, ∃ w2 w3, w1.setCell ⟨b, 2, none⟩ (.bool o1) = w2 ∧ w2.setCell ⟨b, 2, none⟩ (.bool true) = w3 ∧ (∀ i, w2.cell? ⟨w.heap.size, i, none⟩ = #[Value.int .i64 k, .string a, .string bb, .slice p n c][i]?) ∧ (∀ i, w3.cell? ⟨w.heap.size, i, none⟩ = #[Value.int .i64 k, .string a, .string bb, .slice p n c][i]?) ∧ w2.cell? ⟨b, 2, none⟩ = some (.bool o1) ∧ w2.frozen? ⟨b, 2, none⟩ = false ∧ w3.cell? ⟨b, 2, none⟩ = some (.bool true) ∧ WKeeps B b w w3 ∧ WrAt B b w3 l true := fun o1 => by
    obtain ⟨w2, w3, e2, e3, h2, h3, k2, k3⟩ := h1.two o1 true
    have bx2 := bx1.wkeeps k2 (by decide) (by omega)
    have bx3 := bx1.wkeeps k3 (by decide) (by omega)
    exact ⟨w2, w3, e2, e3, bx2.cell, bx3.cell, h2.flag.1, h2.flag.2 2, h3.flag.1, (WKeeps.of_below hb1).trans k3, h3⟩
  have bx1c := bx1.cell
  obtain ⟨q1, f1⟩ := h1.flag
  have f12 := f1 2
  clear h h1 bx1 hb1 f1
  have hcs : (∃ o : Bool, o = true ∧ (((k == 4) = false ∧ (k == 5) = false ∧ 0 < n) ∨ ((k == 4) = true ∧ n = 0) ∨ ((k == 4) = true ∧ n = 1) ∨ ((k == 4) = false ∧ (k == 5) = true ∧ n = 0) ∨ ((k == 4) = false ∧ (k == 5) = true ∧ n = 1))) ∨ (∃ o : Bool, o = false ∧ (((k == 4) = false ∧ (k == 5) = false ∧ n = 0 ∧ (¬ bb.toList = []) ∧ (¬ k = 3)) ∨ ((k == 4) = true ∧ 2 ≤ n ∧ (¬ bb.toList = []) ∧ (¬ k = 3)) ∨ ((k == 4) = false ∧ (k == 5) = true ∧ 2 ≤ n ∧ (¬ bb.toList = []) ∧ (¬ k = 3)) ∨
  ((k == 4) = false ∧ (k == 5) = false ∧ n = 0 ∧ bb.toList = [] ∧ (¬ a.toList = []) ∧ (¬ k = 3) ∧ (¬ k = 2)) ∨ ((k == 4) = true ∧ 2 ≤ n ∧ bb.toList = [] ∧ (¬ a.toList = []) ∧ (¬ k = 3) ∧ (¬ k = 2)) ∨ ((k == 4) = false ∧ (k == 5) = true ∧ 2 ≤ n ∧ bb.toList = [] ∧ (¬ a.toList = []) ∧ (¬ k = 3) ∧ (¬ k = 2)))) := by
    rcases hc with h | ⟨h, h2⟩ | ⟨h, h1, h2⟩ | h | h | h | h | h | h
    · exact .inl ⟨true, rfl, .inl h⟩
    · have : n = 0 ∨ n = 1 := by omega
      rcases this with e | e
      · exact .inl ⟨true, rfl, .inr (.inl ⟨h, e⟩)⟩
      · exact .inl ⟨true, rfl, .inr (.inr (.inl ⟨h, e⟩))⟩
    · have : n = 0 ∨ n = 1 := by omega
      rcases this with e | e
      · exact .inl ⟨true, rfl, .inr (.inr (.inr (.inl ⟨h, h1, e⟩)))⟩
      · exact .inl ⟨true, rfl, .inr (.inr (.inr (.inr ⟨h, h1, e⟩)))⟩
    · exact .inr ⟨false, rfl, .inl h⟩
    · exact .inr ⟨false, rfl, .inr (.inl h)⟩
    · exact .inr ⟨false, rfl, .inr (.inr (.inl h))⟩
    · exact .inr ⟨false, rfl, .inr (.inr (.inr (.inl h)))⟩
    · exact .inr ⟨false, rfl, .inr (.inr (.inr (.inr (.inl h))))⟩
    · exact .inr ⟨false, rfl, .inr (.inr (.inr (.inr (.inr h))))⟩
  clear hc
  rcases hcs with ⟨o, ho, hcs⟩ | ⟨o, ho, hcs⟩
  all_goals
    obtain ⟨w2, w3, e2, e3, bx2c, bx3c, q2, f22, q3, hfin⟩ := hfront o
    clear hfront
    subst ho
    have hfin' := Lib.hid hfin
    clear hfin
  · rcases hcs with ⟨x1, x2, x3⟩ | ⟨x1, rfl⟩ | ⟨x1, rfl⟩ | ⟨x1, x2, rfl⟩ | ⟨x1, x2, rfl⟩
    all_goals
      go_enter Tryd.func27, Tryd.ntmps27
      go_wp2_with fail
      all_goals
        refine bodyPost_ret (v := .tuple #[]) (by simp [results, Tryd.results27, go_sem]) rfl ?_
        exact ⟨rfl, hfin'.out⟩
  · rcases hcs with ⟨x1, x2, rfl, x3, x4⟩ | ⟨x1, x2, x3, x4⟩ | ⟨x1, x2, x3, x4, x5⟩ | ⟨x1, x2, rfl, x3, x4, x5, x6⟩ | ⟨x1, x2, x3, x4, x5, x6⟩ | ⟨x1, x2, x3, x4, x5, x6, x7⟩
    all_goals
      try have z3 : (k != 3) = true := bne_iff_ne.2 (by assumption)
      try have z2 : (k != 2) = true := bne_iff_ne.2 (by assumption)
      try have za : a.toList.isEmpty = false := by rw [List.isEmpty_eq_false_iff]; assumption
      try have zb : bb.toList.isEmpty = false := by rw [List.isEmpty_eq_false_iff]; assumption
      try have zc : bb.toList.isEmpty = true := by rw [List.isEmpty_iff]; assumption
      try have y1 : decide ((n : Int) < 2) = false := decide_eq_false (by omega)
      go_enter Tryd.func27, Tryd.ntmps27
      go_wp2_with fail
      all_goals
        refine bodyPost_ret (v := .tuple #[]) (by simp [results, Tryd.results27, go_sem]) rfl ?_
        exact ⟨rfl, hfin'.out⟩
end Go.Proofs.YtkibaaljpbcjeaaDoor
namespace Go.Proofs.YtkibaaljpbcjeaaDoor
open Go.RowKit
theorem nil_data {s : ByteArray} : s.toList = [] ↔ s.data.toList = [] := by rw [Lib.toList_data]
theorem beqF {k m : Int} : (k == m) = false ↔ ¬ k = m := by rw [beq_eq_false_iff_ne]
theorem beqT {k m : Int} : (k == m) = true ↔ k = m := beq_iff_eq
theorem wref_none {k : Int} {a b : ByteArray} {ps : List RT} {d : Nat} (h : WRef k a b ps.length) : ruleT d (.node k a.data.toList b.data.toList ps) = none := by
  unfold WRef at h
  simp only [beqF, beqT, nil_data] at h
  have hps : ps = [] ↔ ps.length = 0 := List.length_eq_zero_iff.symm
  unfold ruleT
  by_cases h1 : k = 1
  · rw [if_pos h1, if_neg]
    rintro ⟨ha, hb, hp⟩
    rw [hps] at hp
    subst h1
    simp [ha, hb, hp] at h
  rw [if_neg h1]
  by_cases h2 : k = 2
  · rw [if_pos h2, if_neg]
    rintro ⟨ha, hb, hp⟩
    rw [hps] at hp
    subst h2
    simp [hb, hp] at h
  rw [if_neg h2]
  by_cases h3 : k = 3
  · rw [if_pos h3, if_neg]
    rintro ⟨ha, hb, hp⟩
    rw [hps] at hp
    subst h3
    simp [hp] at h
  rw [if_neg h3]
  by_cases h4 : k = 4 ∨ k = 5
  · rw [if_pos h4, if_neg]
    rintro ⟨ha, hb, hp⟩
    have : ¬ ps.length < 2 := by omega
    rcases h4 with rfl | rfl
    · simp [ha, hb, this] at h
    · simp [ha, hb, this] at h
  · rw [if_neg h4]
/-- what is left where the front says yes -/
theorem wref_cases {k : Int} {a b : ByteArray} {n : Nat} (h : ¬ WRef k a b n) : (k = 1 ∧ n = 0 ∧ a.toList = [] ∧ b.toList = []) ∨ (k = 2 ∧ n = 0 ∧ b.toList = []) ∨ (k = 3 ∧ n = 0) ∨ ((k = 4 ∨ k = 5) ∧ 2 ≤ n ∧ a.toList = [] ∧ b.toList = []) ∨ (((k ≠ 1 ∧ k ≠ 2 ∧ k ≠ 3) ∧ k ≠ 4 ∧ k ≠ 5) ∧ n = 0 ∧ a.toList = [] ∧ b.toList = []) := by
  unfold WRef at h
  simp only [beqF, beqT] at h
  by_cases ha : a.toList = [] <;> by_cases hb : b.toList = [] <;> simp only [ha, hb, not_true, not_false_eq_true, true_and, and_true, false_and, and_false] at h ⊢ <;> omega
/-- where the front says yes, the flag stays -/
theorem wfront {k : Int} {a bb : ByteArray} {p : Option Addr} {c n : Nat} {B b : Nat} {w : World} {l : List UInt8} (h : WrAt B b w l false) : ∃ w1 w2 w3, w.alloc (.cells #[.int .i64 k, .string a, .string bb, .slice p n c] 42) = w1 ∧ w1.setCell ⟨b, 2, none⟩ (.bool false) = w2 ∧ w2.setCell ⟨b, 2, none⟩ (.bool false) = w3 ∧
    (∀ i, w1.cell? ⟨w.heap.size, i, none⟩ = #[Value.int .i64 k, .string a, .string bb, .slice p n c][i]?) ∧ (∀ i, w2.cell? ⟨w.heap.size, i, none⟩ = #[Value.int .i64 k, .string a, .string bb, .slice p n c][i]?) ∧ Blk w3 w.heap.size 42 #[.int .i64 k, .string a, .string bb, .slice p n c] ∧ w1.cell? ⟨b, 2, none⟩ = some (.bool false) ∧ w1.frozen? ⟨b, 2, none⟩ = false ∧ w2.cell? ⟨b, 2, none⟩ = some (.bool false) ∧ w2.frozen? ⟨b, 2, none⟩ = false ∧ WKeeps B b w w3 ∧ WrAt B b w3 l false ∧ w.heap.size < w3.heap.size := by
  have hbl := h.lt
  obtain ⟨w1, e1⟩ : ∃ w1, w.alloc (.cells #[.int .i64 k, .string a, .string bb, .slice p n c] 42) = w1 := ⟨_, rfl⟩
  have hb1 := (Below.refl w.heap.size w).alloc (Nat.le_refl _) (.cells #[.int .i64 k, .string a, .string bb, .slice p n c] 42)
  have bx1 := Blk.new w 42 #[.int .i64 k, .string a, .string bb, .slice p n c]
  rw [e1] at hb1 bx1
  have h1 := h.later hb1
  obtain ⟨w2, w3, e2, e3, h2, h3, k2, k3⟩ := h1.two false false
  have bx2 := bx1.wkeeps k2 (by decide) (by omega)
  have bx3 := bx1.wkeeps k3 (by decide) (by omega)
  exact ⟨w1, w2, w3, e1, e2, e3, bx1.cell, bx2.cell, bx3, h1.flag.1, h1.flag.2 2, h2.flag.1, h2.flag.2 2, (WKeeps.of_below hb1).trans k3, h3, bx3.lt⟩
end Go.Proofs.YtkibaaljpbcjeaaDoor
