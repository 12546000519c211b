/- What a text tells, plainly: the program's way and the document's way are one. No program in sight. -/
import Derived.Test.YtkmdlpkdoplpdaaDoorCut
import Derived.Test.YtkmdlpkdoplpdaaDoorKey
import Derived.Test.YtkmdlpkdoplpdaaDoorW4
namespace Go.Proofs.YtkmdlpkdoplpdaaDoor
open Go.RowKit

theorem cut1_app (c : UInt8) : ∀ (p x : List UInt8), c ∉ p → cut1 c (p ++ c :: x) = (p, x, true)
  | [], x, _ => by simp [cut1]
  | b :: p, x, h => by
    have hb : ¬ (b == c) = true := fun e => h (by rw [beq_iff_eq] at e; rw [e]; exact List.mem_cons_self)
    rw [List.cons_append, cut1, if_neg hb, cut1_app c p x fun h' => h (List.mem_cons_of_mem _ h')]
theorem cut1_none (c : UInt8) : ∀ (p : List UInt8), c ∉ p → cut1 c p = (p, [], false)
  | [], _ => rfl
  | b :: p, h => by
    have hb : ¬ (b == c) = true := fun e => h (by rw [beq_iff_eq] at e; rw [e]; exact List.mem_cons_self)
    rw [cut1, if_neg hb, cut1_none c p fun h' => h (List.mem_cons_of_mem _ h')]
theorem cut1_true (c : UInt8) : ∀ (l : List UInt8), (cut1 c l).2.2 = true → l = (cut1 c l).1 ++ c :: (cut1 c l).2.1
  | [], h => by simp [cut1] at h
  | b :: l, h => by
    by_cases hb : (b == c) = true
    · rw [cut1, if_pos hb]; rw [beq_iff_eq] at hb; simp [hb]
    · rw [cut1, if_neg hb] at h ⊢
      simp only [List.cons_append, List.cons.injEq, true_and]
      exact cut1_true c l h
theorem cut1_false (c : UInt8) : ∀ (l : List UInt8), (cut1 c l).2.2 = false → (cut1 c l).1 = l ∧ (cut1 c l).2.1 = []
  | [], _ => ⟨rfl, rfl⟩
  | b :: l, h => by
    by_cases hb : (b == c) = true
    · rw [cut1, if_pos hb] at h; simp at h
    · rw [cut1, if_neg hb] at h ⊢
      obtain ⟨h1, h2⟩ := cut1_false c l h
      exact ⟨by rw [h1], h2⟩
/-- no sign of a text's form stands in a name -/
def Plain (l : List UInt8) : Prop := (58 : UInt8) ∉ l ∧ (35 : UInt8) ∉ l ∧ (64 : UInt8) ∉ l
theorem name_plain {l : List UInt8} (h : isName l = true) : Plain l := by
  simp only [isName, Bool.and_eq_true, List.all_eq_true] at h
  refine ⟨fun h0 => ?_, fun h0 => ?_, fun h0 => ?_⟩ <;> (have := h.1.1 _ h0; simp [nameByte] at this)
theorem name_ne {l : List UInt8} (h : isName l = true) : l ≠ [] := by
  rintro rfl; simp [isName] at h
theorem part_name {k : Nat} {p : ByteArray} (hk : k < 5) (h : partOk k p = true) : isName p.data.toList = true := by
  unfold partOk at h
  have : decide (5 ≤ k) = false := by simpa using hk
  rw [this] at h
  simpa using h
theorem part5 {p : ByteArray} (h : partOk 5 p = true) : p.data.toList = [] ∨ isName p.data.toList = true := by
  unfold partOk at h
  rw [Lib.toList_data] at h
  simp only [Bool.or_eq_true, Bool.and_eq_true] at h
  rcases h with h | ⟨_, h⟩
  · exact .inr h
  · exact .inl (by simpa using h)
theorem Tup.ok_names {t : Tup} (h : t.ok = true) : isName t.a.data.toList = true ∧ isName t.b.data.toList = true ∧ isName t.c.data.toList = true ∧ isName t.d.data.toList = true ∧ isName t.e.data.toList = true ∧ (t.f.data.toList = [] ∨ isName t.f.data.toList = true) := by
  simp only [Tup.ok, Bool.and_eq_true] at h
  obtain ⟨⟨⟨⟨⟨h0, h1⟩, h2⟩, h3⟩, h4⟩, h5⟩ := h
  exact ⟨part_name (by omega) h0, part_name (by omega) h1, part_name (by omega) h2, part_name (by omega) h3, part_name (by omega) h4, part5 h5⟩
def printL (a b c d e f : List UInt8) : List UInt8 := a ++ 58 :: (b ++ 35 :: (c ++ 64 :: (d ++ 58 :: (e ++ if f = [] then [] else 35 :: f))))
theorem print_data (t : Tup) : t.print.data.toList = printL t.a.data.toList t.b.data.toList t.c.data.toList t.d.data.toList t.e.data.toList t.f.data.toList := by
  unfold Tup.print Tup.base printL
  rw [Lib.toList_data]
  by_cases h : t.f.data.toList = []
  · rw [if_pos (by rw [List.isEmpty_iff]; exact h), if_pos h]; simp
  · rw [if_neg (by rw [List.isEmpty_iff]; exact h), if_neg h]; simp
theorem cA_data (c : UInt8) (s : ByteArray) : (cA c s).data.toList = (cut1 c s.data.toList).1 := rfl
theorem cB_data (c : UInt8) (s : ByteArray) : (cB c s).data.toList = (cut1 c s.data.toList).2.1 := rfl
theorem cH_data (c : UInt8) (s : ByteArray) : cH c s = (cut1 c s.data.toList).2.2 := rfl
theorem cB_ne {c : UInt8} {s : ByteArray} (h : (cB c s).data.toList ≠ []) : s.data.toList = (cA c s).data.toList ++ c :: (cB c s).data.toList := by
  cases hh : (cut1 c s.data.toList).2.2
  · exact absurd (cut1_false c _ hh).2 h
  · exact cut1_true c _ hh
/-- the subject's text: behind the "@" -/
theorem tail_plain {e f : List UInt8} (he : Plain e) : cut1 35 (e ++ if f = [] then [] else 35 :: f) = (e, f, decide (f ≠ [])) := by
  by_cases hf : f = []
  · subst hf; simp [cut1_none 35 e he.2.1]
  · rw [if_neg hf, cut1_app 35 e f he.2.1]; simp [hf]
/-- a text that is printed is parsed, the program's way -/
theorem parse_print {t : Tup} (h : t.ok = true) : parseT t.print = t ∧ parseOk t.print = true := by
  obtain ⟨ha, hb, hc, hd, he, hf⟩ := Tup.ok_names h
  have pa := name_plain ha
  have pb := name_plain hb
  have pc := name_plain hc
  have pd := name_plain hd
  have pe := name_plain he
  have e0 : t.print.data.toList = (t.a.data.toList ++ 58 :: (t.b.data.toList ++ 35 :: t.c.data.toList)) ++ 64 :: (t.d.data.toList ++ 58 :: (t.e.data.toList ++ if t.f.data.toList = [] then [] else 35 :: t.f.data.toList)) := by
    rw [print_data]; simp [printL]
  have n64 : (64 : UInt8) ∉ t.a.data.toList ++ 58 :: (t.b.data.toList ++ 35 :: t.c.data.toList) := by
    simp only [List.mem_append, List.mem_cons, not_or]
    exact ⟨pa.2.2, by decide, pb.2.2, by decide, pc.2.2⟩
  have c64 := cut1_app 64 _ (t.d.data.toList ++ 58 :: (t.e.data.toList ++ if t.f.data.toList = [] then [] else 35 :: t.f.data.toList)) n64
  rw [← e0] at c64
  have l1 : (cA 64 t.print).data.toList = t.a.data.toList ++ 58 :: (t.b.data.toList ++ 35 :: t.c.data.toList) := by rw [cA_data, c64]
  have l2 : (cB 64 t.print).data.toList = t.d.data.toList ++ 58 :: (t.e.data.toList ++ if t.f.data.toList = [] then [] else 35 :: t.f.data.toList) := by rw [cB_data, c64]
  have c35 : cut1 35 (cA 64 t.print).data.toList = (t.a.data.toList ++ 58 :: t.b.data.toList, t.c.data.toList, true) := by
    rw [l1]
    have := cut1_app 35 (t.a.data.toList ++ 58 :: t.b.data.toList) t.c.data.toList (by
      simp only [List.mem_append, List.mem_cons, not_or]
      exact ⟨pa.2.1, by decide, pb.2.1⟩)
    simpa using this
  have d35 : cut1 35 (cB 64 t.print).data.toList = (t.d.data.toList ++ 58 :: t.e.data.toList, t.f.data.toList, decide (t.f.data.toList ≠ [])) := by
    rw [l2]
    by_cases hf0 : t.f.data.toList = []
    · have := cut1_none 35 (t.d.data.toList ++ 58 :: t.e.data.toList) (by
        simp only [List.mem_append, List.mem_cons, not_or]
        exact ⟨pd.2.1, by decide, pe.2.1⟩)
      simpa [hf0] using this
    · have := cut1_app 35 (t.d.data.toList ++ 58 :: t.e.data.toList) t.f.data.toList (by
        simp only [List.mem_append, List.mem_cons, not_or]
        exact ⟨pd.2.1, by decide, pe.2.1⟩)
      simpa [hf0] using this
  have m1 : (cA 35 (cA 64 t.print)).data.toList = t.a.data.toList ++ 58 :: t.b.data.toList := by rw [cA_data, c35]
  have m2 : (cA 35 (cB 64 t.print)).data.toList = t.d.data.toList ++ 58 :: t.e.data.toList := by rw [cA_data, d35]
  have r0 : cA 58 (cA 35 (cA 64 t.print)) = t.a := bytes_ext (by rw [cA_data, m1, cut1_app 58 _ _ pa.1])
  have r1 : cB 58 (cA 35 (cA 64 t.print)) = t.b := bytes_ext (by rw [cB_data, m1, cut1_app 58 _ _ pa.1])
  have r2 : cB 35 (cA 64 t.print) = t.c := bytes_ext (by rw [cB_data, c35])
  have r3 : cA 58 (cA 35 (cB 64 t.print)) = t.d := bytes_ext (by rw [cA_data, m2, cut1_app 58 _ _ pd.1])
  have r4 : cB 58 (cA 35 (cB 64 t.print)) = t.e := bytes_ext (by rw [cB_data, m2, cut1_app 58 _ _ pd.1])
  have r5 : cB 35 (cB 64 t.print) = t.f := bytes_ext (by rw [cB_data, d35])
  have hT : parseT t.print = t := by unfold parseT; rw [r0, r1, r2, r3, r4, r5]
  refine ⟨hT, ?_⟩
  unfold parseOk
  rw [hT, h, r5, cH_data, d35, Lib.toList_data]
  generalize t.f.data.toList = l
  cases l <;> simp
/-- what the program takes is a text of the tuple that it tells -/
theorem print_parse {s : ByteArray} (h : parseOk s = true) : (parseT s).print = s := by
  simp only [parseOk, Bool.and_eq_true] at h
  obtain ⟨hok, hcond⟩ := h
  obtain ⟨ha, hb, hc, hd, he, hf⟩ := Tup.ok_names hok
  simp only [parseT] at ha hb hc hd he hf
  apply bytes_ext
  rw [print_data]
  simp only [parseT]
  have s1 := cB_ne (name_ne hc)
  have s2 := cB_ne (name_ne hb)
  have s3 := cB_ne (name_ne he)
  have hr : (cB 64 s).data.toList ≠ [] := by
    intro h0
    have : (cA 35 (cB 64 s)).data.toList = [] := by rw [cA_data, h0]; rfl
    rw [this] at s3
    simp at s3
  have s4 := cB_ne hr
  have s5 : (cB 64 s).data.toList = (cA 35 (cB 64 s)).data.toList ++ (if (cB 35 (cB 64 s)).data.toList = [] then [] else 35 :: (cB 35 (cB 64 s)).data.toList) := by
    cases hh : (cut1 35 (cB 64 s).data.toList).2.2
    · obtain ⟨h1, h2⟩ := cut1_false 35 _ hh
      rw [cA_data, cB_data 35, h1, h2]; simp
    · have hne : (cB 35 (cB 64 s)).data.toList ≠ [] := by
        rw [cH_data, hh, Lib.toList_data] at hcond
        simpa using hcond
      rw [if_neg hne]
      exact cut1_true 35 _ hh
  unfold printL
  rw [s4]
  conv => rhs; rw [s1, s5, s2, s3]
  simp
end Go.Proofs.YtkmdlpkdoplpdaaDoor
