/- What is written as a dump is read as it is, plainly. -/
import Derived.Test.YtkmdlpkdoplpdaaDoorUW1
namespace Go.Proofs.YtkmdlpkdoplpdaaDoor
open Go.RowKit
/-- the lines of tuples, and the end's -/
def textL : List Tup → List UInt8 → List UInt8
  | [], e => e ++ [10]
  | t :: l, e => t.print.data.toList ++ 10 :: textL l e
theorem joinTail_text : ∀ (l : List Tup) (e : List UInt8), Lib.joinTail [10] ((l.map Tup.print).map (·.data.toList) ++ [e, []]) = 10 :: textL l e
  | [], e => by simp [Lib.joinTail, textL]
  | t :: l, e => by
    have ih := joinTail_text l e
    show ([10] ++ t.print.data.toList) ++ Lib.joinTail [10] ((l.map Tup.print).map (·.data.toList) ++ [e, []]) = _
    rw [ih]
    simp [textL]
theorem dumpB_data (ts : List Tup) : (dumpB ts).data.toList = headL ++ 10 :: textL ts (endL ts.length) := by
  show Lib.join ((headB :: ts.map Tup.print ++ [(⟨(endL ts.length).toArray⟩ : ByteArray), (⟨#[]⟩ : ByteArray)]).map (·.data.toList)) [10] = _
  rw [List.cons_append, List.map_cons, Lib.join_cons, List.map_append]
  show headL ++ Lib.joinTail [10] ((ts.map Tup.print).map (·.data.toList) ++ [endL ts.length, []]) = _
  rw [joinTail_text]
theorem name_no {l : List UInt8} (h : isName l = true) : (10 : UInt8) ∉ l := by
  intro hm
  unfold isName at h
  simp only [Bool.and_eq_true, List.all_eq_true] at h
  have := h.1.1 _ hm
  revert this
  decide
theorem print_no10 {t : Tup} (h : t.ok = true) : (10 : UInt8) ∉ t.print.data.toList := by
  obtain ⟨h0, h1, h2, h3, h4, h5⟩ := Tup.ok_names h
  rw [print_data]
  unfold printL
  intro hm
  have n0 := name_no h0
  have n1 := name_no h1
  have n2 := name_no h2
  have n3 := name_no h3
  have n4 := name_no h4
  have n5 : (10 : UInt8) ∉ t.f.data.toList := by
    rcases h5 with h5 | h5
    · rw [h5]; simp
    · exact name_no h5
  by_cases hf : t.f.data.toList = []
  · simp [hf, n0, n1, n2, n3, n4] at hm
  · simp [hf, n0, n1, n2, n3, n4, n5] at hm
theorem dd_digits (n : Nat) : ∀ c ∈ Lib.decDigits n, 48 ≤ c ∧ c ≤ 57 := by
  induction n using Nat.strongRecOn with
  | _ n ih =>
    intro c hc
    rw [Lib.decDigits] at hc
    have hd : ∀ m, m < 10 → 48 ≤ UInt8.ofNat (48 + m) ∧ UInt8.ofNat (48 + m) ≤ 57 := by
      intro m hm
      rcases m with _ | _ | _ | _ | _ | _ | _ | _ | _ | _ | m <;> first | omega | decide
    by_cases h : n < 10
    · rw [dif_pos h] at hc
      rw [List.mem_singleton.1 hc]
      exact hd n h
    · rw [dif_neg h] at hc
      rcases List.mem_append.1 hc with hc | hc
      · exact ih (n / 10) (by omega) c hc
      · rw [List.mem_singleton.1 hc]
        exact hd (n % 10) (by omega)
theorem endL_no (n : Nat) (c : UInt8) (h : c = 10 ∨ c = 58) : c ∉ endL n := by
  intro hm
  unfold endL at hm
  rcases List.mem_append.1 hm with hm | hm
  · rcases h with rfl | rfl <;> simp at hm
  · have := dd_digits n c hm
    rcases h with rfl | rfl <;> revert this <;> decide
theorem print_has58 (t : Tup) : (58 : UInt8) ∈ t.print.data.toList := by
  rw [print_data]; unfold printL; simp
theorem print_not_end {t : Tup} {n : Nat} : ¬ t.print.data.toList = endL n := fun e => endL_no n 58 (.inr rfl) (e ▸ print_has58 t)
theorem cut_line {p x : List UInt8} {s : ByteArray} (hs : s.data.toList = p ++ 10 :: x) (hp : (10 : UInt8) ∉ p) : cH 10 s = true ∧ (cA 10 s).data.toList = p ∧ (cB 10 s).data.toList = x := by
  have e := cut1_app 10 p x hp
  rw [← hs] at e
  refine ⟨?_, ?_, ?_⟩
  · unfold cH; rw [e]
  · rw [cA_data, e]
  · rw [cB_data, e]
theorem last_less {out : List Tup} {t : Tup} {l : List Tup} (h : Sorted (out ++ t :: l)) : lastGe out t = false := by
  unfold lastGe
  cases hu : out.getLast? with
  | none => rfl
  | some u =>
    have hm := List.mem_of_getLast? hu
    have := (List.pairwise_append.1 h).2.2 u hm t (by simp)
    exact decide_eq_false (by omega)
theorem dread_lines : ∀ (l out : List Tup) (k : Nat) (s : ByteArray), 2 ≤ k → Sorted (out ++ l) → (∀ t ∈ l, t.ok = true) → s.data.toList = textL l (endL (out ++ l).length) → dread out k false s = (out ++ l, 0, 0)
  | [], out, k, s, hk, _, _, hs => by
    have hs' : s.data.toList = endL out.length ++ 10 :: [] := by rw [hs, List.append_nil]; rfl
    obtain ⟨h1, h2, h3⟩ := cut_line hs' (endL_no _ 10 (.inl rfl))
    have hL : lineR out k false (cA 10 s) = (0, out, true) := by
      unfold lineR; rw [if_neg (by decide), if_neg (by omega), if_pos h2]
    rw [dread_yes h1 (by rw [hL]), hL, dread_end h3, List.append_nil]
  | t :: l, out, k, s, hk, ho, hok, hs => by
    obtain ⟨h1, h2, h3⟩ := cut_line hs (print_no10 (hok t (by simp)))
    have e : cA 10 s = t.print := bytes_ext h2
    obtain ⟨hp1, hp2⟩ := parse_print (hok t (by simp))
    have hL : lineR out k false (cA 10 s) = (0, out ++ [t], false) := by
      rw [e]
      unfold lineR
      rw [if_neg (by decide), if_neg (by omega), if_neg print_not_end, if_neg (by rw [hp2]; decide), hp1, if_neg (by rw [last_less ho]; decide)]
    have e2 : out ++ t :: l = (out ++ [t]) ++ l := by simp
    rw [dread_yes h1 (by rw [hL]), hL]
    show dread (out ++ [t]) (k + 1) false (cB 10 s) = _
    rw [e2] at ho h3 ⊢
    exact dread_lines l (out ++ [t]) (k + 1) (cB 10 s) (by omega) ho (fun u hu => hok u (by simp [hu])) h3
theorem dread_dump {ts : List Tup} (h : Sorted ts) (hok : ∀ t ∈ ts, t.ok = true) : dread [] 1 false (dumpB ts) = (ts, 0, 0) := by
  obtain ⟨h1, h2, h3⟩ := cut_line (dumpB_data ts) (by decide)
  have hL : lineR [] 1 false (cA 10 (dumpB ts)) = (0, [], false) := by
    unfold lineR; rw [if_neg (by decide), if_pos rfl, if_pos h2]
  rw [dread_yes h1 (by rw [hL]), hL]
  exact dread_lines ts [] 2 _ (Nat.le_refl _) h hok h3
theorem dread_len (s : ByteArray) : ∀ (out : List Tup) (k : Nat) (d : Bool), (dread out k d s).1.length ≤ out.length + s.size := by
  obtain ⟨n, hn⟩ : ∃ n, s.size = n := ⟨_, rfl⟩
  induction n using Nat.strongRecOn generalizing s with
  | _ n ih =>
    intro out k d
    by_cases h : cH 10 s = true
    · by_cases h0 : (lineR out k d (cA 10 s)).1 = 0
      · rw [dread_yes h h0]
        have h1 := cut1_rest_le h
        have h2 := ih (cB 10 s).size (by omega) (cB 10 s) rfl (lineR out k d (cA 10 s)).2.1 (k + 1) (lineR out k d (cA 10 s)).2.2
        have h3 := lineR_len out k d (cA 10 s)
        omega
      · rw [dread_bad h h0]; simp
    · cases d
      · rw [dread_short h]; simp
      · by_cases he : s.data.toList = []
        · rw [dread_end he]; simp
        · rw [dread_rest h he]; simp
theorem dump_none : dumpB [] = ⟨#[100, 117, 109, 112, 32, 49, 10, 101, 110, 100, 32, 48, 10]⟩ := by
  apply bytes_ext
  rw [dumpB_data]
  show headL ++ 10 :: (endL 0 ++ [10]) = _
  rw [show endL 0 = [101, 110, 100, 32, 48] by unfold endL; rw [Lib.decDigits]; rfl]
  rfl
end Go.Proofs.YtkmdlpkdoplpdaaDoor
