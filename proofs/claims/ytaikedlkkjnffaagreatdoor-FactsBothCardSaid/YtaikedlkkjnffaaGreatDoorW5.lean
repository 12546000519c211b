/- Walks: the reference's Parts; few. -/
import Derived.Test.YtaikedlkkjnffaaGreatDoorW2
import Derived.Test.YtaikedlkkjnffaaGreatDoorShelf
namespace Go.Proofs.YtaikedlkkjnffaaGreatDoor
open Go.RowKit
theorem parts_calls (t : Tup) (w : World) :
    Calls Tryz.prog 23 #[t.v] w fun e w' => e = .returned (.slice (some ⟨w.heap.size + 1, 0, none⟩) 6 6) ∧ (w.alloc (.cells t.cells 60)).alloc (.cells t.cells 9) = w' := by
  unfold Tup.v
  go_enter Tryz.func23, Tryz.ntmps23
  go_wp2
  go_ret
  exact ⟨rfl, rfl⟩
theorem cells_part (t : Tup) (k : Nat) (h : k < 6) : t.cells[k]? = some (.string (t.part k)) := by
  rcases k with _ | _ | _ | _ | _ | _ | k <;> first | omega | rfl
theorem few_all {ts : List Tup} {n : Nat} (hl : ts.length = n) (h : ∀ j t, j < n → ts[j]? = some t → t.few = true) : ts.all Tup.few = true := by
  rw [List.all_eq_true]
  intro t ht
  obtain ⟨j, hj, e⟩ := List.getElem_of_mem ht
  exact h j t (by omega) (by rw [List.getElem?_eq_getElem hj, e])
theorem few_not {ts : List Tup} {j : Nat} {t : Tup} (h : ts[j]? = some t) (hf : t.few = false) : ts.all Tup.few = false := by
  rw [List.all_eq_false]
  exact ⟨t, List.mem_of_getElem? h, by simp [hf]⟩
theorem few_next {ts : List Tup} {k : Nat} {t : Tup} (h : ∀ j t, j < k → ts[j]? = some t → t.few = true) (ht : ts[k]? = some t) (hf : t.few = true) : ∀ j t, j < k + 1 → ts[j]? = some t → t.few = true := by
  intro j u hj hu
  by_cases e : j = k
  · subst e; rw [ht] at hu; injection hu with hu; rw [← hu]; exact hf
  · exact h j u (by omega) hu
theorem part_next {t : Tup} {m : Nat} (h : ∀ j, j < m → (t.part j).size ≤ 200) (hm : ((t.part m).size : Int) ≤ 200) : ∀ j, j < m + 1 → (t.part j).size ≤ 200 := by
  intro j hj
  by_cases e : j = m
  · subst e; omega
  · exact h j (by omega)
theorem parts_below (t : Tup) (w : World) :
    Calls Tryz.prog 23 #[t.v] w fun e w' => ∃ g, e = .returned (.slice (some ⟨g, 0, none⟩) 6 6) ∧ Blk w' g 9 t.cells ∧ w.heap.size ≤ g ∧ Below w.heap.size w w' :=
  (parts_calls t w).mono fun e w' ⟨he, hw⟩ => by
    refine ⟨w.heap.size + 1, he, ?_, by omega, ?_⟩
    · rw [← hw]
      have h := Blk.new (w.alloc (.cells t.cells 60)) 9 t.cells
      simp only [World.size_alloc] at h
      exact h
    · rw [← hw]; exact ((Below.refl _ _).alloc (Nat.le_refl _) _).alloc (by simp) _
end Go.Proofs.YtaikedlkkjnffaaGreatDoor
