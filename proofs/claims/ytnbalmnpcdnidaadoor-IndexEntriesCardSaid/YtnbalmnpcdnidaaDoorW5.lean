/- Walks: the reference's Parts; few. -/
import Derived.Test.YtnbalmnpcdnidaaDoorW4
namespace Go.Proofs.YtnbalmnpcdnidaaDoor
open Go.RowKit
theorem parts_calls (t : Tup) (w : World) :
    Calls Tryd.prog 42 #[t.v] w fun e w' => e = .returned (.slice (some ⟨w.heap.size + 1, 0, none⟩) 6 6) ∧ (w.alloc (.cells t.cells 28)).alloc (.cells t.cells 9) = w' := by
  unfold Tup.v
  go_enter Tryd.func42, Tryd.ntmps42
  go_wp2
  go_ret
  exact ⟨rfl, rfl⟩
theorem cells_part (t : Tup) (k : Nat) (h : k < 6) : t.cells[k]? = some (.string (t.part k)) := by
  rcases k with _ | _ | _ | _ | _ | _ | k <;> first | omega | rfl
theorem few_all {ts : List Tup} {n : Nat} (hl : ts.length = n) (h : ∀ j t, j < n → ts[j]? = some t → t.few = true) : ts.all Tup.few = true := by
  rw [List.all_eq_true]
  intro t ht
  obtain ⟨j, hj, e⟩ := List.getElem_of_mem ht
  exact h j t (by omega) (by rw [List.getElem?_eq_getElem hj, e])
theorem few_not {ts : List Tup} {j : Nat} {t : Tup} (h : ts[j]? = some t) (hf : t.few = false) : ts.all Tup.few = false := by
  rw [List.all_eq_false]
  exact ⟨t, List.mem_of_getElem? h, by simp [hf]⟩
theorem few_next {ts : List Tup} {k : Nat} {t : Tup} (h : ∀ j t, j < k → ts[j]? = some t → t.few = true) (ht : ts[k]? = some t) (hf : t.few = true) : ∀ j t, j < k + 1 → ts[j]? = some t → t.few = true := by
  intro j u hj hu
  by_cases e : j = k
  · subst e; rw [ht] at hu; injection hu with hu; rw [← hu]; exact hf
  · exact h j u (by omega) hu
theorem part_next {t : Tup} {m : Nat} (h : ∀ j, j < m → (t.part j).size ≤ 200) (hm : ((t.part m).size : Int) ≤ 200) : ∀ j, j < m + 1 → (t.part j).size ≤ 200 := by
  intro j hj
  by_cases e : j = m
  · subst e; omega
  · exact h j (by omega)
set_option maxHeartbeats 1000000 in
theorem few_calls (ts : List Tup) (g : Nat) (w : World) (hn : ts.length ≤ 2) (hg : g < w.heap.size)
    (hc : ∀ k t, ts[k]? = some t → w.cell? ⟨g, k * 6, none⟩ = some (.string t.a) ∧ w.cell? ⟨g, k * 6 + 1, none⟩ = some (.string t.b) ∧ w.cell? ⟨g, k * 6 + 2, none⟩ = some (.string t.c) ∧ w.cell? ⟨g, k * 6 + 3, none⟩ = some (.string t.d) ∧ w.cell? ⟨g, k * 6 + 4, none⟩ = some (.string t.e) ∧ w.cell? ⟨g, k * 6 + 5, none⟩ = some (.string t.f))
    (hf : ∀ t ∈ ts, t.fits) :
    Calls Tryd.prog 19 #[.slice (some ⟨g, 0, none⟩) ts.length ts.length] w fun e w' => e = .returned (.bool (ts.all Tup.few)) ∧ Below w.heap.size w w' := by
  generalize hlen : ts.length = n at hn
  have hlen' := Lib.hid hlen
  clear hlen
  have hc' := Lib.hid hc
  clear hc
  go_enter Tryd.func19, Tryd.ntmps19
  go_wp2
  go_loopw [9] (fun i wr => ∃ k : Nat, k ≤ n ∧ i = .int .i64 k ∧ (∀ j t, j < k → ts[j]? = some t → t.few = true) ∧ Below w.heap.size w wr) (fun i _ => n - (intOf i).toNat)
  case atStart => exact ⟨0, Nat.zero_le _, rfl, fun j t hj => absurd hj (by omega), Below.refl _ _⟩
  case round =>
    obtain ⟨k, hk, rfl, hall, hB⟩ := hrel
    have hall' := Lib.hid hall
    clear hall
    by_cases hlt : k < n
    · obtain ⟨t, ht⟩ : ∃ t, ts[k]? = some t := ⟨_, List.getElem?_eq_getElem (by have := hlen'.out; omega)⟩
      obtain ⟨q0, q1, q2, q3, q4, q5⟩ := hc'.out k t ht
      rw [← hB.cell (p := ⟨g, _, none⟩) hg] at q0 q1 q2 q3 q4 q5
      have ht' := Lib.hid ht
      have hft := hf t (List.mem_of_getElem? ht)
      clear ht
      go_wp2_with fail
      refine (parts_calls t _).mono ?_; rintro e w1 ⟨rfl, rfl⟩
      go_wp2_with fail
      go_loop [16] (fun i => ∃ m : Nat, m ≤ 6 ∧ i = .int .i64 m ∧ ∀ j, j < m → (t.part j).size ≤ 200) (fun i => 6 - (intOf i).toNat)
      case atStart => exact ⟨0, by omega, rfl, fun j hj => absurd hj (by omega)⟩
      case round =>
        obtain ⟨m, hm, rfl, hsm⟩ := hrel
        have hsm' := Lib.hid hsm
        clear hsm
        by_cases hmt : m < 6
        · have qm := cells_part t m hmt
          have hsz := hft _ (t.part_mem m hmt)
          unfold maxLen at hsz
          go_wp2
          all_goals first
            | (go_round
               case rel => exact ⟨m + 1, by omega, by go_num, part_next hsm'.out (by assumption)⟩
               case measure => simp [intOf]; omega)
            | (go_ret
               exact ⟨ret_bool (few_not ht'.out (few_no hmt (by assumption))).symm, ((hB.alloc (hB.size) _).alloc (by simp; have := hB.size; omega) _).alloc (by simp; have := hB.size; omega) _⟩)
        · go_wp2
          have hz := hB.size
          go_roundw
          case rel => exact ⟨k + 1, by omega, by go_num, few_next hall'.out ht'.out (few_yes fun j hj => hsm'.out j (by omega)), ((hB.alloc hz _).alloc (by simp; omega) _).alloc (by simp; omega) _⟩
          case measure => simp [intOf]; omega
    · have ha := few_all hlen'.out fun j t hj => hall'.out j t (by omega)
      have ha' := Lib.hid ha
      clear ha
      go_wp2
      go_ret
      exact ⟨ret_bool ha'.out.symm, hB⟩
theorem few_one (t : Tup) (w : World) (hf : t.fits) :
    Calls Tryd.prog 19 #[.slice (some ⟨w.heap.size, 0, none⟩) 1 1] (w.alloc (.cells #[.string t.a, .string t.b, .string t.c, .string t.d, .string t.e, .string t.f] 28)) fun e w' => e = .returned (.bool t.few) ∧ Below (w.heap.size + 1) (w.alloc (.cells #[.string t.a, .string t.b, .string t.c, .string t.d, .string t.e, .string t.f] 28)) w' := by
  have hB := Blk.new w 28 #[.string t.a, .string t.b, .string t.c, .string t.d, .string t.e, .string t.f]
  refine (few_calls [t] w.heap.size _ (by simp) (by simp) (fun k u hu => ?_) (by simpa using hf)).mono ?_
  · rcases k with _ | k
    · simp at hu; subst hu
      refine ⟨?_, ?_, ?_, ?_, ?_, ?_⟩ <;> (rw [hB.cell]; rfl)
    · simp at hu
  · rintro e w' ⟨rfl, hb⟩
    exact ⟨by simp, by simpa using hb⟩
theorem parts_below (t : Tup) (w : World) :
    Calls Tryd.prog 42 #[t.v] w fun e w' => ∃ g, e = .returned (.slice (some ⟨g, 0, none⟩) 6 6) ∧ Blk w' g 9 t.cells ∧ w.heap.size ≤ g ∧ Below w.heap.size w w' :=
  (parts_calls t w).mono fun e w' ⟨he, hw⟩ => by
    refine ⟨w.heap.size + 1, he, ?_, by omega, ?_⟩
    · rw [← hw]
      have h := Blk.new (w.alloc (.cells t.cells 28)) 9 t.cells
      simp only [World.size_alloc] at h
      exact h
    · rw [← hw]; exact ((Below.refl _ _).alloc (Nat.le_refl _) _).alloc (by simp) _
theorem few_two (t u : Tup) (w : World) (ht : t.fits) (hu : u.fits) :
    Calls Tryd.prog 19 #[.slice (some ⟨w.heap.size, 0, none⟩) 2 2] (w.alloc (.cells #[.string t.a, .string t.b, .string t.c, .string t.d, .string t.e, .string t.f, .string u.a, .string u.b, .string u.c, .string u.d, .string u.e, .string u.f] 28)) fun e w' => e = .returned (.bool (t.few && u.few)) ∧ Below (w.heap.size + 1) (w.alloc (.cells #[.string t.a, .string t.b, .string t.c, .string t.d, .string t.e, .string t.f, .string u.a, .string u.b, .string u.c, .string u.d, .string u.e, .string u.f] 28)) w' := by
  have hB := Blk.new w 28 #[.string t.a, .string t.b, .string t.c, .string t.d, .string t.e, .string t.f, .string u.a, .string u.b, .string u.c, .string u.d, .string u.e, .string u.f]
  refine (few_calls [t, u] w.heap.size _ (by simp) (by simp) (fun k x hx => ?_) (by intro x hx; simp at hx; rcases hx with rfl | rfl <;> assumption)).mono ?_
  · rcases k with _ | _ | k
    · simp at hx; subst hx
      refine ⟨?_, ?_, ?_, ?_, ?_, ?_⟩ <;> (rw [hB.cell]; rfl)
    · simp at hx; subst hx
      refine ⟨?_, ?_, ?_, ?_, ?_, ?_⟩ <;> (rw [hB.cell]; rfl)
    · simp at hx
  · rintro e w' ⟨rfl, hb⟩
    exact ⟨by simp, by simpa using hb⟩
end Go.Proofs.YtnbalmnpcdnidaaDoor
