/- Rows of any elements, and what a sort leaves of them. No program in sight. -/
import Derived.Test.YtaikedlkkjnffaaGreatDoorRK
import Derived.Shelf.SlSortCmp.WholeK
namespace Go.Proofs.YtaikedlkkjnffaaGreatDoor
open Go.RowKit Go.Sort
section
variable {α : Type} {P : Program} {r : RowK α} {B : Nat} {w : World}
theorem RowK.Ok.en_at (ok : r.Ok P) (t : α) (j : Nat) (h : j < r.K) : some (r.en t)[j]! = (r.en t)[j]? := by
  rw [getElem!_pos _ j (by rw [ok.len]; exact h), List.getElem?_eq_getElem (by rw [ok.len]; exact h)]
theorem RowK.Own.blk {g n c : Nat} {ts : List α} (h : r.Own B w (.slice (some ⟨g, 0, none⟩) n c) ts) : ∃ cur, Blk w g r.e cur ∧ B ≤ g ∧ ts.length ≤ c ∧ c ≤ maxLen ∧ cur.size = c * r.K ∧ cur.toList.take (ts.length * r.K) = r.cells ts := by
  obtain ⟨_, ⟨h, _⟩ | ⟨g', cap, cur, h, h1, h2, h3, h4, h5, h6⟩⟩ := h
  · cases h
  · injection h with e1 e2 e3
    injection e1 with e1
    injection e1 with e1
    subst e1 e3
    exact ⟨cur, h2, h1, h3, h4, h5, h6⟩
end
section
variable {α : Type} [Inhabited α] {P : Program} {r : RowK α} {B : Nat} {w : World}
theorem RowK.Ok.flat (ok : r.Ok P) (ts : List α) : (flatK r.en r.K ts.toArray).toList = r.cells ts := by
  have hK := ok.pos
  apply List.ext_getElem?
  intro i
  rcases Nat.lt_or_ge i (ts.length * r.K) with h | h
  · have hk : i / r.K < ts.length := Nat.div_lt_of_lt_mul (by rw [Nat.mul_comm]; exact h)
    have hd : i / r.K * r.K + i % r.K = i := by rw [Nat.mul_comm]; exact Nat.div_add_mod i r.K
    have h1 := ok.cells_at ts (i / r.K) (i % r.K) ts[i / r.K] (List.getElem?_eq_getElem hk) (Nat.mod_lt _ hK)
    rw [hd] at h1
    rw [h1, ← ok.en_at _ _ (Nat.mod_lt _ hK), Array.getElem?_toList]
    have h2 := get_flatK r.en r.K ts.toArray i (by simpa using h)
    rw [getElem!_pos _ i (by simpa using h)] at h2
    rw [Array.getElem?_eq_getElem (by simpa using h), h2]
    rw [getElem!_pos ts.toArray (i / r.K) (by simpa using hk)]
    simp
  · rw [List.getElem?_eq_none (by simpa using h), List.getElem?_eq_none (by rw [ok.cells_len]; exact h)]
theorem RowK.Own.holdsK (ok : r.Ok P) {g n c : Nat} {ts : List α} (h : r.Own B w (.slice (some ⟨g, 0, none⟩) n c) ts) : HoldsK r.en r.K w g 0 ts.toArray := by
  obtain ⟨cur, hb, _, _, _, _, ht⟩ := h.blk
  intro j hj
  rw [size_flatK] at hj
  have hj' : j < ts.length * r.K := by simpa using hj
  refine ⟨?_, hb.frozen _⟩
  rw [hb.cell, Nat.zero_add]
  have h1 : (flatK r.en r.K ts.toArray).toList[j]? = cur[j]? := by
    rw [ok.flat, ← ht, List.getElem?_take, if_pos hj']
    simp
  rw [← h1, Array.getElem?_toList, Array.getElem?_eq_getElem (by simpa using hj'), getElem!_pos _ j (by simpa using hj')]
  rfl
theorem RowK.Own.sorted (ok : r.Ok P) {g c m : Nat} {ts : List α} {d : Array α} {os : Array Obj} (h : r.Own B w (.slice (some ⟨g, 0, none⟩) ts.length c) ts) (hd : d.size = ts.length) :
    r.Own B (sortWorldK r.en r.K w g 0 m d os) (.slice (some ⟨g, 0, none⟩) ts.length c) d.toList ∧ Keeps (fun j => j = g) w (sortWorldK r.en r.K w g 0 m d os) := by
  obtain ⟨cur, hb, h1, h2, h3, h4, h5⟩ := h.blk
  have hlt := hb.lt
  have hH : (sortWorldK r.en r.K w g 0 m d os).heap = (w.heap.modify g (onCells (putCells id 0 (flatK r.en r.K d)))) ++ os := rfl
  have hlen : d.toList.length = ts.length := by simpa using hd
  constructor
  · unfold RowK.Own
    rw [hlen]
    refine ⟨by rw [ok.cells_len, hlen], .inr ⟨g, c, putCells id 0 (flatK r.en r.K d) cur, rfl, h1, ?_, h2, h3, ?_, ?_⟩⟩
    · rw [hH, Array.getElem?_append_left (by simpa using hlt), Array.getElem?_modify, if_pos rfl]
      unfold Blk at hb
      rw [hb]
      rfl
    · rw [← h4]; simp [putCells]
    · apply List.ext_getElem?
      intro i
      rw [List.getElem?_take]
      rcases Nat.lt_or_ge i (ts.length * r.K) with hi | hi
      · rw [if_pos hi, ← show (flatK r.en r.K d).toList = r.cells d.toList from ok.flat d.toList]
        rw [Array.getElem?_toList, Array.getElem?_toList]
        have hi2 : i < (flatK r.en r.K d).size := by rw [size_flatK, hd]; exact hi
        have hi3 : i < cur.size := by rw [h4]; exact Nat.lt_of_lt_of_le hi (Nat.mul_le_mul_right r.K h2)
        rw [Array.getElem?_eq_getElem hi2]
        simp only [putCells, Array.getElem?_mapIdx, Array.getElem?_eq_getElem hi3, Option.map_some]
        rw [if_pos ⟨Nat.zero_le _, by omega⟩, Nat.sub_zero, getElem!_pos _ i hi2]
        rfl
      · rw [if_neg (by omega), List.getElem?_eq_none (by rw [ok.cells_len, hlen]; exact hi)]
  · refine ⟨rfl, rfl, rfl, by rw [hH]; simp, fun k hk hs => ?_⟩
    rw [hH, Array.getElem?_append_left (by simpa using hk), Array.getElem?_modify, if_neg (fun e => hs e.symm)]
theorem sortedIn_pairwiseG {c : α → α → Int} (hlt : ∀ x y, ltOf c x y = decide (c x y < 0)) {d : Array α} (h : SortedIn (ltOf c) 0 d.size d) : d.toList.Pairwise fun a b => ¬ c b a < 0 := by
  rw [List.pairwise_iff_getElem]
  intro i j hi hj hij
  have := h i j (Nat.zero_le _) hij (by simpa using hj)
  rw [hlt, decide_eq_false_iff_not] at this
  rw [getElem!_pos d i (by simpa using hi), getElem!_pos d j (by simpa using hj)] at this
  simpa using this
theorem permIn_permG {d d' : Array α} (h : PermIn 0 d.size d d') : d'.toList.Perm d.toList := by
  obtain ⟨h1, _, h3⟩ := h
  rw [← h1] at h3
  have : d'.extract 0 d'.size = d' := by simp
  rw [this, h1] at h3
  have e : d.extract 0 d.size = d := by simp
  rwa [e] at h3
end
end Go.Proofs.YtaikedlkkjnffaaGreatDoor
