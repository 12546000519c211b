/- Walks: slices.SortedFunc over tuples. -/
import Derived.Test.YtaikedlkkjnffaaGreatDoorUV2
import Derived.Test.YtaikedlkkjnffaaGreatDoorUC1
import Derived.Test.YtaikedlkkjnffaaGreatDoorSort
import Derived.Shelf.SlSortCmp.NoneTotal
namespace Go.Proofs.YtaikedlkkjnffaaGreatDoor
open Go.RowKit Go.Shelf Go.Sort
theorem encL_at (t : Tup) (j : Nat) (h : j < 6) : some (encL t)[j]! = t.cells[j]? := by
  rcases j with _ | _ | _ | _ | _ | _ | j <;> first | omega | rfl
theorem flat_list (ts : List Tup) : (flatK encL 6 ts.toArray).toList = tcells ts := by
  apply List.ext_getElem?
  intro i
  rcases Nat.lt_or_ge i (ts.length * 6) with h | h
  · have hk : i / 6 < ts.length := by omega
    have h1 := tcells_at ts (i / 6) (i % 6) ts[i / 6] (List.getElem?_eq_getElem hk) (by omega)
    rw [show i / 6 * 6 + i % 6 = i by omega] at h1
    rw [h1, ← encL_at _ _ (by omega), Array.getElem?_toList]
    have h2 := get_flatK encL 6 ts.toArray i (by simpa using h)
    rw [getElem!_pos _ i (by simpa using h)] at h2
    rw [Array.getElem?_eq_getElem (by simpa using h), h2]
    rw [getElem!_pos ts.toArray (i / 6) (by simpa using hk)]
    simp
  · rw [List.getElem?_eq_none (by simpa using h), List.getElem?_eq_none (by rw [tcells_len]; exact h)]
theorem TOwn.holdsK {B : Nat} {w : World} {g n c : Nat} {ts : List Tup} (h : TOwn B w (.slice (some ⟨g, 0, none⟩) n c) ts) : HoldsK encL 6 w g 0 ts.toArray := by
  obtain ⟨cur, hb, _, _, _, _, ht⟩ := h.blk
  intro j hj
  rw [size_flatK] at hj
  have hj' : j < ts.length * 6 := by simpa using hj
  refine ⟨?_, hb.frozen _⟩
  rw [hb.cell, Nat.zero_add]
  have h1 : (flatK encL 6 ts.toArray).toList[j]? = cur[j]? := by
    rw [flat_list, ← ht, List.getElem?_take, if_pos hj']
    simp
  rw [← h1, Array.getElem?_toList, Array.getElem?_eq_getElem (by simpa using hj'), getElem!_pos _ j (by simpa using hj')]
  rfl
theorem TOwn.sorted {B : Nat} {w : World} {g c m : Nat} {ts : List Tup} {d : Array Tup} {os : Array Obj} (h : TOwn B w (.slice (some ⟨g, 0, none⟩) ts.length c) ts) (hd : d.size = ts.length) :
    TOwn B (sortWorldK encL 6 w g 0 m d os) (.slice (some ⟨g, 0, none⟩) ts.length c) d.toList ∧ Keeps (fun j => j = g) w (sortWorldK encL 6 w g 0 m d os) := by
  obtain ⟨cur, hb, h1, h2, h3, h4, h5⟩ := h.blk
  have hlt := hb.lt
  have hH : (sortWorldK encL 6 w g 0 m d os).heap = (w.heap.modify g (onCells (putCells id 0 (flatK encL 6 d)))) ++ os := rfl
  have hlen : d.toList.length = ts.length := by simpa using hd
  constructor
  · unfold TOwn
    rw [hlen]
    refine ⟨by rw [tcells_len, hlen], .inr ⟨g, c, putCells id 0 (flatK encL 6 d) cur, rfl, h1, ?_, h2, h3, ?_, ?_⟩⟩
    · rw [hH, Array.getElem?_append_left (by simpa using hlt), Array.getElem?_modify, if_pos rfl]
      unfold Blk at hb
      rw [hb]
      rfl
    · rw [← h4]; simp [putCells]
    · apply List.ext_getElem?
      intro i
      rw [List.getElem?_take]
      rcases Nat.lt_or_ge i (ts.length * 6) with hi | hi
      · rw [if_pos hi, ← show (flatK encL 6 d).toList = tcells d.toList from flat_list d.toList]
        rw [Array.getElem?_toList, Array.getElem?_toList]
        have hi2 : i < (flatK encL 6 d).size := by rw [size_flatK, hd]; exact hi
        have hi3 : i < cur.size := by rw [h4]; exact Nat.lt_of_lt_of_le hi (Nat.mul_le_mul_right 6 h2)
        rw [Array.getElem?_eq_getElem hi2]
        simp only [putCells, Array.getElem?_mapIdx, Array.getElem?_eq_getElem hi3, Option.map_some]
        rw [if_pos ⟨Nat.zero_le _, by omega⟩, Nat.sub_zero, getElem!_pos _ i hi2]
        rfl
      · rw [if_neg (by omega), List.getElem?_eq_none (by rw [tcells_len, hlen]; exact hi)]
  · refine ⟨rfl, rfl, rfl, by rw [hH]; simp, fun k hk hs => ?_⟩
    rw [hH, Array.getElem?_append_left (by simpa using hk), Array.getElem?_modify, if_neg (fun e => hs e.symm)]
/-- what a sort leaves -/
def SortedOf (ts s : List Tup) : Prop := s.Perm ts ∧ s.Pairwise fun a b => ¬ cmpT b a < 0
theorem sortedIn_pairwise {d : Array Tup} (h : SortedIn (ltOf cmpT) 0 d.size d) : d.toList.Pairwise fun a b => ¬ cmpT b a < 0 := by
  rw [List.pairwise_iff_getElem]
  intro i j hi hj hij
  have := h i j (Nat.zero_le _) hij (by simpa using hj)
  rw [ltT, decide_eq_false_iff_not] at this
  rw [getElem!_pos d i (by simpa using hi), getElem!_pos d j (by simpa using hj)] at this
  simpa using this
theorem permIn_perm {d d' : Array Tup} (h : PermIn 0 d.size d d') : d'.toList.Perm d.toList := by
  obtain ⟨h1, _, h3⟩ := h
  rw [← h1] at h3
  have : d'.extract 0 d'.size = d' := by simp
  rw [this, h1] at h3
  have e : d.extract 0 d.size = d := by simp
  rwa [e] at h3
theorem sortFunc_calls {B : Nat} {w : World} {p : Option Addr} {c : Nat} {ts : List Tup} (h : TOwn B w (.slice p ts.length c) ts) (hn : ts.length ≤ 1000000) :
    Calls Tryz.prog 45 #[.slice p ts.length c, .func (.func 26) #[] #[]] w fun e w' => e = .returned (.tuple #[]) ∧ ∃ s, SortedOf ts s ∧ TOwn B w' (.slice p ts.length c) s ∧ Keeps (fun j => (Value.slice p ts.length c).ownBlock = some j) w w' := by
  cases ts with
  | nil =>
    have := AnyF.slices_SortFunc_none { Tryz.sortTup with } p c (.func (.func 26) #[] #[]) w
    exact this.mono fun e w' ⟨he, hw⟩ => ⟨he, [], ⟨List.Perm.refl _, List.Pairwise.nil⟩, by rw [hw]; exact h, by rw [hw]; exact Keeps.refl _ _⟩
  | cons t ts' =>
    obtain ⟨g, c', e, _, _, hlt, _⟩ := h.cells (by simp)
    obtain ⟨rfl, rfl⟩ : p = some ⟨g, 0, none⟩ ∧ c = c' := by injection e with e1 _ e3; exact ⟨e1, e3⟩
    have eg : ∀ args w, (callFunc 26 args).run Tryz.prog w = .ok (.enter 26 args) w := enters_of Tryz.func26 (by kernel_rfl) rfl
    have hlt9 : (t :: ts').toArray.size < 4611686018427387904 := Nat.lt_of_le_of_lt (Nat.le_trans (Nat.le_of_eq (by simp)) hn) (by decide)
    have hcon := AnyQ.slices_SortFunc Tryz.sortTup 6 Tryz.isAgg60 Tryz.sizeOf60 encL (fun _ => rfl) (fun x v hv => by simp [encL, Tup.cells] at hv; rcases hv with rfl | rfl | rfl | rfl | rfl | rfl <;> rfl) cmpT swoT 26 #[] g 0 c (t :: ts').toArray w eg (cmp_lays g 0 _ w) h.holdsK hlt hlt9
    change Calls Tryz.prog 45 _ _ _ at hcon
    have hsz : (t :: ts').toArray.size = (t :: ts').length := by simp
    rw [hsz] at hcon
    refine hcon.mono fun e w' ⟨he, d', m, os, hp, hs, hw⟩ => ⟨he, d'.toList, ?_, ?_⟩
    · rw [← hsz] at hp hs
      refine ⟨permIn_perm hp, ?_⟩
      rw [← hp.1] at hs
      exact sortedIn_pairwise hs
    · have hd : d'.size = (t :: ts').length := by rw [← hsz] at hp; rw [hp.1, hsz]
      obtain ⟨h1, h2⟩ := h.sorted (m := m) (os := os) hd
      rw [hw]
      exact ⟨h1, h2.mono fun j _ e => by rw [e]; rfl⟩
end Go.Proofs.YtaikedlkkjnffaaGreatDoor
