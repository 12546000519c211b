/- Tuples in a row that a walk owns. -/
import Derived.Test.YtaikedlkkjnffaaGreatDoorW2
import Derived.Test.YtaikedlkkjnffaaGreatDoorRow
namespace Go.Proofs.YtaikedlkkjnffaaGreatDoor
open Go.RowKit
/-- the cells of tuples, one behind the other -/
def tcells (l : List Tup) : List Value := l.flatMap fun t => t.cells.toList
theorem cells6 (t : Tup) : t.cells.toList.length = 6 := rfl
theorem tcells_len : ∀ l : List Tup, (tcells l).length = l.length * 6
  | [] => rfl
  | t :: l => by
    show (t.cells.toList ++ tcells l).length = _
    rw [List.length_append, tcells_len l, cells6, List.length_cons]; omega
theorem tcells_app (a b : List Tup) : tcells (a ++ b) = tcells a ++ tcells b := by unfold tcells; rw [List.flatMap_append]
theorem tcells_one (t : Tup) : tcells [t] = t.cells.toList := by simp [tcells]
theorem tcells_at : ∀ (l : List Tup) (k j : Nat) (t : Tup), l[k]? = some t → j < 6 → (tcells l)[k * 6 + j]? = t.cells[j]?
  | [], _, _, _, h, _ => by cases h
  | u :: l, 0, j, t, h, hj => by
    obtain rfl : u = t := by simpa using h
    show (u.cells.toList ++ tcells l)[_]? = _
    rw [List.getElem?_append_left (by rw [cells6]; omega)]
    simp
  | u :: l, k + 1, j, t, h, hj => by
    show (u.cells.toList ++ tcells l)[_]? = _
    rw [List.getElem?_append_right (by rw [cells6]; omega), cells6, show (k + 1) * 6 + j - 6 = k * 6 + j by omega]
    exact tcells_at l k j t (by simpa using h) hj
theorem tcells_one_cell (l : List Tup) : ∀ u ∈ tcells l, u.oneCell' = true := by
  intro u hu
  obtain ⟨t, _, ht⟩ := List.mem_flatMap.1 hu
  simp [Tup.cells] at ht
  rcases ht with rfl | rfl | rfl | rfl | rfl | rfl <;> rfl
def zeroT : Array Value := #[.string ⟨#[]⟩, .string ⟨#[]⟩, .string ⟨#[]⟩, .string ⟨#[]⟩, .string ⟨#[]⟩, .string ⟨#[]⟩]
theorem info_tup : (Tryz.prog.info? 60).map (fun i => (i.zero, i.size, i.bytes)) = some (some (.agg zeroT), 6, 96) := by kernel_rfl
theorem info_partsT {P : Program} {t : TypeId} {z : Value} {n b : Nat} (h : (P.info? t).map (fun i => (i.zero, i.size, i.bytes)) = some (some z, n, b)) : ∃ i, P.info? t = some i ∧ i.zero = some z ∧ i.size = n ∧ i.bytes = b := by
  cases hi : P.info? t with
  | none => rw [hi] at h; cases h
  | some i =>
    rw [hi] at h
    have := Option.some.inj h
    exact ⟨i, rfl, congrArg (·.1) this, congrArg (·.2.1) this, congrArg (·.2.2) this⟩
/-- tuples in a row of the walk's own, no block below B -/
def TOwn (B : Nat) (w : World) (v : Value) (l : List Tup) : Prop := w.ownsRow B 60 6 v l.length (tcells l)
section
variable {B : Nat} {w w' : World} {v : Value} {l : List Tup}
theorem TOwn.nil (B : Nat) (w : World) : TOwn B w (.slice none 0 0) [] := World.ownsRow_nil _ _ _ _
theorem TOwn.keeps {S : Nat → Prop} (h : TOwn B w v l) (hk : Keeps S w w') (hs : ∀ g, v.ownBlock = some g → ¬ S g) : TOwn B w' v l := own_keeps h hk hs
theorem TOwn.later (h : TOwn B w v l) (hb : Below w.heap.size w w') : TOwn B w' v l := h.keeps (S := fun _ => False) (.of_below hb) (fun _ _ => id)
theorem TOwn.lt (h : TOwn B w v l) : ∀ g, v.ownBlock = some g → B ≤ g ∧ g < w.heap.size := fun g hg => World.ownsRow.lt h g hg
theorem TOwn.slice (h : TOwn B w v l) : ∃ p c, v = .slice p l.length c := own_slice h
theorem TOwn.cells (h : TOwn B w v l) (hn : 0 < l.length) : ∃ g c, v = .slice (some ⟨g, 0, none⟩) l.length c ∧ l.length ≤ c ∧ B ≤ g ∧ g < w.heap.size ∧ ∀ (k j : Nat) (t : Tup), l[k]? = some t → j < 6 → w.cell? ⟨g, k * 6 + j, none⟩ = t.cells[j]? := by
  obtain ⟨g, c, e, hc, hg, hcell⟩ := (RowAt.of_own h).cell hn
  refine ⟨g, c, e, hc, (h.lt g (by rw [e]; rfl)).1, hg, fun k j t ht hj => ?_⟩
  have h2 := tcells_at l k j t ht hj
  cases hu : t.cells[j]? with
  | none => rw [Array.getElem?_eq_none_iff] at hu; simp [Tup.cells] at hu; omega
  | some u => exact hcell _ u (h2.trans hu)
theorem TOwn.blk_ne {g : Nat} {T : TypeId} {cs : Array Value} (h : TOwn B w v l) (hg : Blk w g T cs) (hne : 60 ≠ T) : v.ownBlock ≠ some g := own_blk_ne h hg hne
theorem TOwn.app {t : Tup} {g : Nat} (h : TOwn B w v l) (hB : B ≤ w.heap.size) (hg : Blk w g 60 t.cells) (hn : l.length ≤ 1000000) :
    ∃ p c w', (dappOp #[22, 22] 22 #[v, .slice (some ⟨g, 0, none⟩) 1 1]).run Tryz.prog w = .ok (.slice p (l.length + 1) c) w' ∧ TOwn B w' (.slice p (l.length + 1) c) (l ++ [t]) ∧ Keeps (fun j => v.ownBlock = some j) w w' := by
  obtain ⟨i0, hi, hz0, hz1, hz2⟩ := info_partsT info_tup
  obtain ⟨v', w', h2, h3, h4, _, h5⟩ := run_append_own_at (P := Tryz.prog) w B 22 22 60 i0 (.agg zeroT) 6 96 Tryz.underlying22 hi hz0 hz1 hz2 rfl (by decide) v l.length _ h ⟨g, 0, none⟩ 1 1 (tcells [t]) (tcells_len [t]) (by
    intro j u hj
    rw [addr_at, hg.cell j]
    rw [tcells_one] at hj
    simpa using hj) (tcells_one_cell _) (by unfold maxLen; omega) (by omega) hB
  obtain ⟨p, c, rfl⟩ := own_slice h3
  refine ⟨p, c, w', h2, ?_, (Keeps.refl _ w).grown h4 fun k e => .inl e⟩
  rw [← tcells_app] at h3
  unfold TOwn
  rw [List.length_append]
  exact h3
end
theorem TOwn.blk {B : Nat} {w : World} {g n c : Nat} {ts : List Tup} (h : TOwn B w (.slice (some ⟨g, 0, none⟩) n c) ts) : ∃ cur, Blk w g 60 cur ∧ B ≤ g ∧ ts.length ≤ c ∧ c ≤ maxLen ∧ cur.size = c * 6 ∧ cur.toList.take (ts.length * 6) = tcells ts := by
  obtain ⟨_, ⟨h, _⟩ | ⟨g', cap, cur, h, h1, h2, h3, h4, h5, h6⟩⟩ := h
  · cases h
  · injection h with e1 e2 e3
    injection e1 with e1
    injection e1 with e1
    subst e1 e3
    exact ⟨cur, h2, h1, h3, h4, h5, h6⟩
end Go.Proofs.YtaikedlkkjnffaaGreatDoor
