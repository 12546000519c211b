/- Texts in a row that a walk owns. -/
import Derived.Test.YtkmdlpkdoplpdaaDoorUR1
namespace Go.Proofs.YtkmdlpkdoplpdaaDoor
open Go.RowKit
def scells (l : List ByteArray) : List Value := l.map Value.string
theorem info_str : (Tryd.prog.info? 9).map (fun i => (i.zero, i.size, i.bytes)) = some (some (.string ⟨#[]⟩), 1, 16) := by kernel_rfl
/-- texts in a row of the walk's own, no block below B -/
def SOwn (B : Nat) (w : World) (v : Value) (l : List ByteArray) : Prop := w.ownsRow B 9 1 v l.length (scells l)
section
variable {B : Nat} {w w' : World} {v : Value} {l : List ByteArray}
theorem SOwn.keeps {S : Nat → Prop} (h : SOwn B w v l) (hk : Keeps S w w') (hs : ∀ g, v.ownBlock = some g → ¬ S g) : SOwn B w' v l := own_keeps h hk hs
theorem SOwn.later (h : SOwn B w v l) (hb : Below w.heap.size w w') : SOwn B w' v l := h.keeps (S := fun _ => False) (.of_below hb) (fun _ _ => id)
theorem SOwn.lt (h : SOwn B w v l) : ∀ g, v.ownBlock = some g → B ≤ g ∧ g < w.heap.size := fun g hg => World.ownsRow.lt h g hg
theorem SOwn.slice (h : SOwn B w v l) : ∃ p c, v = .slice p l.length c := own_slice h
theorem SOwn.one (w : World) (x : ByteArray) : SOwn w.heap.size (w.alloc (.cells #[.string x] 9)) (.slice (some ⟨w.heap.size, 0, none⟩) 1 1) [x] :=
  World.ownsRow_lit (base := w.heap.size) (e := 9) (size := 1) w #[.string x] 1 (Nat.le_refl _) (by unfold maxLen; omega) rfl
theorem SOwn.cells (h : SOwn B w v l) (hn : 0 < l.length) : ∃ g c, v = .slice (some ⟨g, 0, none⟩) l.length c ∧ l.length ≤ c ∧ B ≤ g ∧ g < w.heap.size ∧ ∀ (k : Nat) (x : ByteArray), l[k]? = some x → w.cell? ⟨g, 0 + k, none⟩ = some (.string x) := by
  obtain ⟨g, c, e, hc, hg, hcell⟩ := (RowAt.of_own h).cell hn
  refine ⟨g, c, e, hc, (h.lt g (by rw [e]; rfl)).1, hg, fun k x hx => ?_⟩
  rw [Nat.zero_add]
  exact hcell k _ (by unfold scells; rw [List.getElem?_map, hx]; rfl)
theorem SOwn.app {ys : List ByteArray} {g : Nat} (h : SOwn B w v l) (hB : B ≤ w.heap.size) (hg : Blk w g 9 (scells ys).toArray) (hn : l.length + ys.length ≤ 1000000) :
    ∃ p c w', (dappOp #[38, 38] 38 #[v, .slice (some ⟨g, 0, none⟩) ys.length ys.length]).run Tryd.prog w = .ok (.slice p (l.length + ys.length) c) w' ∧ SOwn B w' (.slice p (l.length + ys.length) c) (l ++ ys) ∧ Keeps (fun j => v.ownBlock = some j) w w' := by
  obtain ⟨i0, hi, hz0, hz1, hz2⟩ := info_partsT info_str
  obtain ⟨v', w', h2, h3, h4, _, h5⟩ := run_append_own_at (P := Tryd.prog) w B 38 38 9 i0 (.string ⟨#[]⟩) 1 16 Tryd.underlying38 hi hz0 hz1 hz2 rfl (by decide) v l.length _ h ⟨g, 0, none⟩ ys.length ys.length (scells ys) (by simp [scells]) (by
    intro j u hj
    rw [addr_at, hg.cell j]
    simpa using hj) (by intro u hu; obtain ⟨x, _, rfl⟩ := List.mem_map.1 hu; rfl) (by unfold maxLen; omega) (by omega) hB
  obtain ⟨p, c, rfl⟩ := own_slice h3
  refine ⟨p, c, w', h2, ?_, (Keeps.refl _ w).grown h4 fun k e => .inl e⟩
  unfold SOwn
  rw [List.length_append]
  have e : scells l ++ scells ys = scells (l ++ ys) := by simp [scells]
  rw [← e]
  exact h3
end
end Go.Proofs.YtkmdlpkdoplpdaaDoor
