/- Walks: what an edit is read into; the closures of Decode. Rows of any elements, and what a sort leaves of them. No program in sight. Walks: the program's order of tables; what a sort asks of it. Maps of a call's own, told by a function of their keys' values. No program in sight. Walks: which numbers are written; a version in memory. -/
import Derived.Test.YtabcdodjkfknlaaGreatDoorPL08
import Derived.Test.YtabcdodjkfknlaaGreatDoorPL07
import Derived.Shelf.SlSortCmp.WholeK
import Derived.Test.YtabcdodjkfknlaaGreatDoorPL01
import Derived.Maps.OwnSet
import Derived.Maps.Views
import Derived.WideKeyEntry
import Derived.Maps.Range
namespace Go.Proofs.YtabcdodjkfknlaaGreatDoor
open Go.RowKit
attribute [local go_sem ↓] dapp_op dslK_op
attribute [local go_sem] Oper.semAt_some
def Tbl.cells (t : Tbl) : List Value := [.int .i64 t.num, .int .i64 t.level, .int .i64 t.size, .string t.first, .string t.last]
def rkT : RowK Tbl := ⟨27, 76, 5, Tbl.cells⟩
theorem rkT_ok : rkT.Ok Tryz.prog where
  hs := Tryz.underlying27
  info := info_partsK (show (Tryz.prog.info? 76).map (fun i => (i.zero, i.size, i.bytes)) = some (some (.agg #[.int .i64 0, .int .i64 0, .int .i64 0, .string ⟨#[]⟩, .string ⟨#[]⟩]), 5, 56) by kernel_rfl) rfl (by decide)
  size := fun w => Tryz.sizeOf76 w
  pos := by decide
  len := fun _ => rfl
  one := fun a u hu => by simp [rkT, Tbl.cells] at hu; rcases hu with rfl | rfl | rfl | rfl | rfl <;> rfl
def rkI : RowK Int := ⟨31, 3, 1, fun n => [.int .i64 n]⟩
theorem rkI_ok : rkI.Ok Tryz.prog where
  hs := Tryz.underlying31
  info := info_partsK (show (Tryz.prog.info? 3).map (fun i => (i.zero, i.size, i.bytes)) = some (some (.int .i64 0), 1, 8) by kernel_rfl) rfl (by decide)
  size := fun w => Tryz.sizeOf3 w
  pos := by decide
  len := fun _ => rfl
  one := fun a u hu => by simp [rkI] at hu; rw [hu]; rfl
/-- the variables of Decode: the edit at E, the two readers' methods -/
structure DecAt (B : Nat) (w0 w : World) (R E SM TX Z : Nat) (av dv : Value) (e : Edt) : Prop where
  low : B ≤ R ∧ B ≤ E ∧ B ≤ SM ∧ B ≤ TX ∧ B ≤ w0.heap.size
  nz : Z ≠ E ∧ Z ≠ R
  ne : E ≠ R ∧ SM ≠ R ∧ TX ≠ R
  below : Below B w0 w
  blk : Blk w E 33 #[av, dv, .int .u64 e.floor, .int .u64 e.head, .int .i64 e.log, .int .i64 e.next]
  add : rkT.Own B w av e.add
  drop : rkI.Own B w dv e.drop
  sm : Blk w SM 145 #[.func (.func 103) #[.pointer (some ⟨R, 0, none⟩)] #[]]
  tx : Blk w TX 146 #[.func (.func 104) #[.pointer (some ⟨R, 0, none⟩)] #[]]
  z : Blk w Z 33 #[.slice none 0 0, .slice none 0 0, .int .u64 0, .int .u64 0, .int .i64 0, .int .i64 0]
section
variable {B : Nat} {w0 w w' : World} {R E SM TX Z : Nat} {av dv : Value} {e : Edt} {r : Rdr}
theorem RdAt.blk (h : RdAt B w R r) : ∃ cs, Blk w R 144 cs := by obtain ⟨_, bv, h1, _⟩ := h; exact ⟨_, h1⟩
theorem DecAt.size (h : DecAt B w0 w R E SM TX Z av dv e) : B ≤ w.heap.size := Nat.le_trans h.low.2.2.2.2 h.below.size
theorem DecAt.keeps {S : Nat → Prop} (h : DecAt B w0 w R E SM TX Z av dv e) (hk : Keeps S w w') (hS : ∀ j, S j → B ≤ j ∧ j ≠ E ∧ j ≠ SM ∧ j ≠ TX ∧ av.ownBlock ≠ some j ∧ dv.ownBlock ≠ some j ∧ j ≠ Z) : DecAt B w0 w' R E SM TX Z av dv e :=
  ⟨h.low, h.nz, h.ne, Keeps.below_step h.below h.size hk fun j e => (hS j e).1, h.blk.keeps hk fun e => (hS _ e).2.1 rfl, h.add.keeps hk fun g hg e => (hS g e).2.2.2.2.1 hg, h.drop.keeps hk fun g hg e => (hS g e).2.2.2.2.2.1 hg, h.sm.keeps hk fun e => (hS _ e).2.2.1 rfl, h.tx.keeps hk fun e => (hS _ e).2.2.2.1 rfl, h.z.keeps hk fun e => (hS _ e).2.2.2.2.2.2 rfl⟩
theorem DecAt.rd (h : DecAt B w0 w R E SM TX Z av dv e) (hk : RdKeeps R w w') (hR2 : ∃ cs, Blk w R 144 cs) : DecAt B w0 w' R E SM TX Z av dv e := by
  obtain ⟨cR, bR⟩ := hR2
  refine h.keeps hk fun j e => ?_
  subst e
  exact ⟨h.low.1, h.ne.1.symm, h.ne.2.1.symm, h.ne.2.2.symm, h.add.blk_ne bR (by decide), h.drop.blk_ne bR (by decide), h.nz.2.symm⟩
theorem DecAt.later (h : DecAt B w0 w R E SM TX Z av dv e) (hb : Below w.heap.size w w') : DecAt B w0 w' R E SM TX Z av dv e := h.keeps (S := fun _ => False) (.of_below hb) fun _ e => e.elim
theorem DecAt.sees (h : DecAt B w0 w R E SM TX Z av dv e) : w.cell? ⟨E, 0, none⟩ = some av ∧ w.cell? ⟨SM, 0, none⟩ = some (.func (.func 103) #[.pointer (some ⟨R, 0, none⟩)] #[]) ∧ w.cell? ⟨TX, 0, none⟩ = some (.func (.func 104) #[.pointer (some ⟨R, 0, none⟩)] #[]) :=
  ⟨by rw [h.blk.cell]; rfl, by rw [h.sm.cell]; rfl, by rw [h.tx.cell]; rfl⟩
theorem DecAt.seesI (h : DecAt B w0 w R E SM TX Z av dv e) : w.cell? ⟨E, 1, none⟩ = some dv ∧ w.cell? ⟨SM, 0, none⟩ = some (.func (.func 103) #[.pointer (some ⟨R, 0, none⟩)] #[]) :=
  ⟨by rw [h.blk.cell]; rfl, by rw [h.sm.cell]; rfl⟩
/-- a table put behind those of the edit -/
theorem DecAt.put (h : DecAt B w0 w R E SM TX Z av dv e) (hR : RdAt B w R r) (t : Tbl) (hl : e.add.length ≤ 1000000) :
    ∃ p c w1, (dappOp #[27, 27] 27 #[av, .slice (some ⟨w.heap.size, 0, none⟩) 1 1]).run Tryz.prog (w.alloc (.cells #[.int .i64 t.num, .int .i64 t.level, .int .i64 t.size, .string t.first, .string t.last] 76)) = .ok (.slice p (e.add.length + 1) c) w1 ∧
      w1.frozen? ⟨E, 0, none⟩ = false ∧ (w1.cell? ⟨E, 0, none⟩ = some av ∧ w1.cell? ⟨SM, 0, none⟩ = some (.func (.func 103) #[.pointer (some ⟨R, 0, none⟩)] #[]) ∧ w1.cell? ⟨TX, 0, none⟩ = some (.func (.func 104) #[.pointer (some ⟨R, 0, none⟩)] #[])) ∧ DecAt B w0 (w1.setCell ⟨E, 0, none⟩ (.slice p (e.add.length + 1) c)) R E SM TX Z (.slice p (e.add.length + 1) c) dv { e with add := e.add ++ [t] } ∧ RdAt B (w1.setCell ⟨E, 0, none⟩ (.slice p (e.add.length + 1) c)) R r := by
  have hA := (Below.refl w.heap.size w).alloc (Nat.le_refl _) (.cells #[.int .i64 t.num, .int .i64 t.level, .int .i64 t.size, .string t.first, .string t.last] 76)
  have hx := Blk.new w 76 #[.int .i64 t.num, .int .i64 t.level, .int .i64 t.size, .string t.first, .string t.last]
  have h1 := h.later hA
  have hR1 := hR.later hA
  obtain ⟨p, c, w1, e1, o1, k1, n1⟩ := h1.add.app rkT_ok (t := t) h1.size (g := w.heap.size) (fun j u hj => by rw [hx.cell]; simpa [rkT, Tbl.cells] using hj) hl
  have hlow : ∀ j, av.ownBlock = some j → B ≤ j := fun j hj => (h1.add.lt j hj).1
  obtain ⟨cR, bR⟩ := hR1.blk
  have d1 : av.ownBlock ≠ some E := h1.add.blk_ne h1.blk (by decide)
  have d2 : av.ownBlock ≠ some SM := h1.add.blk_ne h1.sm (by decide)
  have d3 : av.ownBlock ≠ some TX := h1.add.blk_ne h1.tx (by decide)
  have d4 : av.ownBlock ≠ some R := h1.add.blk_ne bR (by decide)
  have bE := h1.blk.keeps k1 d1
  have hR2 := hR1.keeps k1 fun j hj => ⟨hlow j hj, fun e => d4 (e ▸ hj)⟩
  have hd : dv.ownBlock ≠ av.ownBlock ∨ dv.ownBlock = none := by
    cases hv : dv.ownBlock with
    | none => exact .inr rfl
    | some g =>
      refine .inl fun e => ?_
      obtain ⟨cs, hb⟩ := own_blk h1.drop g hv
      exact h1.add.blk_ne hb (by decide) e.symm
  have dr := h1.drop.keeps k1 (fun g hg hs => by
    rcases hd with h | h
    · exact h (by rw [hg, hs])
    · rw [h] at hg; cases hg)
  have sm1 := h1.sm.keeps k1 d2
  have tx1 := h1.tx.keeps k1 d3
  have z1 := h1.z.keeps k1 (h1.add.blk_ne h1.z (by decide))
  have b1 := Keeps.below_step h1.below h1.size k1 hlow
  have ks : Keeps (fun j => j = E) w1 (w1.setCell ⟨E, 0, none⟩ (.slice p (e.add.length + 1) c)) := (Keeps.refl (fun j => j = E) w1).setCell (p := ⟨E, 0, none⟩) (.inl rfl) _
  have hE1 := bE.set_ 0 (.slice p (e.add.length + 1) c)
  refine ⟨p, c, w1, e1, bE.frozen 0, ⟨by rw [bE.cell]; rfl, by rw [sm1.cell]; rfl, by rw [tx1.cell]; rfl⟩, ⟨h.low, h.nz, h.ne, Keeps.below_step b1 (Nat.le_trans h.low.2.2.2.2 b1.size) ks fun j e => by rw [e]; exact h.low.2.1, hE1, ?_, ?_, ?_, ?_, z1.keeps ks h.nz.1⟩, hR2.keeps ks fun j e => ⟨by rw [e]; exact h.low.2.1, by rw [e]; exact h.ne.1⟩⟩
  · have := o1.keeps ks fun g hg e => o1.blk_ne bE (by decide) (by rw [hg, e])
    exact this
  · exact dr.keeps ks fun g hg e => dr.blk_ne bE (by decide) (by rw [hg, e])
  · exact sm1.keeps ks fun e => by
      have := Blk.ne_ sm1 bE (by decide)
      exact this e
  · exact tx1.keeps ks fun e => by
      have := Blk.ne_ tx1 bE (by decide)
      exact this e
/-- a number put behind those of the edit -/
theorem DecAt.putI (h : DecAt B w0 w R E SM TX Z av dv e) (hR : RdAt B w R r) (t : Int) (hl : e.drop.length ≤ 1000000) :
    ∃ p c w1, (dappOp #[31, 31] 31 #[dv, .slice (some ⟨w.heap.size, 0, none⟩) 1 1]).run Tryz.prog (w.alloc (.cells #[.int .i64 t] 3)) = .ok (.slice p (e.drop.length + 1) c) w1 ∧
      w1.frozen? ⟨E, 1, none⟩ = false ∧ (w1.cell? ⟨E, 1, none⟩ = some dv ∧ w1.cell? ⟨SM, 0, none⟩ = some (.func (.func 103) #[.pointer (some ⟨R, 0, none⟩)] #[])) ∧ DecAt B w0 (w1.setCell ⟨E, 1, none⟩ (.slice p (e.drop.length + 1) c)) R E SM TX Z av (.slice p (e.drop.length + 1) c) { e with drop := e.drop ++ [t] } ∧ RdAt B (w1.setCell ⟨E, 1, none⟩ (.slice p (e.drop.length + 1) c)) R r := by
  have hA := (Below.refl w.heap.size w).alloc (Nat.le_refl _) (.cells #[.int .i64 t] 3)
  have hx := Blk.new w 3 #[.int .i64 t]
  have h1 := h.later hA
  have hR1 := hR.later hA
  obtain ⟨p, c, w1, e1, o1, k1, n1⟩ := h1.drop.app rkI_ok (t := t) h1.size (g := w.heap.size) (fun j u hj => by rw [hx.cell]; simpa [rkI] using hj) hl
  have hlow : ∀ j, dv.ownBlock = some j → B ≤ j := fun j hj => (h1.drop.lt j hj).1
  obtain ⟨cR, bR⟩ := hR1.blk
  have d1 : dv.ownBlock ≠ some E := h1.drop.blk_ne h1.blk (by decide)
  have d2 : dv.ownBlock ≠ some SM := h1.drop.blk_ne h1.sm (by decide)
  have d3 : dv.ownBlock ≠ some TX := h1.drop.blk_ne h1.tx (by decide)
  have d4 : dv.ownBlock ≠ some R := h1.drop.blk_ne bR (by decide)
  have bE := h1.blk.keeps k1 d1
  have hR2 := hR1.keeps k1 fun j hj => ⟨hlow j hj, fun e => d4 (e ▸ hj)⟩
  have hd : dv.ownBlock ≠ av.ownBlock ∨ dv.ownBlock = none := by
    cases hv : dv.ownBlock with
    | none => exact .inr rfl
    | some g =>
      refine .inl fun e => ?_
      obtain ⟨cs, hb⟩ := own_blk h1.drop g hv
      exact h1.add.blk_ne hb (by decide) e.symm
  have ad := h1.add.keeps k1 (fun g hg hs => by
    rcases hd with h | h
    · exact h (by rw [hg, hs])
    · rw [h] at hs; cases hs)
  have sm1 := h1.sm.keeps k1 d2
  have tx1 := h1.tx.keeps k1 d3
  have z1 := h1.z.keeps k1 (h1.drop.blk_ne h1.z (by decide))
  have b1 := Keeps.below_step h1.below h1.size k1 hlow
  have ks : Keeps (fun j => j = E) w1 (w1.setCell ⟨E, 1, none⟩ (.slice p (e.drop.length + 1) c)) := (Keeps.refl (fun j => j = E) w1).setCell (p := ⟨E, 1, none⟩) (.inl rfl) _
  have hE1 := bE.set_ 1 (.slice p (e.drop.length + 1) c)
  refine ⟨p, c, w1, e1, bE.frozen 1, ⟨by rw [bE.cell]; rfl, by rw [sm1.cell]; rfl⟩, ⟨h.low, h.nz, h.ne, Keeps.below_step b1 (Nat.le_trans h.low.2.2.2.2 b1.size) ks fun j e => by rw [e]; exact h.low.2.1, hE1, ?_, ?_, ?_, ?_, z1.keeps ks h.nz.1⟩, hR2.keeps ks fun j e => ⟨by rw [e]; exact h.low.2.1, by rw [e]; exact h.ne.1⟩⟩
  · exact ad.keeps ks fun g hg e => ad.blk_ne bE (by decide) (by rw [hg, e])
  · have := o1.keeps ks fun g hg e => o1.blk_ne bE (by decide) (by rw [hg, e])
    exact this
  · exact sm1.keeps ks fun e => by
      have := Blk.ne_ sm1 bE (by decide)
      exact this e
  · exact tx1.keeps ks fun e => by
      have := Blk.ne_ tx1 bE (by decide)
      exact this e
end
end Go.Proofs.YtabcdodjkfknlaaGreatDoor
namespace Go.Proofs.YtabcdodjkfknlaaGreatDoor
open Go.RowKit Go.Sort
section
variable {α : Type} {P : Program} {r : RowK α} {B : Nat} {w : World}
theorem RowK.Ok.en_at (ok : r.Ok P) (t : α) (j : Nat) (h : j < r.K) : some (r.en t)[j]! = (r.en t)[j]? := by
  rw [getElem!_pos _ j (by rw [ok.len]; exact h), List.getElem?_eq_getElem (by rw [ok.len]; exact h)]
theorem RowK.Own.blk {g n c : Nat} {ts : List α} (h : r.Own B w (.slice (some ⟨g, 0, none⟩) n c) ts) : ∃ cur, Blk w g r.e cur ∧ B ≤ g ∧ ts.length ≤ c ∧ c ≤ maxLen ∧ cur.size = c * r.K ∧ cur.toList.take (ts.length * r.K) = r.cells ts := by
  obtain ⟨_, ⟨h, _⟩ | ⟨g', cap, cur, h, h1, h2, h3, h4, h5, h6⟩⟩ := h
  · cases h
  · injection h with e1 e2 e3
    injection e1 with e1
    injection e1 with e1
    subst e1 e3
    exact ⟨cur, h2, h1, h3, h4, h5, h6⟩
end
section
variable {α : Type} [Inhabited α] {P : Program} {r : RowK α} {B : Nat} {w : World}
theorem RowK.Ok.flat (ok : r.Ok P) (ts : List α) : (flatK r.en r.K ts.toArray).toList = r.cells ts := by
  have hK := ok.pos
  apply List.ext_getElem?
  intro i
  rcases Nat.lt_or_ge i (ts.length * r.K) with h | h
  · have hk : i / r.K < ts.length := Nat.div_lt_of_lt_mul (by rw [Nat.mul_comm]; exact h)
    have hd : i / r.K * r.K + i % r.K = i := by rw [Nat.mul_comm]; exact Nat.div_add_mod i r.K
    have h1 := ok.cells_at ts (i / r.K) (i % r.K) ts[i / r.K] (List.getElem?_eq_getElem hk) (Nat.mod_lt _ hK)
    rw [hd] at h1
    rw [h1, ← ok.en_at _ _ (Nat.mod_lt _ hK), Array.getElem?_toList]
    have h2 := get_flatK r.en r.K ts.toArray i (by simpa using h)
    rw [getElem!_pos _ i (by simpa using h)] at h2
    rw [Array.getElem?_eq_getElem (by simpa using h), h2]
    rw [getElem!_pos ts.toArray (i / r.K) (by simpa using hk)]
    simp
  · rw [List.getElem?_eq_none (by simpa using h), List.getElem?_eq_none (by rw [ok.cells_len]; exact h)]
theorem RowK.Own.holdsK (ok : r.Ok P) {g n c : Nat} {ts : List α} (h : r.Own B w (.slice (some ⟨g, 0, none⟩) n c) ts) : HoldsK r.en r.K w g 0 ts.toArray := by
  obtain ⟨cur, hb, _, _, _, _, ht⟩ := h.blk
  intro j hj
  rw [size_flatK] at hj
  have hj' : j < ts.length * r.K := by simpa using hj
  refine ⟨?_, hb.frozen _⟩
  rw [hb.cell, Nat.zero_add]
  have h1 : (flatK r.en r.K ts.toArray).toList[j]? = cur[j]? := by
    rw [ok.flat, ← ht, List.getElem?_take, if_pos hj']
    simp
  rw [← h1, Array.getElem?_toList, Array.getElem?_eq_getElem (by simpa using hj'), getElem!_pos _ j (by simpa using hj')]
  rfl
theorem RowK.Own.sorted (ok : r.Ok P) {g c m : Nat} {ts : List α} {d : Array α} {os : Array Obj} (h : r.Own B w (.slice (some ⟨g, 0, none⟩) ts.length c) ts) (hd : d.size = ts.length) :
    r.Own B (sortWorldK r.en r.K w g 0 m d os) (.slice (some ⟨g, 0, none⟩) ts.length c) d.toList ∧ Keeps (fun j => j = g) w (sortWorldK r.en r.K w g 0 m d os) := by
  obtain ⟨cur, hb, h1, h2, h3, h4, h5⟩ := h.blk
  have hlt := hb.lt
  have hH : (sortWorldK r.en r.K w g 0 m d os).heap = (w.heap.modify g (onCells (putCells id 0 (flatK r.en r.K d)))) ++ os := rfl
  have hlen : d.toList.length = ts.length := by simpa using hd
  constructor
  · unfold RowK.Own
    rw [hlen]
    refine ⟨by rw [ok.cells_len, hlen], .inr ⟨g, c, putCells id 0 (flatK r.en r.K d) cur, rfl, h1, ?_, h2, h3, ?_, ?_⟩⟩
    · rw [hH, Array.getElem?_append_left (by simpa using hlt), Array.getElem?_modify, if_pos rfl]
      unfold Blk at hb
      rw [hb]
      rfl
    · rw [← h4]; simp [putCells]
    · apply List.ext_getElem?
      intro i
      rw [List.getElem?_take]
      rcases Nat.lt_or_ge i (ts.length * r.K) with hi | hi
      · rw [if_pos hi, ← show (flatK r.en r.K d).toList = r.cells d.toList from ok.flat d.toList]
        rw [Array.getElem?_toList, Array.getElem?_toList]
        have hi2 : i < (flatK r.en r.K d).size := by rw [size_flatK, hd]; exact hi
        have hi3 : i < cur.size := by rw [h4]; exact Nat.lt_of_lt_of_le hi (Nat.mul_le_mul_right r.K h2)
        rw [Array.getElem?_eq_getElem hi2]
        simp only [putCells, Array.getElem?_mapIdx, Array.getElem?_eq_getElem hi3, Option.map_some]
        rw [if_pos ⟨Nat.zero_le _, by omega⟩, Nat.sub_zero, getElem!_pos _ i hi2]
        rfl
      · rw [if_neg (by omega), List.getElem?_eq_none (by rw [ok.cells_len, hlen]; exact hi)]
  · refine ⟨rfl, rfl, rfl, by rw [hH]; simp, fun k hk hs => ?_⟩
    rw [hH, Array.getElem?_append_left (by simpa using hk), Array.getElem?_modify, if_neg (fun e => hs e.symm)]
theorem sortedIn_pairwiseG {c : α → α → Int} (hlt : ∀ x y, ltOf c x y = decide (c x y < 0)) {d : Array α} (h : SortedIn (ltOf c) 0 d.size d) : d.toList.Pairwise fun a b => ¬ c b a < 0 := by
  rw [List.pairwise_iff_getElem]
  intro i j hi hj hij
  have := h i j (Nat.zero_le _) hij (by simpa using hj)
  rw [hlt, decide_eq_false_iff_not] at this
  rw [getElem!_pos d i (by simpa using hi), getElem!_pos d j (by simpa using hj)] at this
  simpa using this
theorem permIn_permG {d d' : Array α} (h : PermIn 0 d.size d d') : d'.toList.Perm d.toList := by
  obtain ⟨h1, _, h3⟩ := h
  rw [← h1] at h3
  have : d'.extract 0 d'.size = d' := by simp
  rw [this, h1] at h3
  have e : d.extract 0 d.size = d := by simp
  rwa [e] at h3
end
end Go.Proofs.YtabcdodjkfknlaaGreatDoor
namespace Go.Proofs.YtabcdodjkfknlaaGreatDoor
open Go.RowKit Go.Sort
theorem isNaN_calls (a : ByteArray) (w : World) : Calls Tryz.prog 167 #[.string a] w fun e w' => e = .returned (.bool false) ∧ w = w' := by
  have h : (a.toList != a.toList) = false := by simp
  go_enter Tryz.func167, Tryz.ntmps167
  go_wp2_with fail
  go_ret
  exact ⟨rfl, rfl⟩
theorem compareS_calls (a b : ByteArray) (w : World) : Calls Tryz.prog 137 #[.string a, .string b] w fun e w' => e = .returned (.int .i64 (Lib.compareBytes a.data.toList b.data.toList)) ∧ w' = w := by
  have hA := isNaN_calls a
  have hB := isNaN_calls b
  rcases cb_three a.data.toList b.data.toList with h | h | h
  · have h1 : Op.bytesLess a.toList b.toList = false := less_n (by rw [h]; decide)
    have h2 : (a.toList == b.toList) = true := eq_y h
    rw [h]
    clear h
    go_enter Tryz.func137, Tryz.ntmps137
    go_wp2_with (go_at_call 167; refine (isNaN_calls _ _).mono ?_; rintro e w1 ⟨rfl, rfl⟩)
    go_ret
    exact ⟨rfl, rfl⟩
  · have h1 : Op.bytesLess a.toList b.toList = true := less_m h
    rw [h]
    clear h
    go_enter Tryz.func137, Tryz.ntmps137
    go_wp2_with (go_at_call 167; refine (isNaN_calls _ _).mono ?_; rintro e w1 ⟨rfl, rfl⟩)
    go_ret
    exact ⟨rfl, rfl⟩
  · have h1 : Op.bytesLess a.toList b.toList = false := less_n (by rw [h]; decide)
    have h2 : (a.toList == b.toList) = false := eq_n (by rw [h]; decide)
    rw [h]
    clear h
    go_enter Tryz.func137, Tryz.ntmps137
    go_wp2_with (go_at_call 167; refine (isNaN_calls _ _).mono ?_; rintro e w1 ⟨rfl, rfl⟩)
    go_ret
    exact ⟨rfl, rfl⟩
theorem or_calls (a b : Int) (g : Nat) (w : World) (hc : ∀ i, w.cell? ⟨g, i, none⟩ = (#[.int .i64 a, .int .i64 b] : Array Value)[i]?) :
    Calls Tryz.prog 136 #[.slice (some ⟨g, 0, none⟩) 2 2] w fun e w' => e = .returned (.int .i64 (orI a b)) ∧ w' = w := by
  have c0 : w.cell? ⟨g, 0, none⟩ = some (.int .i64 a) := hc 0
  have c1 : w.cell? ⟨g, 1, none⟩ = some (.int .i64 b) := hc 1
  clear hc
  by_cases ha : a = 0
  · have e1 : (a != 0) = false := by simp [ha]
    have hv : orI a b = b := if_pos ha
    rw [hv]
    clear hv
    by_cases hb : b = 0
    · have e2 : (b != 0) = false := by simp [hb]
      have hb' := Lib.hid hb
      clear hb ha
      go_enter Tryz.func136, Tryz.ntmps136
      go_wp2_with fail
      refine wp_loop_rounds 3 ?_
      rw [rounds_succ]
      go_wp2_with fail
      rw [rounds_succ]
      go_wp2_with fail
      rw [rounds_succ]
      go_wp2_with fail
      go_ret
      exact ⟨ret_int hb'.out.symm, rfl⟩
    · have e2 : (b != 0) = true := by simpa using hb
      clear hb ha
      go_enter Tryz.func136, Tryz.ntmps136
      go_wp2_with fail
      refine wp_loop_rounds 2 ?_
      rw [rounds_succ]
      go_wp2_with fail
      rw [rounds_succ]
      go_wp2_with fail
      go_ret
      exact ⟨rfl, rfl⟩
  · have e1 : (a != 0) = true := by simpa using ha
    have hv : orI a b = a := if_neg ha
    rw [hv]
    clear hv ha
    go_enter Tryz.func136, Tryz.ntmps136
    go_wp2_with fail
    refine wp_loop_rounds 1 ?_
    rw [rounds_succ]
    go_wp2_with fail
    go_ret
    exact ⟨rfl, rfl⟩
theorem grow_of_below {w w' : World} (hb : Below w.heap.size w w') (hd : w.drawn ≤ w'.drawn) : ∃ q os, w' = grow (w.drewN q) os := by
  refine ⟨w'.drawn - w.drawn, w'.heap.extract w.heap.size w'.heap.size, ?_⟩
  obtain ⟨h1, h2, h3, h4, h5⟩ := hb
  cases w' with
  | mk heap tape drawn os output =>
    cases w with
    | mk heap0 tape0 drawn0 os0 output0 =>
      simp only at h1 h2 h3 h4 h5 hd
      subst h1 h2 h3
      unfold grow World.drewN
      simp only [World.mk.injEq, true_and, and_true]
      refine ⟨?_, by omega⟩
      apply Array.ext_getElem?
      intro i
      rcases Nat.lt_or_ge i heap0.size with h | h
      · rw [h5 i h, Array.getElem?_append_left h]
      · rw [Array.getElem?_append_right h, Array.getElem?_extract]
        split
        · rw [show heap0.size + (i - heap0.size) = i by omega]
        · rw [Array.getElem?_eq_none (by omega)]
theorem isNaNI_calls (a : Int) (w : World) : Calls Tryz.prog 166 #[.int .i64 a] w fun e w' => e = .returned (.bool false) ∧ w = w' := by
  have h : (a != a) = false := by simp
  go_enter Tryz.func166, Tryz.ntmps166
  go_wp2_with fail
  go_ret
  exact ⟨rfl, rfl⟩
theorem compareI_calls (a b : Int) (w : World) : Calls Tryz.prog 135 #[.int .i64 a, .int .i64 b] w fun e w' => e = .returned (.int .i64 (cmpI a b)) ∧ w' = w := by
  have hA := isNaNI_calls a
  have hB := isNaNI_calls b
  have hC : cmpI a b = if a < b then -1 else if b < a then 1 else 0 := rfl
  rw [hC]
  by_cases h1 : a < b
  · rw [if_pos h1]
    clear hC
    go_enter Tryz.func135, Tryz.ntmps135
    go_wp2_with (go_at_call 166; refine (isNaNI_calls _ _).mono ?_; rintro e w1 ⟨rfl, rfl⟩)
    go_ret
    exact ⟨rfl, rfl⟩
  · rw [if_neg h1]
    by_cases h2 : b < a
    · rw [if_pos h2]
      clear hC
      go_enter Tryz.func135, Tryz.ntmps135
      go_wp2_with (go_at_call 166; refine (isNaNI_calls _ _).mono ?_; rintro e w1 ⟨rfl, rfl⟩)
      go_ret
      exact ⟨rfl, rfl⟩
    · rw [if_neg h2]
      clear hC
      go_enter Tryz.func135, Tryz.ntmps135
      go_wp2_with (go_at_call 166; refine (isNaNI_calls _ _).mono ?_; rintro e w1 ⟨rfl, rfl⟩)
      go_ret
      exact ⟨rfl, rfl⟩
def Tbl.v (t : Tbl) : Value := .agg #[.int .i64 t.num, .int .i64 t.level, .int .i64 t.size, .string t.first, .string t.last]
def OrdPost (w : World) (c : Int) (e : Ending) (w' : World) : Prop := e = .returned (.int .i64 c) ∧ Below w.heap.size w w' ∧ w.drawn ≤ w'.drawn
set_option maxHeartbeats 2000000 in
set_option maxRecDepth 100000 in
theorem order_dr (a b : Tbl) (w : World) :
    Calls Tryz.prog 87 #[a.v, b.v] w (OrdPost w (ordT a b)) := by
  have hO : ordT a b = if cmpI a.level b.level ≠ 0 ∨ a.level = 0 then orI (cmpI a.level b.level) (cmpI a.num b.num) else orI (Lib.compareBytes a.first.data.toList b.first.data.toList) (cmpI a.num b.num) := rfl
  obtain ⟨an, al, az, af, at_⟩ := a
  obtain ⟨bn, bl, bz, bf, bt⟩ := b
  simp only at hO
  rw [hO]
  clear hO
  unfold Tbl.v
  simp only
  have b0 := (Blk.new w 76 #[.int .i64 an, .int .i64 al, .int .i64 az, .string af, .string at_]).alloc (.cells #[.int .i64 bn, .int .i64 bl, .int .i64 bz, .string bf, .string bt] 76)
  have b1 := Blk.new (w.alloc (.cells #[.int .i64 an, .int .i64 al, .int .i64 az, .string af, .string at_] 76)) 76 #[.int .i64 bn, .int .i64 bl, .int .i64 bz, .string bf, .string bt]
  rw [World.size_alloc] at b1
  have B2 := ((Below.refl w.heap.size w).alloc (Nat.le_refl _) (.cells #[.int .i64 an, .int .i64 al, .int .i64 az, .string af, .string at_] 76)).alloc (by simp) (.cells #[.int .i64 bn, .int .i64 bl, .int .i64 bz, .string bf, .string bt] 76)
  have D2 : ((w.alloc (.cells #[.int .i64 an, .int .i64 al, .int .i64 az, .string af, .string at_] 76)).alloc (.cells #[.int .i64 bn, .int .i64 bl, .int .i64 bz, .string bf, .string bt] 76)).drawn = w.drawn := rfl
  have cL := Lib.hid (fun w => compareI_calls al bl w)
  have cN := Lib.hid (fun w => compareI_calls an bn w)
  have cF := Lib.hid (fun w => compareS_calls af bf w)
  have hal : al = 0 → ((al == 0) = true) := fun h => by simp [h]
  have hal' : al ≠ 0 → ((al == 0) = false) := fun h => by simpa using h
  generalize cmpI al bl = cl at *
  generalize cmpI an bn = cn at *
  generalize Lib.compareBytes af.data.toList bf.data.toList = cf at *
  obtain ⟨g, hg⟩ : ∃ g, w.heap.size = g := ⟨_, rfl⟩
  have hg' := Lib.hid hg
  by_cases h1 : cl ≠ 0 ∨ al = 0
  · rw [if_pos h1]
    have h1' : ((cl != 0) = true) ∨ ((cl != 0) = false ∧ (al == 0) = true) := by
      by_cases h : cl = 0
      · rcases h1 with h2 | h2
        · exact absurd h h2
        · exact .inr ⟨by simp [h], hal h2⟩
      · exact .inl (by simpa using h)
    clear h1 hal hal'
    go_enter Tryz.func87, Tryz.ntmps87
    go_wp2_with fail
    with_reducible refine (cL.out _).mono ?_
    rintro e w1 ⟨rfl, rfl⟩
    rw [hg] at b0 b1
    obtain ⟨W2, e2⟩ : ∃ W2, (w.alloc (.cells #[.int .i64 an, .int .i64 al, .int .i64 az, .string af, .string at_] 76)).alloc (.cells #[.int .i64 bn, .int .i64 bl, .int .i64 bz, .string bf, .string bt] 76) = W2 := ⟨_, rfl⟩
    rw [e2] at b0 b1 B2 D2 ⊢
    have c0 := b0.cell
    have c1 := b1.cell
    have l0 := b0.lt
    have l1 := b1.lt
    have B2' := Lib.hid B2
    have D2' := Lib.hid D2
    clear b0 b1 B2 D2 hg e2 cL
    have kO := Lib.hid (or_calls cl cn W2.heap.size (W2.alloc (.cells #[.int .i64 cl, .int .i64 cn] 3)) (Blk.new W2 3 #[.int .i64 cl, .int .i64 cn]).cell)
    have BB := Lib.hid (B2'.out.alloc B2'.out.size (.cells #[.int .i64 cl, .int .i64 cn] 3))
    rcases h1' with h1 | ⟨h1, h2⟩
    all_goals
      go_wp2_with fail
      with_reducible refine (cN.out _).mono ?_
      rintro e w1 ⟨rfl, rfl⟩
      go_wp2_with fail
      with_reducible refine kO.out.mono ?_
      rintro e w1 ⟨rfl, rfl⟩
      go_wp2
      go_ret
      exact ⟨rfl, BB.out, Nat.le_of_eq D2'.out.symm⟩
  · rw [if_neg h1]
    have h2 : (cl != 0) = false := by
      by_cases h : cl = 0
      · simp [h]
      · exact absurd (.inl h) h1
    have h3 : (al == 0) = false := hal' fun h => h1 (.inr h)
    clear h1 hal hal'
    go_enter Tryz.func87, Tryz.ntmps87
    go_wp2_with fail
    with_reducible refine (cL.out _).mono ?_
    rintro e w1 ⟨rfl, rfl⟩
    rw [hg] at b0 b1
    obtain ⟨W2, e2⟩ : ∃ W2, (w.alloc (.cells #[.int .i64 an, .int .i64 al, .int .i64 az, .string af, .string at_] 76)).alloc (.cells #[.int .i64 bn, .int .i64 bl, .int .i64 bz, .string bf, .string bt] 76) = W2 := ⟨_, rfl⟩
    rw [e2] at b0 b1 B2 D2 ⊢
    have c0 := b0.cell
    have c1 := b1.cell
    have l0 := b0.lt
    have l1 := b1.lt
    have B2' := Lib.hid B2
    have D2' := Lib.hid D2
    clear b0 b1 B2 D2 hg e2 cL
    obtain ⟨W3, e3⟩ : ∃ W3, W2.drew = W3 := ⟨_, rfl⟩
    have d0 : ∀ i, W3.cell? ⟨g, i, none⟩ = (#[.int .i64 an, .int .i64 al, .int .i64 az, .string af, .string at_] : Array Value)[i]? := by rw [← e3]; exact c0
    have d1 : ∀ i, W3.cell? ⟨g + 1, i, none⟩ = (#[.int .i64 bn, .int .i64 bl, .int .i64 bz, .string bf, .string bt] : Array Value)[i]? := by rw [← e3]; exact c1
    have B3 : Below w.heap.size w W3 := by rw [← e3]; exact B2'.out.drew
    have D3 : w.drawn ≤ W3.drawn := by rw [← e3, ← D2'.out]; exact Nat.le_succ _
    have m0 : g < W3.heap.size := by rw [← e3]; exact l0
    have m1 : g + 1 < W3.heap.size := by rw [← e3]; exact l1
    have kO := Lib.hid (or_calls cf cn W3.heap.size (W3.alloc (.cells #[.int .i64 cf, .int .i64 cn] 3)) (Blk.new W3 3 #[.int .i64 cf, .int .i64 cn]).cell)
    have BB := Lib.hid (B3.alloc B3.size (.cells #[.int .i64 cf, .int .i64 cn] 3))
    have DD := Lib.hid D3
    have sA : ∀ i, (W3.alloc (.cells #[.int .i64 cf, .int .i64 cn] 3)).cell? ⟨g, i, none⟩ = (#[.int .i64 an, .int .i64 al, .int .i64 az, .string af, .string at_] : Array Value)[i]? := fun i => by rw [← d0 i]; exact ((Below.refl W3.heap.size W3).alloc (Nat.le_refl _) _).cell (p := ⟨g, i, none⟩) m0
    have sB : ∀ i, (W3.alloc (.cells #[.int .i64 cf, .int .i64 cn] 3)).cell? ⟨g + 1, i, none⟩ = (#[.int .i64 bn, .int .i64 bl, .int .i64 bz, .string bf, .string bt] : Array Value)[i]? := fun i => by rw [← d1 i]; exact ((Below.refl W3.heap.size W3).alloc (Nat.le_refl _) _).cell (p := ⟨g + 1, i, none⟩) m1
    have s0 := Lib.hid (And.intro d0 d1)
    have s1 := Lib.hid (And.intro sA sB)
    have e3' := Lib.hid e3
    clear sA sB d0 d1 B3 D3 m0 m1 e3
    go_wp2_with fail
    refine wp_region_s (fun w' => (∀ i, w'.cell? ⟨g, i, none⟩ = (#[.int .i64 an, .int .i64 al, .int .i64 az, .string af, .string at_] : Array Value)[i]?) ∧ (∀ i, w'.cell? ⟨g + 1, i, none⟩ = (#[.int .i64 bn, .int .i64 bl, .int .i64 bz, .string bf, .string bt] : Array Value)[i]?)) [] [(true, 0), (true, 1), (true, 2), (true, 3), (true, 5), (true, 6), (true, 7), (true, 8), (false, 4), (false, 9), (false, 10), (false, 11), (true, 12)] (by kernel_rfl) (by kernel_rfl) (by kernel_rfl) (by kernel_rfl) (fun _ _ _ _ _ h => h) (by rw [e3'.out]; exact s0.out) ?_
    rw [e3'.out]
    clear c0 c1 e3'
    refine wpS_take (v := ?_) rfl (.inl ⟨by rfl, fun w' hS => ?_⟩) ?_
    rotate_left
    · (try dsimp only at hS); go_simp; try with_reducible rfl
    simp only [Act.put, List.setIfInBounds_toArray, List.set_cons_zero, List.set_cons_succ]
    refine wpS_take (v := ?_) rfl (.inl ⟨by rfl, fun w' hS => ?_⟩) ?_
    rotate_left
    · (try dsimp only at hS); go_simp; try with_reducible rfl
    simp only [Act.put, List.setIfInBounds_toArray, List.set_cons_zero, List.set_cons_succ]
    refine wpS_take (v := ?_) rfl (.inl ⟨by rfl, fun w' hS => ?_⟩) ?_
    rotate_left
    · (try dsimp only at hS); go_simp; try with_reducible rfl
    simp only [Act.put, List.setIfInBounds_toArray, List.set_cons_zero, List.set_cons_succ]
    refine wpS_take (v := ?_) rfl (.inl ⟨by rfl, fun w' hS => ?_⟩) ?_
    rotate_left
    · (try dsimp only at hS); go_simp; try with_reducible rfl
    simp only [Act.put, List.setIfInBounds_toArray, List.set_cons_zero, List.set_cons_succ]
    refine wpS_take (v := ?_) rfl (.inl ⟨by rfl, fun w' hS => ?_⟩) ?_
    rotate_left
    · (try dsimp only at hS); go_simp; try with_reducible rfl
    simp only [Act.put, List.setIfInBounds_toArray, List.set_cons_zero, List.set_cons_succ]
    refine wpS_take (v := ?_) rfl (.inl ⟨by rfl, fun w' hS => ?_⟩) ?_
    rotate_left
    · (try dsimp only at hS); go_simp; try with_reducible rfl
    simp only [Act.put, List.setIfInBounds_toArray, List.set_cons_zero, List.set_cons_succ]
    refine wpS_take (v := ?_) rfl (.inl ⟨by rfl, fun w' hS => ?_⟩) ?_
    rotate_left
    · (try dsimp only at hS); go_simp; try with_reducible rfl
    simp only [Act.put, List.setIfInBounds_toArray, List.set_cons_zero, List.set_cons_succ]
    refine wpS_take (v := ?_) rfl (.inl ⟨by rfl, fun w' hS => ?_⟩) ?_
    rotate_left
    · (try dsimp only at hS); go_simp; try with_reducible rfl
    simp only [Act.put, List.setIfInBounds_toArray, List.set_cons_zero, List.set_cons_succ]
    refine wpS_go rfl ?_
    go_wp2_with fail
    with_reducible refine (cF.out _).mono ?_
    rintro e w1 ⟨rfl, rfl⟩
    go_wp2_with fail
    refine ⟨fun _ => s0.out, ?_⟩
    refine wpS_go rfl ?_
    go_wp2_with fail
    with_reducible refine (cN.out _).mono ?_
    rintro e w1 ⟨rfl, rfl⟩
    go_wp2_with fail
    refine ⟨fun _ => s0.out, ?_⟩
    refine wpS_go rfl ?_
    go_wp2
    refine ⟨by first | exact s1.out | exact fun _ => s1.out, ?_⟩
    refine wpS_go rfl ?_
    go_wp2_with fail
    with_reducible refine kO.out.mono ?_
    rintro e w1 ⟨rfl, rfl⟩
    go_wp2_with fail
    refine ⟨fun _ => s1.out, ?_⟩
    refine wpS_take (v := ?_) rfl (.inl ⟨by rfl, fun w' hS => ?_⟩) ?_
    rotate_left
    · (try dsimp only at hS); go_simp; try with_reducible rfl
    simp only [Act.put, List.setIfInBounds_toArray, List.set_cons_zero, List.set_cons_succ]
    refine wpS_end ?_
    go_wp2
    go_ret
    exact ⟨rfl, BB.out, DD.out⟩
end Go.Proofs.YtabcdodjkfknlaaGreatDoor
namespace Go.Proofs.YtabcdodjkfknlaaGreatDoor
open Go.RowKit Go.Maps
/-- an element reads as itself -/
def rawR (v : Value) : Option (DataW Value × List MemPlace) := some (.held v, [])
/-- block b is a map of n entries; f tells what stands at each key -/
def MapAt (P : Program) (k : TypeId) (w : World) (b n : Nat) (f : Value → Option Value) : Prop :=
  ∃ D, w.ownsMap P k rawR b n D ∧ Maps.size D = n ∧ (∀ kv kl, keyOf P k kv = some kl → Maps.has D kl = (f kv).isSome ∧ ∀ v z, f kv = some v → D.atKey kl z = .held v) ∧ ∀ kv, keyOf P k kv = none → f kv = none
/-- a function of values, with one key's value laid anew -/
noncomputable def putV (f : Value → Option Value) (kv v : Value) : Value → Option Value := fun x => open Classical in if x = kv then some v else f x
noncomputable def delV (f : Value → Option Value) (kv : Value) : Value → Option Value := fun x => open Classical in if x = kv then none else f x
theorem putV_same (f : Value → Option Value) (kv v : Value) : putV f kv v kv = some v := by unfold putV; exact if_pos rfl
theorem putV_other {f : Value → Option Value} {kv v x : Value} (h : x ≠ kv) : putV f kv v x = f x := by unfold putV; exact if_neg h
theorem delV_same (f : Value → Option Value) (kv : Value) : delV f kv kv = none := by unfold delV; exact if_pos rfl
theorem delV_other {f : Value → Option Value} {kv x : Value} (h : x ≠ kv) : delV f kv x = f x := by unfold delV; exact if_neg h
section
variable {P : Program} {k : TypeId} {w w' : World} {b n : Nat} {f : Value → Option Value} {S : Nat → Prop}
theorem ownsMap_tight {H : Type} {R : Value → Option (DataW H × List MemPlace)} {D : DataW H} (h : w.ownsMap P k R b n D) : w.ownsMap P k R b (Maps.size D) D := by
  obtain ⟨es, clock, hb, F, hs, rfl⟩ := h
  refine ⟨es, clock, hb, F, ?_, rfl⟩
  show es.size ≤ ((es.toList.map (WideElems.rg P k R)).foldr DataW.insert []).length
  rw [length_read]
  exact Nat.le_refl _
theorem MapAt.made (P : Program) (k : TypeId) (w : World) : MapAt P k (w.alloc (.map #[] 0)) w.heap.size 0 (fun _ => none) :=
  ⟨.map [], World.ownsMap_made _ _ _ _, rfl, fun _ _ _ => ⟨rfl, fun _ _ h => by cases h⟩, fun _ _ => rfl⟩
theorem MapAt.lt (h : MapAt P k w b n f) : b < w.heap.size := by obtain ⟨D, h1, _⟩ := h; exact h1.lt
theorem MapAt.keeps (h : MapAt P k w b n f) (hk : Keeps S w w') (hs : ¬ S b) : MapAt P k w' b n f := by
  obtain ⟨D, h1, h2⟩ := h
  exact ⟨D, map_keeps h1 hk hs, h2⟩
theorem MapAt.below {B : Nat} (h : MapAt P k w b n f) (hk : Below B w w') (hb : b < B) : MapAt P k w' b n f :=
  h.keeps (S := fun j => B ≤ j) (.of_below' hk fun _ hj _ => hj) (by omega)
theorem MapAt.later (h : MapAt P k w b n f) (hk : Below w.heap.size w w') : MapAt P k w' b n f := h.below hk h.lt
/-- 'v, ok := m[k]' -/
theorem MapAt.look_ok {t e : TypeId} (h : MapAt P k w b n f) (K : Keyed P k) (ht : P.underlying t = some (.map k e)) {z : Value} (hz : (zeroValue e).run P w = .ok z w) {kv : Value} {kl : Lit} (hkey : keyOf P k kv = some kl) :
    (Instr.lookup t (.map (some b)) kv true).run P w = .ok (.tuple #[(f kv).getD z, .bool (f kv).isSome]) w := by
  obtain ⟨D, h1, _, h2, _⟩ := h
  obtain ⟨v, ps, hr, hv⟩ := h1.look_ok K ht hz (zd := .held z) (zp := []) rfl hkey
  obtain ⟨e1, e2⟩ := h2 kv kl hkey
  rw [e1] at hr
  cases hf : f kv with
  | none =>
    rw [hf] at e1 hr
    rw [Maps.atKey_of_not_has e1] at hv
    unfold rawR at hv
    injection hv with hv
    injection hv with hv _
    injection hv with hv
    rw [hv] at hr
    exact hr
  | some u =>
    rw [hf] at hr
    rw [e2 u _ hf] at hv
    unfold rawR at hv
    injection hv with hv
    injection hv with hv _
    injection hv with hv
    rw [hv] at hr
    exact hr
/-- 'm[k] = v' -/
theorem MapAt.put {t e : TypeId} (h : MapAt P k w b n f) (K : Keyed P k) (ht : P.underlying t = some (.map k e)) (hn : n < maxLen) {kv : Value} {kl : Lit} (hkey : keyOf P k kv = some kl) (v : Value) :
    ∃ w', (Instr.mapUpdate t (.map (some b)) kv v).run P w = .ok () w' ∧ MapAt P k w' b (if (f kv).isSome then n else n + 1) (putV f kv v) ∧ Keeps (fun j => j = b) w w' := by
  obtain ⟨D, h1, h0, h2, h3⟩ := h
  obtain ⟨w', hr, ho, hg⟩ := h1.update K ht hn hkey (val := v) (d := .held v) (ps := []) rfl
  have hT := h1.tidy K
  have hsz : Maps.size (D.put kl (.held v)) = if (f kv).isSome then n else n + 1 := by rw [Maps.size_put hT, (h2 kv kl hkey).1, h0]
  refine ⟨w', hr, ⟨D.put kl (.held v), by rw [← hsz]; exact ownsMap_tight ho, hsz, fun x xl hx => ?_, fun x hx => ?_⟩, (Keeps.refl _ _).grown hg (fun j e => .inl (by simpa using e.symm))⟩
  · by_cases e : x = kv
    · subst e
      obtain rfl : xl = kl := by rw [hx] at hkey; exact Option.some.inj hkey
      rw [putV_same]
      refine ⟨Maps.has_put_same h1.isMap (K.key hx) _, fun u z hu => ?_⟩
      obtain rfl := Option.some.inj hu
      exact Maps.atKey_put_same h1.isMap (K.key hx) _ _
    · have hne : xl ≠ kl := fun e2 => e (K.inj hx (by rw [e2]; exact hkey))
      rw [putV_other e]
      obtain ⟨i1, i2⟩ := h2 x xl hx
      exact ⟨(Maps.has_put_other hne _).trans i1, fun u z hu => (Maps.atKey_put_other hne _ _).trans (i2 u z hu)⟩
  · rw [putV_other (fun e => by rw [e, hkey] at hx; cases hx)]
    exact h3 x hx
/-- 'delete(m, k)' -/
theorem MapAt.drop {t e : TypeId} (h : MapAt P k w b n f) (K : Keyed P k) (ht : P.underlying t = some (.map k e)) {kv : Value} {kl : Lit} (hkey : keyOf P k kv = some kl) (ty : TypeId) :
    ∃ w', (Builtin.delete_ #[t, k] ty #[.map (some b), kv]).run P w = .ok (.tuple #[]) w' ∧ MapAt P k w' b (if (f kv).isSome then n - 1 else n) (delV f kv) ∧ Keeps (fun j => j = b) w w' := by
  obtain ⟨D, h1, h0, h2, h3⟩ := h
  obtain ⟨w', hr, ho, ht'⟩ := h1.drop K ht hkey ty
  have hT := h1.tidy K
  have hsz : Maps.size (D.del kl) = if (f kv).isSome then n - 1 else n := by
    have := Maps.size_del (k := kl) hT
    rw [(h2 kv kl hkey).1, h0] at this
    split at this <;> rename_i hc
    · rw [if_pos hc]; omega
    · rw [if_neg hc]; omega
  refine ⟨w', hr, ⟨D.del kl, by rw [← hsz]; exact ownsMap_tight ho, hsz, fun x xl hx => ?_, fun x hx => ?_⟩, (Keeps.refl _ _).grown ht'.grown (fun j e => .inl (by simpa using e.symm))⟩
  · by_cases e : x = kv
    · subst e
      obtain rfl : xl = kl := by rw [hx] at hkey; exact Option.some.inj hkey
      rw [delV_same]
      exact ⟨Maps.has_del_same, fun u z hu => by cases hu⟩
    · have hne : xl ≠ kl := fun e2 => e (K.inj hx (by rw [e2]; exact hkey))
      rw [delV_other e]
      obtain ⟨i1, i2⟩ := h2 x xl hx
      exact ⟨(Maps.has_del_other hne).trans i1, fun u z hu => (Maps.atKey_del_other hne _).trans (i2 u z hu)⟩
  · rw [delV_other (fun e => by rw [e, hkey] at hx; cases hx)]
    exact h3 x hx
/-- 'len(m)' -/
theorem MapAt.len {t e : TypeId} (h : MapAt P k w b n f) (ht : P.underlying t = some (.map k e)) (ty : TypeId) : (Builtin.len_ #[t] ty #[.map (some b)]).run P w = .ok (.int .i64 n) w := by
  obtain ⟨D, h1, h0, _⟩ := h
  rw [h1.len ht ty, h0]
end
end Go.Proofs.YtabcdodjkfknlaaGreatDoor
namespace Go.Proofs.YtabcdodjkfknlaaGreatDoor
open Go.RowKit Go.Maps
theorem odd_calls (n : Int) (w : World) (h1 : -9223372036854775808 ≤ n) (h2 : n < 9223372036854775808) : Calls Tryz.prog 86 #[.int .i64 n] w fun e w' => e = .returned (.bool (oddI n)) ∧ w = w' := by
  have hO : oddI n = (decide (n < 0) || decide (4611686018427387904 ≤ n)) := rfl
  by_cases h : n < 0
  · have e : oddI n = true := by rw [hO]; simp [h]
    rw [e]
    clear e hO
    go_enter Tryz.func86, Tryz.ntmps86
    go_wp2
    go_ret
    exact ⟨rfl, rfl⟩
  · by_cases h3 : n < 4611686018427387904
    · have e : oddI n = false := by rw [hO]; simp; omega
      have t : (n / 4611686018427387904 != 0) = false := by simp; omega
      rw [e]
      clear e hO h1 h2 h3
      go_enter Tryz.func86, Tryz.ntmps86
      go_wp2
      go_ret
      exact ⟨rfl, rfl⟩
    · have e : oddI n = true := by rw [hO]; simp; omega
      have t : (n / 4611686018427387904 != 0) = true := by simp; omega
      rw [e]
      clear e hO h1 h2 h3
      go_enter Tryz.func86, Tryz.ntmps86
      go_wp2
      go_ret
      exact ⟨rfl, rfl⟩
/-- a table's numbers are the language's -/
def Tbl.lang (t : Tbl) : Prop := -9223372036854775808 ≤ t.num ∧ t.num < 9223372036854775808 ∧ -9223372036854775808 ≤ t.level ∧ t.level < 9223372036854775808 ∧ -9223372036854775808 ≤ t.size ∧ t.size < 9223372036854775808
/-- a version in memory, as a value -/
structure VerIs (w : World) (v : Value) (x : Ver) : Prop where
  form : ∃ p c, v = .agg #[.slice p x.tables.length c, .int .u64 x.floor, .int .u64 x.head, .int .i64 x.log, .int .i64 x.next] ∧ rkT.At w p x.tables
  len : x.tables.length ≤ 1000000
  lang : ∀ t ∈ x.tables, t.lang
  nums : x.floor < 18446744073709551616 ∧ x.head < 18446744073709551616 ∧ -9223372036854775808 ≤ x.log ∧ x.log < 9223372036854775808 ∧ -9223372036854775808 ≤ x.next ∧ x.next < 9223372036854775808
theorem VerIs.later {w w' : World} {v : Value} {x : Ver} (h : VerIs w v x) (hb : Below w.heap.size w w') : VerIs w' v x := by
  obtain ⟨⟨p, c, e, hA⟩, h2, h3, h4⟩ := h
  exact ⟨⟨p, c, e, hA.below hb⟩, h2, h3, h4⟩
theorem addr_next {b : Addr} {j : Nat} (h : 0 < j) : b.add j = ⟨b.block, b.off + j, none⟩ := by
  unfold Addr.add
  rw [if_neg (by omega)]
/-- a table among tables that lie somewhere, where the walk looks for it -/
theorem tbl_at {w : World} {p : Option Addr} {l : List Tbl} (h : rkT.At w p l) {k : Nat} {t : Tbl} (ht : l[k]? = some t) :
    ∃ a b : Addr, p = some a ∧ a.add (k * 5) = b ∧ b.block < w.heap.size ∧ w.cell? b = some (.int .i64 t.num) ∧ w.cell? ⟨b.block, b.off + 1, none⟩ = some (.int .i64 t.level) ∧ w.cell? ⟨b.block, b.off + 2, none⟩ = some (.int .i64 t.size) ∧ w.cell? ⟨b.block, b.off + 3, none⟩ = some (.string t.first) ∧ w.cell? ⟨b.block, b.off + 4, none⟩ = some (.string t.last) := by
  obtain ⟨a, hp, hl, hc⟩ := h k t ht
  have hn : ∀ j u, 0 < j → (Tbl.cells t)[j]? = some u → w.cell? ⟨(a.add (k * 5)).block, (a.add (k * 5)).off + j, none⟩ = some u := fun j u h0 hu => by
    have := hc j u hu
    rw [← addr_next h0, addK_add]
    exact this
  refine ⟨a, _, hp, rfl, by rw [addK_blk]; exact hl, ?_, hn 1 _ (by decide) rfl, hn 2 _ (by decide) rfl, hn 3 _ (by decide) rfl, hn 4 _ (by decide) rfl⟩
  have := hc 0 _ (show (Tbl.cells t)[0]? = some _ from rfl)
  rw [Nat.add_zero] at this
  exact this
/-- a set of numbers, as a map tells it -/
noncomputable def setf (l : List Int) : Value → Option Value := fun kv => open Classical in if ∃ n ∈ l, kv = .int .i64 n then some (.bool true) else none
theorem setf_nil : setf [] = fun _ => none := by
  funext kv
  unfold setf
  rw [if_neg]
  rintro ⟨n, h, _⟩
  cases h
theorem setf_has {l : List Int} {n : Int} : (setf l (.int .i64 n)).isSome = true ↔ n ∈ l := by
  unfold setf
  constructor
  · intro h
    split at h
    · rename_i hx
      obtain ⟨m, hm, e⟩ := hx
      injection e with _ e
      rw [e]; exact hm
    · cases h
  · intro h
    rw [if_pos ⟨n, h, rfl⟩]; rfl
theorem setf_put (l : List Int) (n : Int) : putV (setf l) (.int .i64 n) (.bool true) = setf (l ++ [n]) := by
  funext kv
  by_cases e : kv = .int .i64 n
  · subst e
    rw [putV_same]
    unfold setf
    rw [if_pos ⟨n, by simp, rfl⟩]
  · rw [putV_other e]
    unfold setf
    by_cases h : ∃ m ∈ l, kv = .int .i64 m
    · obtain ⟨m, hm, hk⟩ := h
      rw [if_pos ⟨m, hm, hk⟩, if_pos ⟨m, by simp [hm], hk⟩]
    · rw [if_neg h, if_neg]
      rintro ⟨m, hm, hk⟩
      rcases List.mem_append.1 hm with hm | hm
      · exact h ⟨m, hm, hk⟩
      · simp at hm; subst hm; exact e hk
theorem keyI : Keyed Tryz.prog 3 := int_keyed Tryz.underlying3
theorem keyI_of {n : Int} (h1 : -9223372036854775808 ≤ n) (h2 : n < 9223372036854775808) : keyOf Tryz.prog 3 (.int .i64 n) = some (.int .i64 n) :=
  keyOf_int_mk Tryz.underlying3 (by
    have e1 : IntKind.i64.min = -9223372036854775808 := by decide
    have e2 : IntKind.i64.max = 9223372036854775807 := by decide
    simp only [Lit.wf, Bool.and_eq_true, decide_eq_true_eq, e1, e2]
    omega)
/-- a set of numbers in memory: n of them -/
def SetAt (w : World) (b n : Nat) (l : List Int) : Prop := MapAt Tryz.prog 3 w b n (setf l) ∧ n ≤ l.length ∧ (n = l.length ↔ l.Nodup)
theorem SetAt.made (w : World) : SetAt (w.alloc (.map #[] 0)) w.heap.size 0 [] := ⟨by rw [setf_nil]; exact MapAt.made _ _ w, Nat.le_refl _, by simp⟩
theorem SetAt.later {w w' : World} {b n : Nat} {l : List Int} (h : SetAt w b n l) (hb : Below w.heap.size w w') : SetAt w' b n l := ⟨h.1.later hb, h.2⟩
theorem SetAt.put {w : World} {b n : Nat} {l : List Int} (h : SetAt w b n l) {k : Int} (h1 : -9223372036854775808 ≤ k) (h2 : k < 9223372036854775808) (hl : l.length ≤ 1000000) :
    ∃ w' n', (Instr.mapUpdate 134 (.map (some b)) (.int .i64 k) (.bool true)).run Tryz.prog w = .ok () w' ∧ SetAt w' b n' (l ++ [k]) ∧ Keeps (fun j => j = b) w w' := by
  obtain ⟨hm, hn, hd⟩ := h
  obtain ⟨w', hr, hm', hk⟩ := hm.put keyI Tryz.underlying134 (by unfold maxLen; omega) (keyI_of h1 h2) (.bool true)
  rw [setf_put] at hm'
  refine ⟨w', _, hr, ⟨hm', ?_, ?_⟩, hk⟩
  · rw [List.length_append]; simp only [List.length_cons, List.length_nil]; split <;> omega
  · rw [List.length_append, List.nodup_append]
    simp only [List.length_cons, List.length_nil]
    by_cases hi : k ∈ l
    · rw [if_pos (setf_has.2 hi)]
      constructor
      · intro e; omega
      · rintro ⟨_, _, h3⟩; exact absurd rfl (h3 k hi k (by simp))
    · rw [if_neg (fun e => hi (setf_has.1 e))]
      constructor
      · intro e
        refine ⟨hd.1 (by omega), by simp, fun a ha b hb e => ?_⟩
        simp at hb
        rw [e, hb] at ha
        exact hi ha
      · rintro ⟨h3, _, _⟩; rw [hd.2 h3]
end Go.Proofs.YtabcdodjkfknlaaGreatDoor
