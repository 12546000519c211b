/- Walk: the reference's Tuple of layer 24. -/
import Derived.Test.YtnbalmnpcdnidaaDoorW16
import Derived.Test.YtnbalmnpcdnidaaDoorSpan
import Derived.Laws.OwnMore
namespace Go.Proofs.YtnbalmnpcdnidaaDoor
open Go.RowKit
theorem info_str : (Tryd.prog.info? 9).map (fun i => (i.zero, i.size, i.bytes)) = some (some (.string ⟨#[]⟩), 1, 16) := by kernel_rfl
/-- what the loop keeps -/
structure SpF (s : ByteArray) (w : World) (j : Nat) (v : Value) (wr : World) : Prop where
  own : wr.ownsRow (w.heap.size + 1) 9 1 v (spF s j).1.length ((spF s j).1.map Value.string)
  res : Blk wr w.heap.size 28 #[.string ⟨#[]⟩, .string ⟨#[]⟩, .string ⟨#[]⟩, .string ⟨#[]⟩, .string ⟨#[]⟩, .string ⟨#[]⟩]
  below : Below w.heap.size w wr
  size : w.heap.size < wr.heap.size
theorem SpF.cut {s : ByteArray} {w wr w1 : World} {j : Nat} {v v' : Value} {o : Obj} {l : List ByteArray} {p : ByteArray} (hF : SpF s w j v wr) (hn : spF s (j + 1) = (l ++ [p], nilB))
    (hown : w1.ownsRow (w.heap.size + 1) 9 1 v' (l.length + 1) (l.map Value.string ++ [.string p])) (hg : (wr.alloc o).grownBy w1 v.ownBlock) : SpF s w (j + 1) v' w1 := by
  have hz := hF.size
  have hne := own_blk_ne hF.own hF.res (by decide)
  refine ⟨?_, (hF.res.alloc o).grown hg (fun e => hne e.symm), (hF.below.alloc (by omega) o).grown hg (by simp; omega) (fun k hk => ?_), ?_⟩
  · rw [hn]; simpa using hown
  · have := hF.own.lt k hk; omega
  · have := hg.size; simp at this; omega
theorem SpF.part {s : ByteArray} {w wr : World} {j : Nat} {v : Value} {l : List ByteArray} {p q : ByteArray} (hF : SpF s w j v wr) (h : spF s j = (l, p)) (hn : spF s (j + 1) = (l, q)) : SpF s w (j + 1) v wr := by
  refine ⟨?_, hF.res, hF.below, hF.size⟩
  have := hF.own
  rw [h] at this
  rw [hn]; exact this
set_option maxHeartbeats 2000000 in
set_option maxRecDepth 100000 in
theorem refTuple_empty (w : World) :
    Calls Tryd.prog 18 #[.string ⟨#[]⟩] w fun e w' => e = .returned (iV ⟨#[]⟩) ∧ Below w.heap.size w w' := by
  rw [iV_nil]
  go_enter Tryd.func18, Tryd.ntmps18
  go_wp2
  refine bodyPost_ret (v := .tuple #[Tup.zero.v, .bool false, .int .i64 9]) (by simp [results, Tryd.results18, go_sem, Tup.zero]) rfl ⟨rfl, ?_⟩
  exact (Below.refl w.heap.size w).alloc (Nat.le_refl _) _
theorem first_of {s : ByteArray} (h : 0 < s.size) (c : UInt8) : begins1 c s = (s[0] == c) := by
  unfold begins1
  have hl : 0 < s.data.toList.length := by rw [← Lib.size_eq]; exact h
  rw [List.head?_eq_getElem?, List.getElem?_eq_getElem hl]
  have e : s.data.toList[0] = s[0] := rfl
  rw [e]
  simp
theorem first_int {s : ByteArray} (h : 0 < s.size) (c : UInt8) : ((s[0].toNat : Int) == (c.toNat : Int)) = begins1 c s := by
  rw [first_of h, Bool.eq_iff_iff, beq_iff_eq, beq_iff_eq]
  exact ⟨fun e => UInt8.toNat_inj.1 (by omega), fun e => by rw [e]⟩
theorem not_empty {s : ByteArray} (h : 0 < s.size) : s.toList.isEmpty = false := by
  have hd := first_of h (s[0])
  rw [beq_self_eq_true] at hd
  rw [Lib.toList_data]
  unfold begins1 at hd
  cases hl : s.data.toList with
  | nil => rw [hl] at hd; simp at hd
  | cons => rfl
theorem rest1_extract (s : ByteArray) : s.extract 1 s.size = rest1 s := by
  apply bytes_ext
  show _ = s.data.toList.drop 1
  rw [Lib.extract_eq]
  simp
  rw [List.take_of_length_le]
  simp
set_option maxHeartbeats 2000000 in
set_option maxRecDepth 100000 in
theorem refTuple_f (s : ByteArray) (w : World) (hs : s.size ≤ 500) (h0 : 0 < s.size) (hb : begins1 102 s = true) :
    Calls Tryd.prog 18 #[.string s] w fun e w' => e = .returned (iV s) ∧ Below w.heap.size w w' := by
  have e0 := not_empty h0
  have e1 : ((s[0].toNat : Int) == 102) = true := (first_int h0 102).trans hb
  have e2 := rest1_extract s
  have hz : (rest1 s).size ≤ maxLen := by
    unfold maxLen
    rw [← e2, ByteArray.size_extract]; omega
  have hV : iV s = if uOk (rest1 s) then .tuple #[(uT (rest1 s)).v, .bool true, .int .i64 0] else .tuple #[Tup.zero.v, .bool false, .int .i64 9] := by
    unfold iV iTup iFwd iErr uTup uErr
    rw [hb]
    cases uOk (rest1 s) <;> rfl
  rw [hV]
  cases hu : uOk (rest1 s)
  · have ev : uV (rest1 s) = .tuple #[Tup.zero.v, .int .i64 9] := by unfold uV; rw [hu]; rfl
    go_enter Tryd.func18, Tryd.ntmps18
    go_wp2_with fail
    refine (refUnkey_calls (rest1 s) _ hz).mono ?_
    rw [ev]
    rintro e w1 ⟨rfl, hb1⟩
    have b := (Blk.new w 28 #[.string ⟨#[]⟩, .string ⟨#[]⟩, .string ⟨#[]⟩, .string ⟨#[]⟩, .string ⟨#[]⟩, .string ⟨#[]⟩]).below hb1 (by simp)
    have B1 := ((Below.refl w.heap.size w).alloc (Nat.le_refl _) _).trans (hb1.mono (by simp))
    have l1 : w.heap.size < w1.heap.size := by have := hb1.size; simp at this; omega
    clear hb1 hV
    have bc := b.cell
    have bf := b.frozen
    unfold Tup.zero
    go_wp2
    refine bodyPost_ret (v := .tuple #[Tup.zero.v, .bool false, .int .i64 9]) (by simp [results, Tryd.results18, go_sem, bc, l1, Tup.zero]) rfl ⟨rfl, ?_⟩
    exact ((((((B1.setCell (by simp) _).setCell (by simp) _).setCell (by simp) _).setCell (by simp) _).setCell (by simp) _).setCell (by simp) _).alloc (by simp [World.setCell]; omega) _
  · have ev : uV (rest1 s) = .tuple #[(uT (rest1 s)).v, .int .i64 0] := by unfold uV; rw [hu]; rfl
    go_enter Tryd.func18, Tryd.ntmps18
    go_wp2_with fail
    refine (refUnkey_calls (rest1 s) _ hz).mono ?_
    rw [ev]
    rintro e w1 ⟨rfl, hb1⟩
    have b := (Blk.new w 28 #[.string ⟨#[]⟩, .string ⟨#[]⟩, .string ⟨#[]⟩, .string ⟨#[]⟩, .string ⟨#[]⟩, .string ⟨#[]⟩]).below hb1 (by simp)
    have B1 := ((Below.refl w.heap.size w).alloc (Nat.le_refl _) _).trans (hb1.mono (by simp))
    have l1 : w.heap.size < w1.heap.size := by have := hb1.size; simp at this; omega
    clear hb1 hV
    have bc := b.cell
    have bf := b.frozen
    go_wp2
    refine bodyPost_ret (v := .tuple #[(uT (rest1 s)).v, .bool true, .int .i64 0]) (by simp [results, Tryd.results18, go_sem, bc, l1]) rfl ⟨rfl, ?_⟩
    exact ((((((B1.setCell (by simp) _).setCell (by simp) _).setCell (by simp) _).setCell (by simp) _).setCell (by simp) _).setCell (by simp) _).alloc (by simp [World.setCell]; omega) _
end Go.Proofs.YtnbalmnpcdnidaaDoor
