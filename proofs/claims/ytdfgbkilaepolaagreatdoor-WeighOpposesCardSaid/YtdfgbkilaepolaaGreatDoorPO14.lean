/- Walk: conditions: the document's Same. The writer of a condition's text: its bytes, in memory; WriteString, WriteByte, Len, String. Walks: the writer of a condition's text: WriteByte, Len. Walks: conditions: rank, unlike. Walks: conditions: what right asks: a byte, a kind among parts. -/
import Derived.Test.YtdfgbkilaepolaaGreatDoorPO12
import Derived.Deep.RegionHeld3
import Derived.Lib.AppendStr
import Derived.Lib.Builder
namespace Go.Proofs.YtdfgbkilaepolaaGreatDoor
open Go.RowKit
abbrev SameSaid (w : World) (r1 r2 : CT) (e : Ending) (w' : World) : Prop := ∃ b : Bool, e = .returned (.bool b) ∧ (b = true ↔ r1 = r2) ∧ Below w.heap.size w w'
/-- all that lay in wr reads as it did -/
abbrev Kept (wr w' : World) : Prop := (∀ q i, q < wr.heap.size → w'.cell? ⟨q, i, none⟩ = wr.cell? ⟨q, i, none⟩) ∧ Below wr.heap.size wr w'
end Go.Proofs.YtdfgbkilaepolaaGreatDoor
namespace Go.Proofs.YtdfgbkilaepolaaGreatDoor
open Go.RowKit
attribute [local go_sem ↓] dapp_op
abbrev TB : TypeId := 5
/-- a writer in block b, its bytes l; its row is its own, from B on -/
def WrAt (B b : Nat) (w : World) (l : List UInt8) (deep : Int) (bad : Bool) : Prop := B ≤ b ∧ ∃ p v, (p = .pointer none ∨ p = .pointer (some ⟨b, 0, none⟩)) ∧ Blk w b 92 #[p, v, .int .i64 deep, .bool bad] ∧ w.ownsRow B 5 1 v l.length (Lib.byteCells l)
/-- what a write may turn -/
def WKeeps (B b : Nat) (w w' : World) : Prop := Keeps (fun j => B ≤ j ∧ (j = b ∨ ∃ cs, Blk w j 5 cs)) w w'
section
variable {B b : Nat} {w w' w'' : World}
theorem WKeeps.refl (B b : Nat) (w : World) : WKeeps B b w w := Keeps.refl _ _
theorem WKeeps.trans (h : WKeeps B b w w') (h' : WKeeps B b w' w'') : WKeeps B b w w'' := by
  refine ⟨h'.os.trans h.os, h'.tape.trans h.tape, h'.output.trans h.output, Nat.le_trans h.size h'.size, fun k hk hs => ?_⟩
  have e := h.block k hk hs
  refine (h'.block k (Nat.lt_of_lt_of_le hk h.size) fun hs' => hs ⟨hs'.1, hs'.2.imp id ?_⟩).trans e
  rintro ⟨cs, hb⟩
  exact ⟨cs, e.symm.trans hb⟩
theorem WKeeps.of_below (h : Below w.heap.size w w') : WKeeps B b w w' := Keeps.of_below h
theorem WKeeps.below (h : WKeeps B b w w') (hB : B ≤ w.heap.size) : Below B w w' := Keeps.below h (fun _ _ e => e.1) hB
theorem Blk.wkeeps {g : Nat} {T : TypeId} {cs : Array Value} (h : Blk w g T cs) (hk : WKeeps B b w w') (hT : T ≠ 5) (hg : g ≠ b) : Blk w' g T cs :=
  h.keeps hk fun e => by
    rcases e.2 with e | ⟨cs', hb⟩
    · exact hg e
    · exact h.ne_ hb hT rfl
theorem WrAt.lt {l : List UInt8} {deep : Int} {bad : Bool} (h : WrAt B b w l deep bad) : b < w.heap.size := by
  obtain ⟨_, p, v, _, hb, _⟩ := h
  exact hb.lt
theorem WrAt.later {l : List UInt8} {deep : Int} {bad : Bool} (h : WrAt B b w l deep bad) (hb : Below w.heap.size w w') : WrAt B b w' l deep bad := by
  obtain ⟨h1, p, v, h2, h3, h4⟩ := h
  exact ⟨h1, p, v, h2, h3.below hb h3.lt, own_keeps (S := fun _ => False) h4 (.of_below hb) fun _ _ => id⟩
/-- the flag turned; the depth turned -/
theorem WrAt.cell_ {l : List UInt8} {deep d' : Int} {bad b' : Bool} {i : Nat} {u : Value} (h : WrAt B b w l deep bad) (hu : ∀ p v, (#[p, v, .int .i64 deep, .bool bad] : Array Value).setIfInBounds i u = #[p, v, .int .i64 d', .bool b']) : WrAt B b (w.setCell ⟨b, i, none⟩ u) l d' b' ∧ WKeeps B b w (w.setCell ⟨b, i, none⟩ u) := by
  obtain ⟨h1, p, v, h2, h3, h4⟩ := h
  have hk : Keeps (fun j => j = b) w (w.setCell ⟨b, i, none⟩ u) := (Keeps.refl (fun j => j = b) w).setCell (p := ⟨b, i, none⟩) (.inl rfl) _
  refine ⟨⟨h1, p, v, h2, by rw [← hu p v]; exact h3.set_ i u, own_keeps h4 hk fun g hg e => ?_⟩, hk.mono fun j _ e => ⟨by omega, .inl e⟩⟩
  obtain ⟨c, hb⟩ := own_blk h4 g hg
  exact hb.ne_ h3 (by decide) e
theorem WrAt.bad_ {l : List UInt8} {deep : Int} {bad : Bool} (h : WrAt B b w l deep bad) (o : Bool) : WrAt B b (w.setCell ⟨b, 3, none⟩ (.bool o)) l deep o ∧ WKeeps B b w (w.setCell ⟨b, 3, none⟩ (.bool o)) := h.cell_ fun _ _ => rfl
theorem WrAt.deep_ {l : List UInt8} {deep : Int} {bad : Bool} (h : WrAt B b w l deep bad) (d : Int) : WrAt B b (w.setCell ⟨b, 2, none⟩ (.int .i64 d)) l d bad ∧ WKeeps B b w (w.setCell ⟨b, 2, none⟩ (.int .i64 d)) := h.cell_ fun _ _ => rfl
theorem WrAt.flag {l : List UInt8} {deep : Int} {bad : Bool} (h : WrAt B b w l deep bad) : w.cell? ⟨b, 2, none⟩ = some (.int .i64 deep) ∧ w.cell? ⟨b, 3, none⟩ = some (.bool bad) ∧ ∀ i, w.frozen? ⟨b, i, none⟩ = false := by
  obtain ⟨h1, p, v, h2, h3, h4⟩ := h
  exact ⟨by rw [h3.cell]; rfl, by rw [h3.cell]; rfl, h3.frozen⟩
end
theorem strC (s : ByteArray) : Lib.strCells s = Lib.byteCells s.data.toList := rfl
theorem info_u8 : (Tryz.prog.info? 5).map (fun i => (i.zero, i.size, i.bytes)) = some (some (.int .u8 0), 1, 1) := by kernel_rfl
theorem lies_wr : liesAt Tryz.prog Tryz.prog.depth 92 (4 / Tryz.prog.cellsOf 92) 0 90 1 = true := by kernel_rfl
theorem size_bd : (Tryz.prog.info? 90).map (·.size) = some 2 := by kernel_rfl
set_option maxHeartbeats 1000000 in
set_option maxRecDepth 100000 in
theorem copyCheck_used (b : Nat) (w : World) (h0 : w.cell? ⟨b, 0, none⟩ = some (.pointer (some ⟨b, 0, none⟩))) :
    Calls Tryz.prog 99 #[.pointer (some ⟨b, 0, none⟩)] w fun e w' => e = .returned (.tuple #[]) ∧ w = w' := by
  obtain ⟨j, hj, _⟩ := Option.map_eq_some_iff.1 size_bd
  go_enter Tryz.func99, Tryz.ntmps99
  go_wp2
  rw [Lib.run_neq_ptr_same w _ Tryz.underlying87 hj]
  go_wp2
  go_end0
  exact ⟨rfl, rfl⟩
set_option maxHeartbeats 1000000 in
set_option maxRecDepth 100000 in
theorem copyCheck_fresh (b : Nat) (w : World) (h0 : w.cell? ⟨b, 0, none⟩ = some (.pointer none)) (hsh : w.shape? b = some (92, 4)) (hfz : w.frozen? ⟨b, 0, none⟩ = false) :
    Calls Tryz.prog 99 #[.pointer (some ⟨b, 0, none⟩)] w fun e w' => e = .returned (.tuple #[]) ∧ w.setCell ⟨b, 0, none⟩ (.pointer (some ⟨b, 0, none⟩)) = w' := by
  obtain ⟨j, hj, hjs⟩ := Option.map_eq_some_iff.1 size_bd
  go_enter Tryz.func99, Tryz.ntmps99
  go_wp2
  rw [Lib.run_to_unsafe w ⟨b, 0, none⟩ Tryz.underlying87 Tryz.underlying145 hj (by rw [hjs]; decide) hsh (Nat.zero_lt_succ 3)]
  simp only [Result.andThen]
  rw [Oper.upon_value]
  go_wp2
  rw [run_callFunc_extern Tryz.func119 (by kernel_rfl) (by kernel_rfl) (by kernel_rfl) (e := Extern.AbiNoEscape.same) (by kernel_rfl)]
  rw [Lib.run_noEscape]
  simp only [Result.andThen]
  rw [Oper.upon_value]
  go_wp2
  rw [Lib.run_from_unsafe w ⟨b, 0, none⟩ Tryz.underlying145 Tryz.underlying87 hj hsh lies_wr]
  simp only [Result.andThen]
  rw [Oper.upon_value]
  go_wp2
  go_end0
  exact ⟨rfl, rfl⟩
/-- a string put behind the writer's bytes -/
theorem run_put {B : Nat} {w : World} {v : Value} {l : List UInt8} (h : w.ownsRow B 5 1 v l.length (Lib.byteCells l)) (s : ByteArray) (hl : l.length + s.size ≤ 1000000000) (hB : B ≤ w.heap.size) :
    ∃ p c w', (dappOp #[88, 9] 88 #[v, .string s]).run Tryz.prog w = .ok (.slice p (l.length + s.size) c) w' ∧ w'.ownsRow B 5 1 (.slice p (l.length + s.size) c) (l ++ s.data.toList).length (Lib.byteCells (l ++ s.data.toList)) ∧ w.grownBy w' v.ownBlock := by
  obtain ⟨i0, hi, hz0, hz1, hz2⟩ := info_parts info_u8
  obtain ⟨v', w', h2, h3, h4, _⟩ := Lib.run_append_own_string (P := Tryz.prog) w B 88 9 88 5 i0 Tryz.underlying88 Tryz.underlying9 hi hz0 hz1 hz2 v l.length _ h s (by unfold maxLen; omega) (by omega)
    hB
  obtain ⟨p, c, rfl⟩ := own_slice h3
  refine ⟨p, c, w', h2, ?_, h4⟩
  rw [strC] at h3
  have e : Lib.byteCells (l ++ s.data.toList) = Lib.byteCells l ++ Lib.byteCells s.data.toList := by unfold Lib.byteCells; rw [List.map_append]
  rw [e, List.length_append, ← Lib.size_eq]
  exact h3
set_option maxHeartbeats 2000000 in
set_option maxRecDepth 100000 in
theorem wstr_calls (B b : Nat) (w : World) (l : List UInt8) (deep : Int) (bad : Bool) (s : ByteArray) (h : WrAt B b w l deep bad) (hl : l.length + s.size ≤ 1000000000) (hB : B ≤ w.heap.size) :
    Calls Tryz.prog 96 #[.pointer (some ⟨b, 0, none⟩), .string s] w fun e w' => e = .returned (.tuple #[.int .i64 s.size, .nilIface]) ∧ WrAt B b w' (l ++ s.data.toList) deep bad ∧ WKeeps B b w w' := by
  obtain ⟨h1, p, v, h2, h3, h4⟩ := h
  -- behind copyCheck
  have hC : Calls Tryz.prog 99 #[.pointer (some ⟨b, 0, none⟩)] w fun e w' => e = .returned (.tuple #[]) ∧ Blk w' b 92 #[.pointer (some ⟨b, 0, none⟩), v, .int .i64 deep, .bool bad] ∧ w'.ownsRow B 5 1 v l.length (Lib.byteCells l) ∧ Keeps (fun j => j = b) w w' := by
    rcases h2 with rfl | rfl
    · have hsh : w.shape? b = some (92, 4) := by
        have hb : w.heap[b]? = some (.cells #[.pointer none, v, .int .i64 deep, .bool bad] 92 (0, 0)) := h3
        simp [World.shape?, hb]
      refine (copyCheck_fresh b w (by rw [h3.cell]; rfl) hsh (h3.frozen 0)).mono ?_
      rintro e w' ⟨rfl, rfl⟩
      have hk : Keeps (fun j => j = b) w (w.setCell ⟨b, 0, none⟩ (.pointer (some ⟨b, 0, none⟩))) := (Keeps.refl (fun j => j = b) w).setCell (p := ⟨b, 0, none⟩) (.inl rfl) _
      refine ⟨rfl, h3.set_ 0 _, own_keeps h4 hk fun g hg e => ?_, hk⟩
      obtain ⟨c, hb⟩ := own_blk h4 g hg
      exact hb.ne_ h3 (by decide) e
    · refine (copyCheck_used b w (by rw [h3.cell]; rfl)).mono ?_
      rintro e w' ⟨rfl, rfl⟩
      exact ⟨rfl, h3, h4, Keeps.refl _ _⟩
  have hC' := Lib.hid hC
  have h3l := h3.lt
  have hbne : ∀ g, v.ownBlock = some g → g ≠ b := fun g hg => by
    obtain ⟨c, hb⟩ := own_blk h4 g hg
    exact hb.ne_ h3 (by decide)
  have hu8 : ∀ g, v.ownBlock = some g → B ≤ g ∧ ∃ cs, Blk w g 5 cs := fun g hg => ⟨(h4.lt g hg).1, own_blk h4 g hg⟩
  clear hC h2 h3 h4
  go_enter Tryz.func96, Tryz.ntmps96
  go_wp2_with fail
  refine hC'.out.mono ?_
  rintro e w1 ⟨rfl, h3, h4, k1⟩
  have z1 := k1.size
  obtain ⟨p2, c2, w2, e2, own2, g2⟩ := run_put h4 s hl (by omega)
  have c1 := h3.cell
  have b2 : Blk w2 b 92 #[.pointer (some ⟨b, 0, none⟩), v, .int .i64 deep, .bool bad] := h3.grown g2 fun e => hbne b e.symm rfl
  have c2c := b2.cell
  have c2f := b2.frozen
  have k2 : Keeps (fun j => j = b ∨ v.ownBlock = some j) w w2 := (k1.mono fun j _ e => .inl e).grown g2 fun k e => .inl (.inr e)
  have k3 : Keeps (fun j => j = b ∨ v.ownBlock = some j) w (w2.setCell ⟨b, 1, none⟩ (.slice p2 (l.length + s.size) c2)) := k2.setCell (p := ⟨b, 1, none⟩) (.inl (.inl rfl)) _
  have hk2b : Keeps (fun j => j = b) w2 (w2.setCell ⟨b, 1, none⟩ (.slice p2 (l.length + s.size) c2)) := (Keeps.refl (fun j => j = b) w2).setCell (p := ⟨b, 1, none⟩) (.inl rfl) _
  have own3 := own_keeps own2 hk2b fun g hg e => by
    obtain ⟨c, hb⟩ := own_blk own2 g hg
    exact hb.ne_ b2 (by decide) e
  have hfin : WrAt B b (w2.setCell ⟨b, 1, none⟩ (.slice p2 (l.length + s.size) c2)) (l ++ s.data.toList) deep bad ∧ WKeeps B b w (w2.setCell ⟨b, 1, none⟩ (.slice p2 (l.length + s.size) c2)) := by
    refine ⟨⟨h1, _, _, .inr rfl, b2.set_ 1 _, own3⟩, k3.mono fun j _ e => ?_⟩
    rcases e with e | e
    · exact ⟨by omega, .inl e⟩
    · exact ⟨(hu8 j e).1, .inr (hu8 j e).2⟩
  have hfin' := Lib.hid hfin
  obtain ⟨pv, cv, rfl⟩ := own_slice h4
  have b2l := b2.lt
  clear hfin own3 hk2b k3 k2 b2 g2 own2 h3 h4 k1 hu8 hbne
  go_wp2_with fail
  go_ret2
  exact ⟨rfl, hfin'.out⟩
theorem cellsByte : Tryz.prog.cellsOf 5 = 1 := by kernel_rfl
set_option maxHeartbeats 2000000 in
set_option maxRecDepth 100000 in
theorem string_some (B b : Nat) (p : Value) (deep : Int) (bad : Bool) (l : List UInt8) (w : World) (g cap : Nat) (cur : Array Value) (h0 : l ≠ []) (hbk : Blk w b 92 #[p, .slice (some ⟨g, 0, none⟩) l.length cap, .int .i64 deep, .bool bad]) (hg : w.heap[g]? = some (.cells cur 5 (0, 0))) (hbg : B ≤ g) (hnc : l.length ≤ cap) (hcm : cap ≤ maxLen) (hcs : cur.size = cap * 1) (hcell : ∀ (j : Nat) x, l[j]? = some x → w.cell? ((⟨g, 0, none⟩ : Addr).add j) = some (.int .u8 x.toNat)) :
    Calls Tryz.prog 52 #[.pointer (some ⟨b, 0, none⟩)] w fun e w' => e = .returned (.string ⟨l.toArray⟩) ∧ Below B w w' := by
  have hl0 : l.length ≠ 0 := by simpa using h0
  have c1 : w.drew.cell? ⟨b, 1, none⟩ = some (.slice (some ⟨g, 0, none⟩) l.length cap) := by
    show w.cell? _ = _
    rw [hbk.cell]; rfl
  have hSD : (Builtin.unsafeSliceData_ #[88] 117 #[.slice (some ⟨g, 0, none⟩) l.length cap]).run Tryz.prog w.drew = .ok (.pointer (some ⟨g, 0, none⟩)) w.drew :=
    Lib.run_unsafeSliceData_row _ _ _ _ _ _ (by omega)
  have hUS : (Builtin.unsafeString_ #[117, 3] 9 #[.pointer (some ⟨g, 0, none⟩), .int .i64 l.length]).run Tryz.prog w.drew = .ok (.string ⟨l.toArray⟩) (w.drew.freeze ⟨g, 0, none⟩ l.length) := by
    refine Lib.run_unsafeString_row w.drew 117 3 9 5 Tryz.underlying117 cellsByte g cur.size (by have hg' : w.drew.heap[g]? = some (.cells cur 5 (0, 0)) := hg; simp [World.shape?, hg']) l h0 (by omega) (by unfold maxLen at hcm; omega) ?_
    intro j x hx
    exact hcell j x hx
  clear hcell hg hbk
  go_enter Tryz.func52, Tryz.ntmps52
  go_wp2
  go_region
  all_goals (go_wp2; go_ret; exact ⟨rfl, Lib.below_freeze (Below.drew (Below.refl B w)) (p := ⟨g, 0, none⟩) hbg _⟩)
theorem unsafeString_none (W : World) (q : Option Addr) : (Builtin.unsafeString_ #[117, 3] 9 #[.pointer q, .int .i64 0]).run Tryz.prog W = .ok (.string .empty) W := Lib.run_unsafeString_none W _ _ _ q
set_option maxHeartbeats 2000000 in
set_option maxRecDepth 100000 in
theorem string_nil (B b : Nat) (p : Value) (deep : Int) (bad : Bool) (w : World) (hbk : Blk w b 92 #[p, .slice none 0 0, .int .i64 deep, .bool bad]) :
    Calls Tryz.prog 52 #[.pointer (some ⟨b, 0, none⟩)] w fun e w' => e = .returned (.string ⟨#[]⟩) ∧ Below B w w' := by
  have hUS := unsafeString_none
  have c1 : w.drew.cell? ⟨b, 1, none⟩ = some (.slice none 0 0) := by
    show w.cell? _ = _
    rw [hbk.cell]; rfl
  have hSD : (Builtin.unsafeSliceData_ #[88] 117 #[.slice none 0 0]).run Tryz.prog w.drew = .ok (.pointer none) w.drew := rfl
  clear hbk
  go_enter Tryz.func52, Tryz.ntmps52
  go_wp2
  go_region
  all_goals (go_wp2; go_ret; exact ⟨rfl, Below.drew (Below.refl B w)⟩)
set_option maxHeartbeats 2000000 in
set_option maxRecDepth 100000 in
theorem string_room (B b g cap : Nat) (p : Value) (deep : Int) (bad : Bool) (w : World) (hc0 : cap ≠ 0) (hbk : Blk w b 92 #[p, .slice (some ⟨g, 0, none⟩) 0 cap, .int .i64 deep, .bool bad]) :
    Calls Tryz.prog 52 #[.pointer (some ⟨b, 0, none⟩)] w fun e w' => e = .returned (.string ⟨#[]⟩) ∧ Below B w w' := by
  have hUS := unsafeString_none
  have c1 : w.drew.cell? ⟨b, 1, none⟩ = some (.slice (some ⟨g, 0, none⟩) 0 cap) := by
    show w.cell? _ = _
    rw [hbk.cell]; rfl
  have hSD : (Builtin.unsafeSliceData_ #[88] 117 #[.slice (some ⟨g, 0, none⟩) 0 cap]).run Tryz.prog w.drew = .ok (.pointer (some ⟨g, 0, none⟩)) w.drew :=
    Lib.run_unsafeSliceData_row _ _ _ _ _ _ hc0
  clear hc0 hbk
  go_enter Tryz.func52, Tryz.ntmps52
  go_wp2
  go_region
  all_goals (go_wp2; go_ret; exact ⟨rfl, Below.drew (Below.refl B w)⟩)
set_option maxHeartbeats 2000000 in
set_option maxRecDepth 100000 in
theorem string_noroom (B b g : Nat) (p : Value) (deep : Int) (bad : Bool) (cur : Array Value) (w : World) (hBw : B ≤ w.heap.size) (hbk : Blk w b 92 #[p, .slice (some ⟨g, 0, none⟩) 0 0, .int .i64 deep, .bool bad]) (hg : w.heap[g]? = some (.cells cur 5 (0, 0))) :
    Calls Tryz.prog 52 #[.pointer (some ⟨b, 0, none⟩)] w fun e w' => e = .returned (.string ⟨#[]⟩) ∧ Below B w w' := by
  have hUS := unsafeString_none
  have c1 : w.drew.cell? ⟨b, 1, none⟩ = some (.slice (some ⟨g, 0, none⟩) 0 0) := by
    show w.cell? _ = _
    rw [hbk.cell]; rfl
  have hSD : (Builtin.unsafeSliceData_ #[88] 117 #[.slice (some ⟨g, 0, none⟩) 0 0]).run Tryz.prog w.drew = .ok (.pointer (some ⟨w.drew.heap.size, 0, none⟩)) (w.drew.alloc (.view ⟨g, 0, none⟩ 5)) :=
    Lib.run_unsafeSliceData_zero w.drew _ _ 5 Tryz.underlying117 ⟨g, 0, none⟩ 0 (5, cur.size) (by have hg' : w.drew.heap[g]? = some (.cells cur 5 (0, 0)) := hg; simp [World.shape?, hg'])
  have c2 : (w.drew.alloc (.view ⟨g, 0, none⟩ 5)).cell? ⟨b, 1, none⟩ = some (.slice (some ⟨g, 0, none⟩) 0 0) := by
    have h := ((Below.refl w.drew.heap.size w.drew).alloc (Nat.le_refl _) (.view ⟨g, 0, none⟩ 5)).cell (p := ⟨b, 1, none⟩) hbk.lt
    rw [h]; exact c1
  have c3 : (w.alloc (.view ⟨g, 0, none⟩ 5)).drew.cell? ⟨b, 1, none⟩ = some (.slice (some ⟨g, 0, none⟩) 0 0) := c2
  have c0 : w.cell? ⟨b, 1, none⟩ = some (.slice (some ⟨g, 0, none⟩) 0 0) := c1
  clear hbk hg
  go_enter Tryz.func52, Tryz.ntmps52
  go_wp2
  go_region
  all_goals (go_wp2; go_ret; exact ⟨rfl, (Below.drew (Below.refl B w)).alloc hBw _⟩)
theorem string_calls (B b : Nat) (w : World) (l : List UInt8) (deep : Int) (bad : Bool) (h : WrAt B b w l deep bad) (hB : B ≤ w.heap.size) :
    Calls Tryz.prog 52 #[.pointer (some ⟨b, 0, none⟩)] w fun e w' => e = .returned (.string ⟨l.toArray⟩) ∧ Below B w w' := by
  obtain ⟨h1, p, v, h2, h3, h4⟩ := h
  rcases h4.2 with ⟨rfl, hz⟩ | ⟨g, cap, cur, rfl, hbg, hg, hnc, hcm, hcs, htake⟩
  · obtain rfl : l = [] := List.eq_nil_of_length_eq_zero hz
    exact string_nil B b p deep bad w h3
  · by_cases h0 : l = []
    · subst h0
      by_cases hc0 : cap = 0
      · subst hc0
        exact string_noroom B b g p deep bad cur w hB h3 hg
      · exact string_room B b g cap p deep bad w hc0 h3
    · refine string_some B b p deep bad l w g cap cur h0 h3 hg hbg hnc hcm hcs fun j x hx => ?_
      exact h4.cells (g := g) rfl j (.int .u8 x.toNat) (by simp [Lib.byteCells, hx])
end Go.Proofs.YtdfgbkilaepolaaGreatDoor
namespace Go.Proofs.YtdfgbkilaepolaaGreatDoor
open Go.RowKit
attribute [local go_sem ↓] dapp_op
/-- a byte put behind the writer's bytes -/
theorem run_putb {B : Nat} {w : World} {v : Value} {l : List UInt8} (h : w.ownsRow B 5 1 v l.length (Lib.byteCells l)) (c : UInt8) {q : Nat} (hq : Blk w q 5 #[.int .u8 (c.toNat : Int)]) (hl : l.length + 1 ≤ 1000000000) (hB : B ≤ w.heap.size) :
    ∃ p k w', (dappOp #[88, 88] 88 #[v, .slice (some ⟨q, 0, none⟩) 1 1]).run Tryz.prog w = .ok (.slice p (l.length + 1) k) w' ∧ w'.ownsRow B 5 1 (.slice p (l.length + 1) k) (l ++ [c]).length (Lib.byteCells (l ++ [c])) ∧ w.grownBy w' v.ownBlock := by
  obtain ⟨i0, hi, hz0, hz1, hz2⟩ := info_parts info_u8
  obtain ⟨v', w', h2, h3, h4, _, _⟩ := run_append_own_at (P := Tryz.prog) w B 88 88 5 i0 (.int .u8 0) 1 1 Tryz.underlying88 hi hz0 hz1 hz2 rfl (by decide) v l.length _ h ⟨q, 0, none⟩ 1 1 [.int .u8 (c.toNat : Int)] rfl (by
      intro j u hj
      rw [addr_at, hq.cell j]
      simpa using hj) (by intro u hu; simp at hu; subst hu; rfl) (by unfold maxLen; omega) (by omega) hB
  obtain ⟨p, k, rfl⟩ := own_slice h3
  refine ⟨p, k, w', h2, ?_, h4⟩
  have e : Lib.byteCells (l ++ [c]) = Lib.byteCells l ++ [.int .u8 (c.toNat : Int)] := by unfold Lib.byteCells; rw [List.map_append]; rfl
  rw [e, List.length_append]
  exact h3
set_option maxHeartbeats 2000000 in
set_option maxRecDepth 100000 in
theorem wbyte_calls (B b : Nat) (w : World) (l : List UInt8) (deep : Int) (bad : Bool) (ch : UInt8) (h : WrAt B b w l deep bad) (hl : l.length + 1 ≤ 1000000000) (hB : B ≤ w.heap.size) :
    Calls Tryz.prog 75 #[.pointer (some ⟨b, 0, none⟩), .int .u8 (ch.toNat : Int)] w fun e w' => e = .returned .nilIface ∧ WrAt B b w' (l ++ [ch]) deep bad ∧ WKeeps B b w w' := by
  obtain ⟨h1, p, v, h2, h3, h4⟩ := h
  have hC : Calls Tryz.prog 99 #[.pointer (some ⟨b, 0, none⟩)] w fun e w' => e = .returned (.tuple #[]) ∧ Blk w' b 92 #[.pointer (some ⟨b, 0, none⟩), v, .int .i64 deep, .bool bad] ∧ w'.ownsRow B 5 1 v l.length (Lib.byteCells l) ∧ Keeps (fun j => j = b) w w' := by
    rcases h2 with rfl | rfl
    · have hsh : w.shape? b = some (92, 4) := by
        have hb : w.heap[b]? = some (.cells #[.pointer none, v, .int .i64 deep, .bool bad] 92 (0, 0)) := h3
        simp [World.shape?, hb]
      refine (copyCheck_fresh b w (by rw [h3.cell]; rfl) hsh (h3.frozen 0)).mono ?_
      rintro e w' ⟨rfl, rfl⟩
      have hk : Keeps (fun j => j = b) w (w.setCell ⟨b, 0, none⟩ (.pointer (some ⟨b, 0, none⟩))) := (Keeps.refl (fun j => j = b) w).setCell (p := ⟨b, 0, none⟩) (.inl rfl) _
      refine ⟨rfl, h3.set_ 0 _, own_keeps h4 hk fun g hg e => ?_, hk⟩
      obtain ⟨c, hb⟩ := own_blk h4 g hg
      exact hb.ne_ h3 (by decide) e
    · refine (copyCheck_used b w (by rw [h3.cell]; rfl)).mono ?_
      rintro e w' ⟨rfl, rfl⟩
      exact ⟨rfl, h3, h4, Keeps.refl _ _⟩
  have hC' := Lib.hid hC
  have h3l := h3.lt
  have hbne : ∀ g, v.ownBlock = some g → g ≠ b := fun g hg => by
    obtain ⟨c, hb⟩ := own_blk h4 g hg
    exact hb.ne_ h3 (by decide)
  have hu8 : ∀ g, v.ownBlock = some g → B ≤ g ∧ ∃ cs, Blk w g 5 cs := fun g hg => ⟨(h4.lt g hg).1, own_blk h4 g hg⟩
  clear hC h2 h3 h4
  go_enter Tryz.func75, Tryz.ntmps75
  go_wp2_with fail
  refine hC'.out.mono ?_
  rintro e w1 ⟨rfl, h3, h4, k1⟩
  have z1 := k1.size
  have ka := (Keeps.refl (fun _ => False) w1).alloc (.cells #[.int .u8 (ch.toNat : Int)] 5)
  have hq := Blk.new w1 5 #[.int .u8 (ch.toNat : Int)]
  have hza := alloc_size w1 (.cells #[.int .u8 (ch.toNat : Int)] 5)
  obtain ⟨p2, c2, w2, e2, own2, g2⟩ := run_putb (own_keeps h4 ka fun _ _ => id) ch hq hl (by rw [hza]; omega)
  have c1 := h3.cell
  have b2 : Blk w2 b 92 #[.pointer (some ⟨b, 0, none⟩), v, .int .i64 deep, .bool bad] := (h3.keeps ka id).grown g2 fun e => hbne b e.symm rfl
  have c2c := b2.cell
  have c2f := b2.frozen
  have k2 : Keeps (fun j => j = b ∨ v.ownBlock = some j) w w2 := ((k1.mono fun j _ e => .inl e).trans (ka.mono fun _ _ e => e.elim)).grown g2 fun k e => .inl (.inr e)
  have k3 : Keeps (fun j => j = b ∨ v.ownBlock = some j) w (w2.setCell ⟨b, 1, none⟩ (.slice p2 (l.length + 1) c2)) := k2.setCell (p := ⟨b, 1, none⟩) (.inl (.inl rfl)) _
  have hk2b : Keeps (fun j => j = b) w2 (w2.setCell ⟨b, 1, none⟩ (.slice p2 (l.length + 1) c2)) := (Keeps.refl (fun j => j = b) w2).setCell (p := ⟨b, 1, none⟩) (.inl rfl) _
  have own3 := own_keeps own2 hk2b fun g hg e => by
    obtain ⟨c, hb⟩ := own_blk own2 g hg
    exact hb.ne_ b2 (by decide) e
  have hfin : WrAt B b (w2.setCell ⟨b, 1, none⟩ (.slice p2 (l.length + 1) c2)) (l ++ [ch]) deep bad ∧ WKeeps B b w (w2.setCell ⟨b, 1, none⟩ (.slice p2 (l.length + 1) c2)) := by
    refine ⟨⟨h1, _, _, .inr rfl, b2.set_ 1 _, own3⟩, k3.mono fun j _ e => ?_⟩
    rcases e with e | e
    · exact ⟨by omega, .inl e⟩
    · exact ⟨(hu8 j e).1, .inr (hu8 j e).2⟩
  have hfin' := Lib.hid hfin
  obtain ⟨pv, cv, rfl⟩ := own_slice h4
  have b2l := b2.lt
  clear hfin own3 hk2b k3 k2 b2 g2 own2 h3 h4 k1 hu8 hbne hq ka hza
  go_wp2_with fail
  go_ret
  exact ⟨rfl, hfin'.out⟩
theorem wlen_calls (B b : Nat) (w : World) (l : List UInt8) (deep : Int) (bad : Bool) (h : WrAt B b w l deep bad) :
    Calls Tryz.prog 51 #[.pointer (some ⟨b, 0, none⟩)] w fun e w' => e = .returned (.int .i64 l.length) ∧ w = w' := by
  obtain ⟨h1, p, v, h2, h3, h4⟩ := h
  obtain ⟨pv, cv, rfl⟩ := own_slice h4
  have c := h3.cell
  clear h2 h3 h4
  go_enter Tryz.func51, Tryz.ntmps51
  go_wp2_with fail
  go_ret
  exact ⟨rfl, rfl⟩
end Go.Proofs.YtdfgbkilaepolaaGreatDoor
namespace Go.Proofs.YtdfgbkilaepolaaGreatDoor
open Go.RowKit
set_option maxHeartbeats 4000000 in
theorem rank_calls (r : CT) (cs : List Value) (w : World) (hR : CV w cs r) : Calls Tryz.prog 73 #[.agg cs.toArray] w fun e w' => e = .returned (.int .i64 (rankC r)) ∧ Below w.heap.size w w' := by
  obtain ⟨k, m, a, p, c, ds, rfl, hq, hrow, hlen, hp⟩ := hR.form
  have hmax := hrow.1
  unfold maxLen at hmax
  have bx := Blk.new w 28 #[.int .i64 k, .int .i64 m, .string a, .slice p r.parts.length c]
  have hb := (Below.refl w.heap.size w).alloc (Nat.le_refl _) (.cells #[.int .i64 k, .int .i64 m, .string a, .slice p r.parts.length c] 28)
  obtain ⟨W, eW⟩ : ∃ W, w.alloc (.cells #[.int .i64 k, .int .i64 m, .string a, .slice p r.parts.length c] 28) = W := ⟨_, rfl⟩
  rw [eW] at bx hb
  have bxc := bx.cell
  have hb' := Lib.hid hb
  have hrow' := Lib.hid (hrow.below hb)
  have hp' := Lib.hid (fun i q h => (hp i q h).later hb)
  have hq' := Lib.hid hq
  have hkk : Hid (r.kind = k) := Lib.hid (by rw [hq]; rfl)
  clear hrow hp hq hb bx hR
  by_cases h8 : k = 8
  · subst h8
    have hv : Hid (rankC r = 1) := Lib.hid (by unfold rankC; rw [hkk.out]; rfl)
    go_enter Tryz.func73, Tryz.ntmps73
    go_wp2_with fail
    go_ret
    exact ⟨by rw [hv.out]; rfl, hb'.out⟩
  by_cases h7 : k = 7
  · subst h7
    have hv : Hid (rankC r = 2) := Lib.hid (by unfold rankC; rw [hkk.out]; rfl)
    go_enter Tryz.func73, Tryz.ntmps73
    go_wp2_with fail
    go_ret
    exact ⟨by rw [hv.out]; rfl, hb'.out⟩
  by_cases h9 : k = 9
  · subst h9
    have hv : Hid (rankC r = 4) := Lib.hid (by unfold rankC; rw [hkk.out]; rfl)
    go_enter Tryz.func73, Tryz.ntmps73
    go_wp2_with fail
    go_ret
    exact ⟨by rw [hv.out]; rfl, hb'.out⟩
  by_cases h10 : k = 10
  · subst h10
    have hv : Hid (rankC r = 4) := Lib.hid (by unfold rankC; rw [hkk.out]; rfl)
    go_enter Tryz.func73, Tryz.ntmps73
    go_wp2_with fail
    go_ret
    exact ⟨by rw [hv.out]; rfl, hb'.out⟩
  by_cases h11 : k = 11
  · subst h11
    have hv : Hid (rankC r = 4) := Lib.hid (by unfold rankC; rw [hkk.out]; rfl)
    go_enter Tryz.func73, Tryz.ntmps73
    go_wp2_with fail
    go_ret
    exact ⟨by rw [hv.out]; rfl, hb'.out⟩
  by_cases h15 : k = 15
  · subst h15
    have hv : Hid (rankC r = 4) := Lib.hid (by unfold rankC; rw [hkk.out]; rfl)
    go_enter Tryz.func73, Tryz.ntmps73
    go_wp2_with fail
    go_ret
    exact ⟨by rw [hv.out]; rfl, hb'.out⟩
  by_cases h12 : k = 12
  · subst h12
    have hv : Hid (rankC r = 5) := Lib.hid (by unfold rankC; rw [hkk.out]; rfl)
    go_enter Tryz.func73, Tryz.ntmps73
    go_wp2_with fail
    go_ret
    exact ⟨by rw [hv.out]; rfl, hb'.out⟩
  by_cases h13 : k = 13
  · subst h13
    have hv : Hid (rankC r = 5) := Lib.hid (by unfold rankC; rw [hkk.out]; rfl)
    go_enter Tryz.func73, Tryz.ntmps73
    go_wp2_with fail
    go_ret
    exact ⟨by rw [hv.out]; rfl, hb'.out⟩
  by_cases h14 : k = 14
  · subst h14
    have hv : Hid (rankC r = 6) := Lib.hid (by unfold rankC; rw [hkk.out]; rfl)
    go_enter Tryz.func73, Tryz.ntmps73
    go_wp2_with fail
    go_ret
    exact ⟨by rw [hv.out]; rfl, hb'.out⟩
  by_cases h6 : k = 6
  · subst h6
    by_cases hl : r.parts.length = 1
    · obtain ⟨q, hqq⟩ := List.length_eq_one_iff.1 hl
      have hq0 : r.parts[0]? = some q := by rw [hqq]; rfl
      obtain ⟨g, o, rfl, hc1, hcell⟩ := hrow'.out.cell (by omega)
      obtain ⟨kq, mq, aq, pq, cq, Rq, hqf, lg, x0, x1, x2, x3⟩ := CV.part hcell hq0 (hp'.out 0 _ hq0)
      have hrk : rankC r = (if q.kind = 9 then 4 else 3) := by
        unfold rankC; rw [hkk.out, hqq]; rfl
      have hqk : q.kind = kq := by rw [hqf]; rfl
      have hl1 : ((r.parts.length : Int) == 1) = true := by rw [hl]; rfl
      have hl0 : (0 : Int) < (r.parts.length : Int) := by omega
      have hl' := Lib.hid hl
      have hqq' := Lib.hid hqq
      rw [hqk] at hrk
      have hrk' := Lib.hid hrk
      clear hl hq0 hcell Rq hrk hqk hqq hqf
      rw [Nat.zero_mul, Nat.add_zero] at x0
      by_cases h9 : kq = 9
      · subst h9
        have hv : Hid (rankC r = 4) := Lib.hid (by rw [hrk'.out]; rfl)
        go_enter Tryz.func73, Tryz.ntmps73
        go_wp2_with fail
        go_ret
        exact ⟨by rw [hv.out]; rfl, hb'.out⟩
      · have hv : Hid (rankC r = 3) := Lib.hid (by rw [hrk'.out, if_neg h9])
        have e9 : (kq == 9) = false := beq_false_of_ne h9
        have h9' := Lib.hid h9
        clear h9
        go_enter Tryz.func73, Tryz.ntmps73
        go_wp2_with fail
        go_ret
        exact ⟨by rw [hv.out]; rfl, hb'.out⟩
    · have hv : Hid (rankC r = 3) := by
        refine Lib.hid ?_
        unfold rankC; rw [hkk.out]
        match hrp : r.parts with
        | [] => rfl
        | [_] => rw [hrp] at hl; exact absurd rfl hl
        | _ :: _ :: _ => rfl
      have hl1 : ((r.parts.length : Int) == 1) = false := by apply beq_false_of_ne; omega
      have hl' := Lib.hid hl
      clear hl
      go_enter Tryz.func73, Tryz.ntmps73
      go_wp2_with fail
      go_ret
      exact ⟨by rw [hv.out]; rfl, hb'.out⟩
  have hv : Hid (rankC r = 7) := Lib.hid (by unfold rankC; rw [hkk.out]; simp [h6, h8, h7, h9, h10, h11, h15, h12, h13, h14])
  have e6 : (k == 6) = false := beq_false_of_ne h6
  have h6' := Lib.hid h6
  clear h6
  have e8 : (k == 8) = false := beq_false_of_ne h8
  have h8' := Lib.hid h8
  clear h8
  have e7 : (k == 7) = false := beq_false_of_ne h7
  have h7' := Lib.hid h7
  clear h7
  have e9 : (k == 9) = false := beq_false_of_ne h9
  have h9' := Lib.hid h9
  clear h9
  have e10 : (k == 10) = false := beq_false_of_ne h10
  have h10' := Lib.hid h10
  clear h10
  have e11 : (k == 11) = false := beq_false_of_ne h11
  have h11' := Lib.hid h11
  clear h11
  have e15 : (k == 15) = false := beq_false_of_ne h15
  have h15' := Lib.hid h15
  clear h15
  have e12 : (k == 12) = false := beq_false_of_ne h12
  have h12' := Lib.hid h12
  clear h12
  have e13 : (k == 13) = false := beq_false_of_ne h13
  have h13' := Lib.hid h13
  clear h13
  have e14 : (k == 14) = false := beq_false_of_ne h14
  have h14' := Lib.hid h14
  clear h14
  go_enter Tryz.func73, Tryz.ntmps73
  go_wp2_with fail
  go_ret
  exact ⟨by rw [hv.out]; rfl, hb'.out⟩
set_option maxHeartbeats 4000000 in
theorem unlike_calls (r : CT) (cs : List Value) (w : World) (hR : CV w cs r) : Calls Tryz.prog 94 #[.agg cs.toArray] w fun e w' => e = .returned (.bool (unlikeC r)) ∧ Below w.heap.size w w' := by
  obtain ⟨k, m, a, p, c, ds, rfl, hq, hrow, hlen, hp⟩ := hR.form
  have hmax := hrow.1
  unfold maxLen at hmax
  have bx := Blk.new w 28 #[.int .i64 k, .int .i64 m, .string a, .slice p r.parts.length c]
  have hb := (Below.refl w.heap.size w).alloc (Nat.le_refl _) (.cells #[.int .i64 k, .int .i64 m, .string a, .slice p r.parts.length c] 28)
  obtain ⟨W, eW⟩ : ∃ W, w.alloc (.cells #[.int .i64 k, .int .i64 m, .string a, .slice p r.parts.length c] 28) = W := ⟨_, rfl⟩
  rw [eW] at bx hb
  have bxc := bx.cell
  have hb' := Lib.hid hb
  have hrow' := Lib.hid (hrow.below hb)
  have hp' := Lib.hid (fun i q h => (hp i q h).later hb)
  have hq' := Lib.hid hq
  have hkk : Hid (r.kind = k) := Lib.hid (by rw [hq]; rfl)
  clear hrow hp hq hb bx hR
  by_cases h6 : k = 6
  · subst h6
    by_cases hl : r.parts.length = 1
    · obtain ⟨q, hqq⟩ := List.length_eq_one_iff.1 hl
      have hq0 : r.parts[0]? = some q := by rw [hqq]; rfl
      obtain ⟨g, o, rfl, hc1, hcell⟩ := hrow'.out.cell (by omega)
      obtain ⟨kq, mq, aq, pq, cq, Rq, hqf, lg, x0, x1, x2, x3⟩ := CV.part hcell hq0 (hp'.out 0 _ hq0)
      have hun : unlikeC r = (q.kind == 9 && decide (q.parts.length = 2) && plainC q) := by
        unfold unlikeC; rw [hkk.out, hqq]; rfl
      have hpl : plainC q = (mq == 0 && aq.data.toList.isEmpty) := by rw [hqf]; rfl
      have hqk : q.kind = kq := by rw [hqf]; rfl
      rw [hqk, hpl] at hun
      have hl1 : ((r.parts.length : Int) == 1) = true := by rw [hl]; rfl
      have hl2 : ((r.parts.length : Int) != 1) = false := by rw [hl]; rfl
      have hl0 : (0 : Int) < (r.parts.length : Int) := by omega
      have hl' := Lib.hid hl
      have hqq' := Lib.hid hqq
      have hun' := Lib.hid hun
      have hqm := (hp'.out 0 _ hq0).form
      have hqmax : q.parts.length ≤ 9223372036854775807 := by
        obtain ⟨_, _, _, _, _, _, _, _, h, _⟩ := hqm
        have := h.1
        unfold maxLen at this
        omega
      clear hl hq0 hcell Rq hun hqk hqq hqf hpl hqm
      rw [Nat.zero_mul, Nat.add_zero] at x0 x1 x2 x3
      have hcs : (kq == 9) = false ∨ ((kq == 9) = true ∧ ((q.parts.length : Int) == 2) = false) ∨ ((kq == 9) = true ∧ ((q.parts.length : Int) == 2) = true ∧ (mq == 0) = false) ∨ ((kq == 9) = true ∧ ((q.parts.length : Int) == 2) = true ∧ (mq == 0) = true) := by
        cases h1 : kq == 9
        · exact .inl rfl
        · cases h2 : (q.parts.length : Int) == 2
          · exact .inr (.inl ⟨rfl, rfl⟩)
          · cases h3 : mq == 0
            · exact .inr (.inr (.inl ⟨rfl, rfl, rfl⟩))
            · exact .inr (.inr (.inr ⟨rfl, rfl, rfl⟩))
      have h2i : decide (q.parts.length = 2) = ((q.parts.length : Int) == 2) := by
        rw [Bool.eq_iff_iff]; simp; omega
      rw [h2i] at hun'
      have hae : aq.data.toList.isEmpty = aq.toList.isEmpty := by rw [Lib.toList_data]
      rw [hae] at hun'
      clear h2i hae
      rcases hcs with e1 | ⟨e1, e2⟩ | ⟨e1, e2, e3⟩ | ⟨e1, e2, e3⟩
      all_goals
        simp only [e1] at hun'
        try simp only [e2] at hun'
        try simp only [e3] at hun'
        go_enter Tryz.func94, Tryz.ntmps94
        go_wp2_with fail
        all_goals
          go_ret
          exact ⟨ret_bool (by rw [hun'.out]; first | rfl | simp | simp_all), by first | exact hb'.out | exact hb'.out.alloc (by have := hb'.out.size; omega) _⟩
    · have hv : Hid (unlikeC r = false) := by
        refine Lib.hid ?_
        unfold unlikeC; rw [hkk.out]
        match hrp : r.parts with
        | [] => rfl
        | [_] => rw [hrp] at hl; exact absurd rfl hl
        | _ :: _ :: _ => rfl
      have hl1 : ((r.parts.length : Int) == 1) = false := by apply beq_false_of_ne; omega
      have hl2 : ((r.parts.length : Int) != 1) = true := by rw [bne_iff_ne]; omega
      have hl' := Lib.hid hl
      clear hl
      go_enter Tryz.func94, Tryz.ntmps94
      go_wp2_with fail
      go_ret
      exact ⟨ret_bool (by rw [hv.out]), hb'.out⟩
  have hv : Hid (unlikeC r = false) := Lib.hid (by unfold unlikeC; rw [hkk.out, beq_false_of_ne h6]; rfl)
  have e6 : (k == 6) = false := beq_false_of_ne h6
  have e6' : (k != 6) = true := bne_iff_ne.2 h6
  have h6' := Lib.hid h6
  clear h6
  go_enter Tryz.func94, Tryz.ntmps94
  go_wp2_with fail
  go_ret
  exact ⟨ret_bool (by rw [hv.out]), hb'.out⟩
end Go.Proofs.YtdfgbkilaepolaaGreatDoor
namespace Go.Proofs.YtdfgbkilaepolaaGreatDoor
open Go.RowKit
theorem quo2_calls (c : UInt8) (w : World) :
    Calls Tryz.prog 115 #[byteV c] w fun e w' => e = .returned (.bool (isQuo c)) ∧ w = w' := by
  unfold byteV
  have h8 := c.toNat_lt
  go_enter Tryz.func115, Tryz.ntmps115
  go_wp2
  all_goals (go_ret; refine ⟨ret_bool ?_, rfl⟩; rw [isQuo_int]; simp_all <;> (try (rw [Bool.eq_iff_iff]; simp)) <;> (try (intros; omega)))
theorem kindIs_calls (q : CT) (cs : List Value) (w : World) (K : Nat) (kind : Int) (hq : CV w cs q) (hK : w.cell? ⟨K, 0, none⟩ = some (.int .i64 kind)) (hKl : K < w.heap.size) :
    Calls Tryz.prog 117 #[.agg cs.toArray, .pointer (some ⟨K, 0, none⟩)] w fun e w' => e = .returned (.bool (q.kind == kind)) ∧ Below w.heap.size w w' := by
  obtain ⟨k, m, a, p, c, ds, rfl, hqf, _⟩ := hq.form
  have hk : q.kind = k := by rw [hqf]; rfl
  rw [hk]
  have hb := Lib.hid ((Below.refl w.heap.size w).alloc (Nat.le_refl _) (.cells #[.int .i64 k, .int .i64 m, .string a, .slice p q.parts.length c] 28))
  clear hqf hk hq
  go_enter Tryz.func117, Tryz.ntmps117
  go_wp2
  go_ret
  exact ⟨rfl, hb.out⟩
def IdxPost (b : Bool) (w : World) (e : Ending) (w' : World) : Prop := ∃ i : Int, e = .returned (.int .i64 i) ∧ (decide (0 ≤ i)) = b ∧ Below w.heap.size w w'
set_option maxHeartbeats 2000000 in
theorem kindIdx_calls (ps : List CT) (ds : List Value) (w : World) (K : Nat) (kind : Int) (p : Option Addr) (c : Nat) (hrow : RowV w (.slice p ps.length c) ps.length ds) (hp : ∀ (i : Nat) (q : CT), ps[i]? = some q → CV w ((ds.drop (i * 4)).take 4) q) (hK : w.cell? ⟨K, 0, none⟩ = some (.int .i64 kind)) (hKl : K < w.heap.size) :
    Calls Tryz.prog 103 #[.slice p ps.length c, .func (.func 117) #[] #[.pointer (some ⟨K, 0, none⟩)]] w (IdxPost (ps.any fun q => q.kind == kind) w) := by
  have hmax := hrow.1
  unfold maxLen at hmax
  have hrow' := Lib.hid hrow
  have hp' := Lib.hid hp
  have hK' := Lib.hid hK
  generalize hn : ps.length = n at *
  have hn' := Lib.hid hn
  clear hrow hp hn hK
  go_enter Tryz.func103, Tryz.ntmps103
  go_wp2_with fail
  go_loopw [8] (fun i wr => ∃ j : Nat, j ≤ n ∧ i = .int .i64 j ∧ (ps.take j).any (fun q => q.kind == kind) = false ∧ Below w.heap.size w wr) (fun i _ => n - (intOf i).toNat)
  case atStart => exact ⟨0, Nat.zero_le _, rfl, by simp, Below.refl _ _⟩
  case round =>
    obtain ⟨j, hj, rfl, hall, hB⟩ := hrel
    have hall' := Lib.hid hall
    have hB' := Lib.hid hB
    have hzB := hB.size
    clear hall
    by_cases hlt : j < n
    · have hjl : j < ps.length := by rw [hn'.out]; exact hlt
      obtain ⟨q, hqq⟩ : ∃ q, ps[j]? = some q := ⟨_, List.getElem?_eq_getElem hjl⟩
      obtain ⟨g, o, rfl, hc1, hcell⟩ := (hrow'.out.below hB).cell (by omega)
      obtain ⟨kq, mq, aq, pq, cq, Rq, -, lg, x0, x1, x2, x3⟩ := CV.part hcell hqq ((hp'.out j _ hqq).later hB)
      have P := kindIs_calls q _ wr K kind Rq (by rw [hB.cell (p := ⟨K, 0, none⟩) hKl]; exact hK'.out) (by omega)
      have P' := Lib.hid P
      have hqq' := Lib.hid hqq
      have htk : (ps.take (j + 1)).any (fun q => q.kind == kind) = (q.kind == kind) := by
        rw [List.take_add_one, hqq]
        simp [hall'.out]
      have htk' := Lib.hid htk
      clear hB P hcell Rq hqq htk hjl
      go_wp2_with fail
      refine P'.out.mono ?_
      rintro e w4 ⟨rfl, hb4⟩
      have B4 := Lib.hid (hB'.out.trans (hb4.mono hzB))
      clear hb4 x0 x1 x2 x3
      cases hkq : (q.kind == kind)
      · rw [hkq] at htk'
        clear hkq
        go_wp2_with fail
        go_roundw
        case rel => exact ⟨j + 1, by omega, by go_num, htk'.out, B4.out⟩
        case measure => simp [intOf]; omega
      · have hany : Hid (ps.any (fun q => q.kind == kind) = true) := Lib.hid (List.any_eq_true.2 ⟨q, List.mem_of_getElem? hqq'.out, hkq⟩)
        clear hkq
        go_wp2_with fail
        go_ret
        exact ⟨(j : Int), rfl, by rw [hany.out]; simp, B4.out⟩
    · obtain rfl : j = n := by omega
      have hany : Hid (ps.any (fun q => q.kind == kind) = false) := Lib.hid (by
        have := hall'.out
        rw [List.take_of_length_le (by rw [hn'.out]; exact Nat.le_refl _)] at this
        exact this)
      clear hB
      go_wp2_with fail
      go_ret
      exact ⟨-1, rfl, by rw [hany.out]; decide, hB'.out⟩
theorem kindHas_calls (ps : List CT) (ds : List Value) (w : World) (K : Nat) (kind : Int) (p : Option Addr) (c : Nat) (hrow : RowV w (.slice p ps.length c) ps.length ds) (hp : ∀ (i : Nat) (q : CT), ps[i]? = some q → CV w ((ds.drop (i * 4)).take 4) q) (hK : w.cell? ⟨K, 0, none⟩ = some (.int .i64 kind)) (hKl : K < w.heap.size) :
    Calls Tryz.prog 79 #[.slice p ps.length c, .func (.func 117) #[] #[.pointer (some ⟨K, 0, none⟩)]] w fun e w' => e = .returned (.bool (ps.any fun q => q.kind == kind)) ∧ Below w.heap.size w w' := by
  have P := Lib.hid (kindIdx_calls ps ds w K kind p c hrow hp hK hKl)
  clear hrow hp hK
  go_enter Tryz.func79, Tryz.ntmps79
  go_wp2_with fail
  refine P.out.mono ?_
  rintro e w4 ⟨i, rfl, hi, hb4⟩
  have hi' := Lib.hid hi
  have hb' := Lib.hid hb4
  clear hi hb4
  go_wp2_with fail
  go_ret
  exact ⟨ret_bool hi'.out, hb'.out⟩
end Go.Proofs.YtdfgbkilaepolaaGreatDoor
