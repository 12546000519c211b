/- The writer of a condition's text: its bytes, in memory; WriteString, WriteByte, Len, String. -/
import Derived.Test.YtfhdecdlkmibmaaDoorCBc
import Derived.Lib.AppendStr
import Derived.Lib.Builder
namespace Go.Proofs.YtfhdecdlkmibmaaDoor
open Go.RowKit
attribute [local go_sem ↓] dapp_op
abbrev TB : TypeId := 5
/-- a writer in block b, its bytes l; its row is its own, from B on -/
def WrAt (B b : Nat) (w : World) (l : List UInt8) (deep : Int) (bad : Bool) : Prop := B ≤ b ∧ ∃ p v, (p = .pointer none ∨ p = .pointer (some ⟨b, 0, none⟩)) ∧ Blk w b 49 #[p, v, .int .i64 deep, .bool bad] ∧ w.ownsRow B 5 1 v l.length (Lib.byteCells l)
/-- what a write may turn -/
def WKeeps (B b : Nat) (w w' : World) : Prop := Keeps (fun j => B ≤ j ∧ (j = b ∨ ∃ cs, Blk w j 5 cs)) w w'
section
variable {B b : Nat} {w w' w'' : World}
theorem WKeeps.refl (B b : Nat) (w : World) : WKeeps B b w w := Keeps.refl _ _
theorem WKeeps.trans (h : WKeeps B b w w') (h' : WKeeps B b w' w'') : WKeeps B b w w'' := by
  refine ⟨h'.os.trans h.os, h'.tape.trans h.tape, h'.output.trans h.output, Nat.le_trans h.size h'.size, fun k hk hs => ?_⟩
  have e := h.block k hk hs
  refine (h'.block k (Nat.lt_of_lt_of_le hk h.size) fun hs' => hs ⟨hs'.1, hs'.2.imp id ?_⟩).trans e
  rintro ⟨cs, hb⟩
  exact ⟨cs, e.symm.trans hb⟩
theorem WKeeps.of_below (h : Below w.heap.size w w') : WKeeps B b w w' := Keeps.of_below h
theorem WKeeps.below (h : WKeeps B b w w') (hB : B ≤ w.heap.size) : Below B w w' := Keeps.below h (fun _ _ e => e.1) hB
theorem Blk.wkeeps {g : Nat} {T : TypeId} {cs : Array Value} (h : Blk w g T cs) (hk : WKeeps B b w w') (hT : T ≠ 5) (hg : g ≠ b) : Blk w' g T cs :=
  h.keeps hk fun e => by
    rcases e.2 with e | ⟨cs', hb⟩
    · exact hg e
    · exact h.ne_ hb hT rfl
theorem WrAt.lt {l : List UInt8} {deep : Int} {bad : Bool} (h : WrAt B b w l deep bad) : b < w.heap.size := by
  obtain ⟨_, p, v, _, hb, _⟩ := h
  exact hb.lt
theorem WrAt.later {l : List UInt8} {deep : Int} {bad : Bool} (h : WrAt B b w l deep bad) (hb : Below w.heap.size w w') : WrAt B b w' l deep bad := by
  obtain ⟨h1, p, v, h2, h3, h4⟩ := h
  exact ⟨h1, p, v, h2, h3.below hb h3.lt, own_keeps (S := fun _ => False) h4 (.of_below hb) fun _ _ => id⟩
/-- the flag turned; the depth turned -/
theorem WrAt.cell_ {l : List UInt8} {deep d' : Int} {bad b' : Bool} {i : Nat} {u : Value} (h : WrAt B b w l deep bad) (hu : ∀ p v, (#[p, v, .int .i64 deep, .bool bad] : Array Value).setIfInBounds i u = #[p, v, .int .i64 d', .bool b']) : WrAt B b (w.setCell ⟨b, i, none⟩ u) l d' b' ∧ WKeeps B b w (w.setCell ⟨b, i, none⟩ u) := by
  obtain ⟨h1, p, v, h2, h3, h4⟩ := h
  have hk : Keeps (fun j => j = b) w (w.setCell ⟨b, i, none⟩ u) := (Keeps.refl (fun j => j = b) w).setCell (p := ⟨b, i, none⟩) (.inl rfl) _
  refine ⟨⟨h1, p, v, h2, by rw [← hu p v]; exact h3.set_ i u, own_keeps h4 hk fun g hg e => ?_⟩, hk.mono fun j _ e => ⟨by omega, .inl e⟩⟩
  obtain ⟨c, hb⟩ := own_blk h4 g hg
  exact hb.ne_ h3 (by decide) e
theorem WrAt.bad_ {l : List UInt8} {deep : Int} {bad : Bool} (h : WrAt B b w l deep bad) (o : Bool) : WrAt B b (w.setCell ⟨b, 3, none⟩ (.bool o)) l deep o ∧ WKeeps B b w (w.setCell ⟨b, 3, none⟩ (.bool o)) := h.cell_ fun _ _ => rfl
theorem WrAt.deep_ {l : List UInt8} {deep : Int} {bad : Bool} (h : WrAt B b w l deep bad) (d : Int) : WrAt B b (w.setCell ⟨b, 2, none⟩ (.int .i64 d)) l d bad ∧ WKeeps B b w (w.setCell ⟨b, 2, none⟩ (.int .i64 d)) := h.cell_ fun _ _ => rfl
theorem WrAt.flag {l : List UInt8} {deep : Int} {bad : Bool} (h : WrAt B b w l deep bad) : w.cell? ⟨b, 2, none⟩ = some (.int .i64 deep) ∧ w.cell? ⟨b, 3, none⟩ = some (.bool bad) ∧ ∀ i, w.frozen? ⟨b, i, none⟩ = false := by
  obtain ⟨h1, p, v, h2, h3, h4⟩ := h
  exact ⟨by rw [h3.cell]; rfl, by rw [h3.cell]; rfl, h3.frozen⟩
end
theorem strC (s : ByteArray) : Lib.strCells s = Lib.byteCells s.data.toList := rfl
theorem info_u8 : (Tryd.prog.info? 5).map (fun i => (i.zero, i.size, i.bytes)) = some (some (.int .u8 0), 1, 1) := by kernel_rfl
theorem lies_wr : liesAt Tryd.prog Tryd.prog.depth 49 (4 / Tryd.prog.cellsOf 49) 0 47 1 = true := by kernel_rfl
theorem size_bd : (Tryd.prog.info? 47).map (·.size) = some 2 := by kernel_rfl
set_option maxHeartbeats 1000000 in
set_option maxRecDepth 100000 in
theorem copyCheck_used (b : Nat) (w : World) (h0 : w.cell? ⟨b, 0, none⟩ = some (.pointer (some ⟨b, 0, none⟩))) :
    Calls Tryd.prog 40 #[.pointer (some ⟨b, 0, none⟩)] w fun e w' => e = .returned (.tuple #[]) ∧ w = w' := by
  obtain ⟨j, hj, _⟩ := Option.map_eq_some_iff.1 size_bd
  go_enter Tryd.func40, Tryd.ntmps40
  go_wp2
  rw [Lib.run_neq_ptr_same w _ Tryd.underlying44 hj]
  go_wp2
  go_end0
  exact ⟨rfl, rfl⟩
set_option maxHeartbeats 1000000 in
set_option maxRecDepth 100000 in
theorem copyCheck_fresh (b : Nat) (w : World) (h0 : w.cell? ⟨b, 0, none⟩ = some (.pointer none)) (hsh : w.shape? b = some (49, 4)) (hfz : w.frozen? ⟨b, 0, none⟩ = false) :
    Calls Tryd.prog 40 #[.pointer (some ⟨b, 0, none⟩)] w fun e w' => e = .returned (.tuple #[]) ∧ w.setCell ⟨b, 0, none⟩ (.pointer (some ⟨b, 0, none⟩)) = w' := by
  obtain ⟨j, hj, hjs⟩ := Option.map_eq_some_iff.1 size_bd
  go_enter Tryd.func40, Tryd.ntmps40
  go_wp2
  rw [Lib.run_to_unsafe w ⟨b, 0, none⟩ Tryd.underlying44 Tryd.underlying69 hj (by rw [hjs]; decide) hsh (Nat.zero_lt_succ 3)]
  simp only [Result.andThen]
  rw [Oper.upon_value]
  go_wp2
  rw [run_callFunc_extern Tryd.func49 (by kernel_rfl) (by kernel_rfl) (by kernel_rfl) (e := Extern.AbiNoEscape.same) (by kernel_rfl)]
  rw [Lib.run_noEscape]
  simp only [Result.andThen]
  rw [Oper.upon_value]
  go_wp2
  rw [Lib.run_from_unsafe w ⟨b, 0, none⟩ Tryd.underlying69 Tryd.underlying44 hj hsh lies_wr]
  simp only [Result.andThen]
  rw [Oper.upon_value]
  go_wp2
  go_end0
  exact ⟨rfl, rfl⟩
/-- a string put behind the writer's bytes -/
theorem run_put {B : Nat} {w : World} {v : Value} {l : List UInt8} (h : w.ownsRow B 5 1 v l.length (Lib.byteCells l)) (s : ByteArray) (hl : l.length + s.size ≤ 1000000000) (hB : B ≤ w.heap.size) :
    ∃ p c w', (dappOp #[45, 9] 45 #[v, .string s]).run Tryd.prog w = .ok (.slice p (l.length + s.size) c) w' ∧ w'.ownsRow B 5 1 (.slice p (l.length + s.size) c) (l ++ s.data.toList).length (Lib.byteCells (l ++ s.data.toList)) ∧ w.grownBy w' v.ownBlock := by
  obtain ⟨i0, hi, hz0, hz1, hz2⟩ := info_parts info_u8
  obtain ⟨v', w', h2, h3, h4, _⟩ := Lib.run_append_own_string (P := Tryd.prog) w B 45 9 45 5 i0 Tryd.underlying45 Tryd.underlying9 hi hz0 hz1 hz2 v l.length _ h s (by unfold maxLen; omega) (by omega)
    hB
  obtain ⟨p, c, rfl⟩ := own_slice h3
  refine ⟨p, c, w', h2, ?_, h4⟩
  rw [strC] at h3
  have e : Lib.byteCells (l ++ s.data.toList) = Lib.byteCells l ++ Lib.byteCells s.data.toList := by unfold Lib.byteCells; rw [List.map_append]
  rw [e, List.length_append, ← Lib.size_eq]
  exact h3
set_option maxHeartbeats 2000000 in
set_option maxRecDepth 100000 in
theorem wstr_calls (B b : Nat) (w : World) (l : List UInt8) (deep : Int) (bad : Bool) (s : ByteArray) (h : WrAt B b w l deep bad) (hl : l.length + s.size ≤ 1000000000) (hB : B ≤ w.heap.size) :
    Calls Tryd.prog 37 #[.pointer (some ⟨b, 0, none⟩), .string s] w fun e w' => e = .returned (.tuple #[.int .i64 s.size, .nilIface]) ∧ WrAt B b w' (l ++ s.data.toList) deep bad ∧ WKeeps B b w w' := by
  obtain ⟨h1, p, v, h2, h3, h4⟩ := h
  -- behind copyCheck
  have hC : Calls Tryd.prog 40 #[.pointer (some ⟨b, 0, none⟩)] w fun e w' => e = .returned (.tuple #[]) ∧ Blk w' b 49 #[.pointer (some ⟨b, 0, none⟩), v, .int .i64 deep, .bool bad] ∧ w'.ownsRow B 5 1 v l.length (Lib.byteCells l) ∧ Keeps (fun j => j = b) w w' := by
    rcases h2 with rfl | rfl
    · have hsh : w.shape? b = some (49, 4) := by
        have hb : w.heap[b]? = some (.cells #[.pointer none, v, .int .i64 deep, .bool bad] 49 (0, 0)) := h3
        simp [World.shape?, hb]
      refine (copyCheck_fresh b w (by rw [h3.cell]; rfl) hsh (h3.frozen 0)).mono ?_
      rintro e w' ⟨rfl, rfl⟩
      have hk : Keeps (fun j => j = b) w (w.setCell ⟨b, 0, none⟩ (.pointer (some ⟨b, 0, none⟩))) := (Keeps.refl (fun j => j = b) w).setCell (p := ⟨b, 0, none⟩) (.inl rfl) _
      refine ⟨rfl, h3.set_ 0 _, own_keeps h4 hk fun g hg e => ?_, hk⟩
      obtain ⟨c, hb⟩ := own_blk h4 g hg
      exact hb.ne_ h3 (by decide) e
    · refine (copyCheck_used b w (by rw [h3.cell]; rfl)).mono ?_
      rintro e w' ⟨rfl, rfl⟩
      exact ⟨rfl, h3, h4, Keeps.refl _ _⟩
  have hC' := Lib.hid hC
  have h3l := h3.lt
  have hbne : ∀ g, v.ownBlock = some g → g ≠ b := fun g hg => by
    obtain ⟨c, hb⟩ := own_blk h4 g hg
    exact hb.ne_ h3 (by decide)
  have hu8 : ∀ g, v.ownBlock = some g → B ≤ g ∧ ∃ cs, Blk w g 5 cs := fun g hg => ⟨(h4.lt g hg).1, own_blk h4 g hg⟩
  clear hC h2 h3 h4
  go_enter Tryd.func37, Tryd.ntmps37
  go_wp2_with fail
  refine hC'.out.mono ?_
  rintro e w1 ⟨rfl, h3, h4, k1⟩
  have z1 := k1.size
  obtain ⟨p2, c2, w2, e2, own2, g2⟩ := run_put h4 s hl (by omega)
  have c1 := h3.cell
  have b2 : Blk w2 b 49 #[.pointer (some ⟨b, 0, none⟩), v, .int .i64 deep, .bool bad] := h3.grown g2 fun e => hbne b e.symm rfl
  have c2c := b2.cell
  have c2f := b2.frozen
  have k2 : Keeps (fun j => j = b ∨ v.ownBlock = some j) w w2 := (k1.mono fun j _ e => .inl e).grown g2 fun k e => .inl (.inr e)
  have k3 : Keeps (fun j => j = b ∨ v.ownBlock = some j) w (w2.setCell ⟨b, 1, none⟩ (.slice p2 (l.length + s.size) c2)) := k2.setCell (p := ⟨b, 1, none⟩) (.inl (.inl rfl)) _
  have hk2b : Keeps (fun j => j = b) w2 (w2.setCell ⟨b, 1, none⟩ (.slice p2 (l.length + s.size) c2)) := (Keeps.refl (fun j => j = b) w2).setCell (p := ⟨b, 1, none⟩) (.inl rfl) _
  have own3 := own_keeps own2 hk2b fun g hg e => by
    obtain ⟨c, hb⟩ := own_blk own2 g hg
    exact hb.ne_ b2 (by decide) e
  have hfin : WrAt B b (w2.setCell ⟨b, 1, none⟩ (.slice p2 (l.length + s.size) c2)) (l ++ s.data.toList) deep bad ∧ WKeeps B b w (w2.setCell ⟨b, 1, none⟩ (.slice p2 (l.length + s.size) c2)) := by
    refine ⟨⟨h1, _, _, .inr rfl, b2.set_ 1 _, own3⟩, k3.mono fun j _ e => ?_⟩
    rcases e with e | e
    · exact ⟨by omega, .inl e⟩
    · exact ⟨(hu8 j e).1, .inr (hu8 j e).2⟩
  have hfin' := Lib.hid hfin
  obtain ⟨pv, cv, rfl⟩ := own_slice h4
  have b2l := b2.lt
  clear hfin own3 hk2b k3 k2 b2 g2 own2 h3 h4 k1 hu8 hbne
  go_wp2_with fail
  go_ret2
  exact ⟨rfl, hfin'.out⟩
theorem cellsByte : Tryd.prog.cellsOf 5 = 1 := by kernel_rfl
set_option maxHeartbeats 2000000 in
set_option maxRecDepth 100000 in
theorem string_some (B b : Nat) (p : Value) (deep : Int) (bad : Bool) (l : List UInt8) (w : World) (g cap : Nat) (cur : Array Value) (h0 : l ≠ []) (hbk : Blk w b 49 #[p, .slice (some ⟨g, 0, none⟩) l.length cap, .int .i64 deep, .bool bad]) (hg : w.heap[g]? = some (.cells cur 5 (0, 0))) (hbg : B ≤ g) (hnc : l.length ≤ cap) (hcm : cap ≤ maxLen) (hcs : cur.size = cap * 1) (hcell : ∀ (j : Nat) x, l[j]? = some x → w.cell? ((⟨g, 0, none⟩ : Addr).add j) = some (.int .u8 x.toNat)) :
    Calls Tryd.prog 16 #[.pointer (some ⟨b, 0, none⟩)] w fun e w' => e = .returned (.string ⟨l.toArray⟩) ∧ Below B w w' := by
  have hl0 : l.length ≠ 0 := by simpa using h0
  have c1 : w.drew.cell? ⟨b, 1, none⟩ = some (.slice (some ⟨g, 0, none⟩) l.length cap) := by
    show w.cell? _ = _
    rw [hbk.cell]; rfl
  have hSD : (Builtin.unsafeSliceData_ #[45] 61 #[.slice (some ⟨g, 0, none⟩) l.length cap]).run Tryd.prog w.drew = .ok (.pointer (some ⟨g, 0, none⟩)) w.drew :=
    Lib.run_unsafeSliceData_row _ _ _ _ _ _ (by omega)
  have hUS : (Builtin.unsafeString_ #[61, 3] 9 #[.pointer (some ⟨g, 0, none⟩), .int .i64 l.length]).run Tryd.prog w.drew = .ok (.string ⟨l.toArray⟩) (w.drew.freeze ⟨g, 0, none⟩ l.length) := by
    refine Lib.run_unsafeString_row w.drew 61 3 9 5 Tryd.underlying61 cellsByte g cur.size (by have hg' : w.drew.heap[g]? = some (.cells cur 5 (0, 0)) := hg; simp [World.shape?, hg']) l h0 (by omega) (by unfold maxLen at hcm; omega) ?_
    intro j x hx
    exact hcell j x hx
  clear hcell hg hbk
  go_enter Tryd.func16, Tryd.ntmps16
  go_wp2
  go_region
  all_goals (go_wp2; go_ret; exact ⟨rfl, Lib.below_freeze (Below.drew (Below.refl B w)) (p := ⟨g, 0, none⟩) hbg _⟩)
theorem unsafeString_none (W : World) (q : Option Addr) : (Builtin.unsafeString_ #[61, 3] 9 #[.pointer q, .int .i64 0]).run Tryd.prog W = .ok (.string .empty) W := Lib.run_unsafeString_none W _ _ _ q
set_option maxHeartbeats 2000000 in
set_option maxRecDepth 100000 in
theorem string_nil (B b : Nat) (p : Value) (deep : Int) (bad : Bool) (w : World) (hbk : Blk w b 49 #[p, .slice none 0 0, .int .i64 deep, .bool bad]) :
    Calls Tryd.prog 16 #[.pointer (some ⟨b, 0, none⟩)] w fun e w' => e = .returned (.string ⟨#[]⟩) ∧ Below B w w' := by
  have hUS := unsafeString_none
  have c1 : w.drew.cell? ⟨b, 1, none⟩ = some (.slice none 0 0) := by
    show w.cell? _ = _
    rw [hbk.cell]; rfl
  have hSD : (Builtin.unsafeSliceData_ #[45] 61 #[.slice none 0 0]).run Tryd.prog w.drew = .ok (.pointer none) w.drew := rfl
  clear hbk
  go_enter Tryd.func16, Tryd.ntmps16
  go_wp2
  go_region
  all_goals (go_wp2; go_ret; exact ⟨rfl, Below.drew (Below.refl B w)⟩)
set_option maxHeartbeats 2000000 in
set_option maxRecDepth 100000 in
theorem string_room (B b g cap : Nat) (p : Value) (deep : Int) (bad : Bool) (w : World) (hc0 : cap ≠ 0) (hbk : Blk w b 49 #[p, .slice (some ⟨g, 0, none⟩) 0 cap, .int .i64 deep, .bool bad]) :
    Calls Tryd.prog 16 #[.pointer (some ⟨b, 0, none⟩)] w fun e w' => e = .returned (.string ⟨#[]⟩) ∧ Below B w w' := by
  have hUS := unsafeString_none
  have c1 : w.drew.cell? ⟨b, 1, none⟩ = some (.slice (some ⟨g, 0, none⟩) 0 cap) := by
    show w.cell? _ = _
    rw [hbk.cell]; rfl
  have hSD : (Builtin.unsafeSliceData_ #[45] 61 #[.slice (some ⟨g, 0, none⟩) 0 cap]).run Tryd.prog w.drew = .ok (.pointer (some ⟨g, 0, none⟩)) w.drew :=
    Lib.run_unsafeSliceData_row _ _ _ _ _ _ hc0
  clear hc0 hbk
  go_enter Tryd.func16, Tryd.ntmps16
  go_wp2
  go_region
  all_goals (go_wp2; go_ret; exact ⟨rfl, Below.drew (Below.refl B w)⟩)
set_option maxHeartbeats 2000000 in
set_option maxRecDepth 100000 in
theorem string_noroom (B b g : Nat) (p : Value) (deep : Int) (bad : Bool) (cur : Array Value) (w : World) (hBw : B ≤ w.heap.size) (hbk : Blk w b 49 #[p, .slice (some ⟨g, 0, none⟩) 0 0, .int .i64 deep, .bool bad]) (hg : w.heap[g]? = some (.cells cur 5 (0, 0))) :
    Calls Tryd.prog 16 #[.pointer (some ⟨b, 0, none⟩)] w fun e w' => e = .returned (.string ⟨#[]⟩) ∧ Below B w w' := by
  have hUS := unsafeString_none
  have c1 : w.drew.cell? ⟨b, 1, none⟩ = some (.slice (some ⟨g, 0, none⟩) 0 0) := by
    show w.cell? _ = _
    rw [hbk.cell]; rfl
  have hSD : (Builtin.unsafeSliceData_ #[45] 61 #[.slice (some ⟨g, 0, none⟩) 0 0]).run Tryd.prog w.drew = .ok (.pointer (some ⟨w.drew.heap.size, 0, none⟩)) (w.drew.alloc (.view ⟨g, 0, none⟩ 5)) :=
    Lib.run_unsafeSliceData_zero w.drew _ _ 5 Tryd.underlying61 ⟨g, 0, none⟩ 0 (5, cur.size) (by have hg' : w.drew.heap[g]? = some (.cells cur 5 (0, 0)) := hg; simp [World.shape?, hg'])
  have c2 : (w.drew.alloc (.view ⟨g, 0, none⟩ 5)).cell? ⟨b, 1, none⟩ = some (.slice (some ⟨g, 0, none⟩) 0 0) := by
    have h := ((Below.refl w.drew.heap.size w.drew).alloc (Nat.le_refl _) (.view ⟨g, 0, none⟩ 5)).cell (p := ⟨b, 1, none⟩) hbk.lt
    rw [h]; exact c1
  have c3 : (w.alloc (.view ⟨g, 0, none⟩ 5)).drew.cell? ⟨b, 1, none⟩ = some (.slice (some ⟨g, 0, none⟩) 0 0) := c2
  have c0 : w.cell? ⟨b, 1, none⟩ = some (.slice (some ⟨g, 0, none⟩) 0 0) := c1
  clear hbk hg
  go_enter Tryd.func16, Tryd.ntmps16
  go_wp2
  go_region
  all_goals (go_wp2; go_ret; exact ⟨rfl, (Below.drew (Below.refl B w)).alloc hBw _⟩)
theorem string_calls (B b : Nat) (w : World) (l : List UInt8) (deep : Int) (bad : Bool) (h : WrAt B b w l deep bad) (hB : B ≤ w.heap.size) :
    Calls Tryd.prog 16 #[.pointer (some ⟨b, 0, none⟩)] w fun e w' => e = .returned (.string ⟨l.toArray⟩) ∧ Below B w w' := by
  obtain ⟨h1, p, v, h2, h3, h4⟩ := h
  rcases h4.2 with ⟨rfl, hz⟩ | ⟨g, cap, cur, rfl, hbg, hg, hnc, hcm, hcs, htake⟩
  · obtain rfl : l = [] := List.eq_nil_of_length_eq_zero hz
    exact string_nil B b p deep bad w h3
  · by_cases h0 : l = []
    · subst h0
      by_cases hc0 : cap = 0
      · subst hc0
        exact string_noroom B b g p deep bad cur w hB h3 hg
      · exact string_room B b g cap p deep bad w hc0 h3
    · refine string_some B b p deep bad l w g cap cur h0 h3 hg hbg hnc hcm hcs fun j x hx => ?_
      exact h4.cells (g := g) rfl j (.int .u8 x.toNat) (by simp [Lib.byteCells, hx])
