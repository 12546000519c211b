/- Walk: the law SchemaPrints, of a schema of no more than so many bytes. -/
import Derived.Test.YtkibaaljpbcjeaaDoorSP2
import Derived.Test.YtkibaaljpbcjeaaDoorSX4
import Derived.Test.YtkibaaljpbcjeaaDoorSQ6
namespace Go.Proofs.YtkibaaljpbcjeaaDoor
open Go.RowKit
set_option maxHeartbeats 4000000 in
set_option maxRecDepth 100000 in
theorem schemaPrints_calls (v : Value) (ts : List TyD) (m : Int) (w : World) (hS : SchV w v ts) (hf : fitsS ts) (hW : tysW ts ≤ 20000000) (hm : w.cell? ⟨0, 0, none⟩ = some (.int .i64 m)) :
    Calls Tryd.prog 4 #[.agg #[v]] w fun e w' => e = .returned (.bool true) ∧ Below w.heap.size w w' := by
  have hg : 0 < w.heap.size := World.block_lt_of_cell? w _ hm
  obtain ⟨p, c, rfl⟩ := hS.form
  obtain ⟨w1, e1⟩ : ∃ w1, w.alloc (.cells #[.slice p ts.length c] 25) = w1 := ⟨_, rfl⟩
  have hb1 := (Below.refl w.heap.size w).alloc (Nat.le_refl _) (.cells #[.slice p ts.length c] 25)
  have bx1 := Blk.new w 25 #[.slice p ts.length c]
  have hz1 : w1.heap.size = w.heap.size + 1 := by rw [← e1]; simp
  rw [e1] at hb1 bx1
  have hlater : ∀ W, Below w.heap.size w W → 0 < W.heap.size ∧ W.cell? ⟨0, 0, none⟩ = some (.int .i64 m) := fun W hb => ⟨Nat.lt_of_lt_of_le hg hb.size, by rw [hb.cell (p := ⟨0, 0, none⟩) hg]; exact hm⟩
  have F := fixed_calls m w1 (hlater w1 hb1).1 (hlater w1 hb1).2
  have hlater' := Lib.hid hlater
  have F' := Lib.hid F
  have hb1' := Lib.hid hb1
  have bx1' := Lib.hid bx1
  have hS' := Lib.hid hS
  clear hlater F hg hm hb1 bx1 hS
  go_enter Tryd.func4, Tryd.ntmps4
  go_wp2_with fail
  refine F'.out.mono ?_
  rintro e w2 ⟨rfl, hb2⟩
  have l2 := hb2.size
  have B2 := hb1'.out.trans (hb2.mono (by omega))
  have bx2 := bx1'.out.below hb2 (by omega)
  have c2 := bx2.cell
  have lx2 := bx2.lt
  have hS2 := hS'.out.later B2
  have P2 := few_calls _ ts w2 hS2 hf (by omega)
  have P2' := Lib.hid P2
  have B2' := Lib.hid B2
  have bx2' := Lib.hid bx2
  clear P2 B2 bx2 hS2 hb2
  cases hfw : few ts
  · rw [hfw] at P2'
    clear hfw
    go_wp2_with fail
    refine P2'.out.mono ?_
    rintro e w3 ⟨rfl, hb3⟩
    have B3 := Lib.hid (B2'.out.trans (hb3.mono (by omega)))
    go_wp2_with fail
    go_ret
    exact ⟨rfl, B3.out⟩
  rw [hfw] at P2'
  have hfw' := Lib.hid hfw
  clear hfw
  go_wp2_with fail
  refine P2'.out.mono ?_
  rintro e w3 ⟨rfl, hb3⟩
  have l3 := hb3.size
  have B3 := B2'.out.trans (hb3.mono (by omega))
  have bx3 := bx2'.out.below hb3 lx2
  have c3 := bx3.cell
  have lx3 := bx3.lt
  have P3 := print_calls _ ts w3 (hS'.out.later B3) (by omega)
  have P3' := Lib.hid P3
  have B3' := Lib.hid B3
  have bx3' := Lib.hid bx3
  clear P3 B3 bx3 hb3 c2 P2'
  cases hT : tysT ts with
  | none =>
    rw [hT] at P3'
    have hT' := Lib.hid hT
    clear hT
    go_wp2_with fail
    refine P3'.out.mono ?_
    intro e w4 h4
    obtain ⟨h4, hb4⟩ := h4
    rcases h4 with ⟨y, hy, _⟩ | ⟨_, rfl⟩
    · cases hy
    have l4 := hb4.size
    have B4 := B3'.out.trans (hb4.mono (by omega))
    have bx4 := bx3'.out.below hb4 lx3
    have c4 := bx4.cell
    have lx4 := bx4.lt
    have P4 := dprint_calls _ ts w4 (hS'.out.later B4) (by omega)
    rw [hT'.out] at P4
    have P4' := Lib.hid P4
    have B4' := Lib.hid B4
    clear P4 B4 bx4 hb4 c3
    go_wp2_with fail
    refine P4'.out.mono ?_
    intro e w5 h5
    obtain ⟨h5, hb5⟩ := h5
    rcases h5 with ⟨y, hy, _⟩ | ⟨_, rfl⟩
    · cases hy
    have B5 := Lib.hid (B4'.out.trans (hb5.mono (by omega)))
    clear hb5
    go_wp2_with fail
    go_ret
    exact ⟨rfl, B5.out⟩
  | some x =>
    have hxl := few_len hfw'.out hT
    have hback := back_parse hT
    rw [hT] at P3'
    have hT' := Lib.hid hT
    have hback' := Lib.hid hback
    clear hT hback
    go_wp2_with fail
    refine P3'.out.mono ?_
    intro e w4 h4
    obtain ⟨rfl, hb4⟩ := h4.yes rfl
    have l4 := hb4.size
    have B4 := B3'.out.trans (hb4.mono (by omega))
    have bx4 := bx3'.out.below hb4 lx3
    have c4 := bx4.cell
    have lx4 := bx4.lt
    have P4 := dprint_calls _ ts w4 (hS'.out.later B4) (by omega)
    rw [hT'.out] at P4
    have P4' := Lib.hid P4
    have B4' := Lib.hid B4
    have bx4' := Lib.hid bx4
    clear P4 B4 bx4 hb4 h4 c3
    go_wp2_with fail
    refine P4'.out.mono ?_
    intro e w5 h5
    obtain ⟨rfl, hb5⟩ := h5.yes rfl
    have l5 := hb5.size
    have B5 := B4'.out.trans (hb5.mono (by omega))
    have bx5 := bx4'.out.below hb5 lx4
    have lx5 := bx5.lt
    obtain ⟨hg5, hm5⟩ := hlater'.out w5 B5
    have P5 := parse_calls ⟨x.toArray⟩ m w5 (by rw [mk_size]; omega) hg5 hm5
    have P5' := Lib.hid P5
    have B5' := Lib.hid B5
    have bx5' := Lib.hid bx5
    clear P5 B5 bx5 hb5 h5 c4 hg5 hm5
    go_wp2_with fail
    refine P5'.out.mono ?_
    intro e w6 h6
    obtain ⟨q, d, us, he, hSc, hb6⟩ := h6.yes hback'.out
    subst he
    have l6 := hb6.size
    have B6 := B5'.out.trans (hb6.mono (by omega))
    have bx6 := bx5'.out.below hb6 lx5
    have hV6 : SchV w6 (.slice q ts.length d) ts := SchV.of_sch hSc (N := 20000000) (by unfold maxLen; decide) (tsSmall_of hW)
    have hV6a := hS'.out.later B6
    have hb7 := (Below.refl w6.heap.size w6).alloc (Nat.le_refl _) (.cells #[.slice q ts.length d] 25)
    have S := same_calls _ _ ts ts _ (hV6a.later hb7) (hV6.later hb7)
    have B7 := B6.trans (hb7.mono (by omega))
    have c6 := bx6.cell
    have l26 := bx6.lt
    have hz7 : (w6.alloc (.cells #[.slice q ts.length d] 25)).heap.size = w6.heap.size + 1 := by simp
    have S' := Lib.hid S
    have B7' := Lib.hid B7
    clear S B7 hb7 B6 bx6 hV6 hV6a hSc hb6 h6
    go_wp2_with fail
    refine S'.out.mono ?_
    rintro e w7 ⟨b, rfl, hbe, hb8⟩
    obtain rfl : b = true := hbe.2 trivial
    have B8 := Lib.hid (B7'.out.trans (hb8.mono (by omega)))
    clear hb8 hbe
    go_wp2_with fail
    go_ret
    exact ⟨rfl, B8.out⟩
end Go.Proofs.YtkibaaljpbcjeaaDoor
