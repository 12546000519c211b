/- Walk: the law SchemaAgain. -/
import Derived.Test.YtkibaaljpbcjeaaDoorSP1
import Derived.Test.YtkibaaljpbcjeaaDoorSQ5
namespace Go.Proofs.YtkibaaljpbcjeaaDoor
open Go.RowKit
theorem mk_data (x : List UInt8) : (⟨x.toArray⟩ : ByteArray).data.toList = x := rfl
theorem mk_size (x : List UInt8) : (⟨x.toArray⟩ : ByteArray).size = x.length := by rw [Lib.size_eq]
/-- the program parses a printed schema as it was -/
theorem back_parse {ts : List TyD} {x : List UInt8} (h : tysT ts = some x) : parseG ((linesB ⟨x.toArray⟩).map (·.data.toList)) 0 [] = (some ts, 0) := by
  rw [parse_both, mk_data]
  exact printed_back h
set_option maxHeartbeats 4000000 in
set_option maxRecDepth 100000 in
theorem schemaAgain_calls (s : ByteArray) (m : Int) (w : World) (hs : s.size ≤ maxLen) (hm : w.cell? ⟨0, 0, none⟩ = some (.int .i64 m)) :
    Calls Tryd.prog 5 #[.string s] w fun e w' => e = .returned (.bool true) ∧ Below w.heap.size w w' := by
  have hg : 0 < w.heap.size := World.block_lt_of_cell? w _ hm
  have F := fixed_calls m w hg hm
  have hlater : ∀ W, Below w.heap.size w W → 0 < W.heap.size ∧ W.cell? ⟨0, 0, none⟩ = some (.int .i64 m) := fun W hb => ⟨Nat.lt_of_lt_of_le hg hb.size, by rw [hb.cell (p := ⟨0, 0, none⟩) hg]; exact hm⟩
  have hlater' := Lib.hid hlater
  have F' := Lib.hid F
  unfold maxLen at hs
  clear hlater F hg hm
  by_cases hskip : 3000 < s.size
  · go_enter Tryd.func5, Tryd.ntmps5
    go_wp2_with fail
    refine F'.out.mono ?_
    rintro e w1 ⟨rfl, hb1⟩
    go_wp2_with fail
    go_ret
    exact ⟨rfl, hb1⟩
  go_enter Tryd.func5, Tryd.ntmps5
  go_wp2_with fail
  refine F'.out.mono ?_
  rintro e w1 ⟨rfl, hb1⟩
  have l1 := hb1.size
  obtain ⟨hg1, hm1⟩ := hlater'.out w1 hb1
  have P1 := parse_calls s m w1 (by omega) hg1 hm1
  have P1' := Lib.hid P1
  clear P1 hg1 hm1
  go_wp2_with fail
  refine P1'.out.mono ?_
  intro e w2 h2
  obtain ⟨ts, k, x, hq, p, c, rfl, hV, hb2⟩ := h2.both
  have l2 := hb2.size
  have B2 := hb1.trans (hb2.mono l1)
  obtain ⟨w3, e3⟩ : ∃ w3, w2.alloc (.cells #[.slice p ts.length c] 25) = w3 := ⟨_, rfl⟩
  have bx3 := Blk.new w2 25 #[.slice p ts.length c]
  have hb3 := (Below.refl w2.heap.size w2).alloc (Nat.le_refl _) (.cells #[.slice p ts.length c] 25)
  have hz3 : w3.heap.size = w2.heap.size + 1 := by rw [← e3]; simp
  rw [e3] at bx3 hb3
  have B3 := B2.trans (hb3.mono (by omega))
  have c3 := bx3.cell
  rcases hq with ⟨rfl, rfl, hq⟩ | ⟨rfl, rfl, hq⟩
  · rw [parse_both] at hq
    have hW := parse_W hq
    obtain ⟨t, ht⟩ := parsed_text hq
    have hL := parse_L hq ht
    rw [← Lib.size_eq] at hW hL
    have hV2 := hV (by omega)
    have hV3 := hV2.later hb3
    have P3 := print_calls _ ts w3 hV3 (by omega)
    have hback := back_parse ht
    have P3' := Lib.hid P3
    have bx3' := Lib.hid bx3
    have B3' := Lib.hid B3
    have hV3' := Lib.hid hV3
    have hback' := Lib.hid hback
    have ht' := Lib.hid ht
    clear P3 bx3 hb3 B3 hV3 hback ht hV2 hV B2 hb1 hb2 hq h2
    go_wp2_with fail
    refine P3'.out.mono ?_
    intro e w4 h4
    obtain ⟨rfl, hb4⟩ := h4.yes ht'.out
    have l4 := hb4.size
    have B4 := B3'.out.trans (hb4.mono (by omega))
    have bx4 := bx3'.out.below hb4 (by omega)
    have hV4 := hV3'.out.later hb4
    obtain ⟨hg4, hm4⟩ := hlater'.out w4 B4
    have P4 := parse_calls ⟨t.toArray⟩ m w4 (by rw [mk_size]; omega) hg4 hm4
    have P4' := Lib.hid P4
    have B4' := Lib.hid B4
    have bx4' := Lib.hid bx4
    have hV4' := Lib.hid hV4
    clear P4 B4 bx4 hV4 hg4 hm4 hb4 h4 c3
    go_wp2_with fail
    refine P4'.out.mono ?_
    intro e w5 h5
    obtain ⟨q, d, us, he, hS, hb5⟩ := h5.yes hback'.out
    subst he
    have l5 := hb5.size
    have hV5 : SchV w5 (.slice q ts.length d) ts := SchV.of_sch hS (N := 5000000) (Nat.le_trans (by decide) big_max) (tsSmall_of (by omega))
    have hV5a := hV4'.out.later hb5
    have bx5 := bx4'.out.below hb5 (by omega)
    have B5 := B4'.out.trans (hb5.mono (by omega))
    have hb6 := (Below.refl w5.heap.size w5).alloc (Nat.le_refl _) (.cells #[.slice q ts.length d] 25)
    have S := same_calls _ _ ts ts _ (hV5a.later hb6) (hV5.later hb6)
    have B6 := B5.trans (hb6.mono (by omega))
    have c5 := bx5.cell
    have l25 := bx5.lt
    have hz6 : (w5.alloc (.cells #[.slice q ts.length d] 25)).heap.size = w5.heap.size + 1 := by simp
    have S' := Lib.hid S
    have B6' := Lib.hid B6
    clear S B6 hb6 B5 bx5 hV5 hV5a hS hb5 h5
    go_wp2_with fail
    refine S'.out.mono ?_
    rintro e w6 ⟨b, rfl, hbe, hb6⟩
    obtain rfl : b = true := hbe.2 trivial
    have B7 := B6'.out.trans (hb6.mono (by omega))
    have B7' := Lib.hid B7
    clear B7 hb6 hbe
    go_wp2_with fail
    go_ret
    exact ⟨rfl, B7'.out⟩
  · have B3' := Lib.hid B3
    rw [show ([] : List TyD).length = 0 from rfl] at e3 c3
    clear bx3 hb3 B3 hV B2 hb1 hb2 hq h2
    go_wp2_with fail
    go_ret
    exact ⟨rfl, B3'.out⟩
end Go.Proofs.YtkibaaljpbcjeaaDoor
