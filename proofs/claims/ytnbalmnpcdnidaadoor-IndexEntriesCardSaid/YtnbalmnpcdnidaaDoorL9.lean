/- The law IndexEntries: the walk. -/
import Derived.Test.YtnbalmnpcdnidaaDoorEntEq
import Derived.Test.YtnbalmnpcdnidaaDoorFew24
namespace Go.Proofs.YtnbalmnpcdnidaaDoor
open Go.RowKit
attribute [local go_sem ↓] neq_ent
set_option maxHeartbeats 4000000 in
set_option maxRecDepth 100000 in
theorem indexEntries_calls (l : List Wr) (p : Option Addr) (cap : Nat) (m : Int) (w : World) (hl : l.length ≤ maxLen) (hh : holdsW w p l) (hf : ∀ x ∈ l, x.t.fits) (hm : w.cell? ⟨0, 0, none⟩ = some (.int .i64 m)) :
    Calls Tryd.prog 8 #[.slice p l.length cap] w fun e w' => e = .returned (.bool true) ∧ Below w.heap.size w w' := by
  have hg : 0 < w.heap.size := World.block_lt_of_cell? w _ hm
  unfold maxLen at hl
  have hh' := Lib.hid hh
  clear hh
  go_enter Tryd.func8, Tryd.ntmps8
  go_wp2_with fail
  refine (fixed24_calls m _ hm).mono ?_
  clear hm
  rintro e w1 ⟨rfl, B1⟩
  by_cases h60 : l.length ≤ 60
  · generalize hlen : l.length = n at *
    have hlen' := Lib.hid hlen
    clear hlen
    go_wp2_with fail
    go_loopw [17] (fun i wr => ∃ k : Nat, k ≤ n ∧ i = .int .i64 k ∧ Below w.heap.size w wr) (fun i _ => n - (intOf i).toNat)
    case atStart => exact ⟨0, Nat.zero_le _, rfl, B1⟩
    case round =>
      obtain ⟨k, hk, rfl, hB⟩ := hrel
      clear B1
      by_cases hlt : k < n
      · obtain ⟨x, hx⟩ : ∃ x, l[k]? = some x := ⟨_, List.getElem?_eq_getElem (by have := hlen'.out; omega)⟩
        obtain ⟨a, b, rfl, hab, hbb, q0, q1, q2, q3, q4, q5, q6⟩ := hh'.out.at_ (Nat.le_refl _) hB hx
        have hft := hf x (List.mem_of_getElem? hx)
        have hz := hB.size
        clear hx
        have hfw := few24_one x.t (wr.alloc (.cells #[.bool x.del, .string x.t.a, .string x.t.b, .string x.t.c, .string x.t.d, .string x.t.e, .string x.t.f] 52)) hft
        rw [World.size_alloc] at hfw
        have hfw' := Lib.hid hfw
        clear hfw
        go_wp2_with fail
        refine hfw'.out.mono ?_
        rintro e w2 ⟨rfl, hb2⟩
        have B2 := ((hB.alloc hz _).alloc (by simp; omega) _).trans (hb2.mono (by omega))
        clear hb2 hB q0 q1 q2 q3 q4 q5 q6
        cases hfew : x.t.few
        · go_wp2
          go_ret
          exact ⟨rfl, B2⟩
        · go_wp2
          go_roundw
          case rel => exact ⟨k + 1, by omega, by go_num, B2⟩
          case measure => simp [intOf]; omega
      · have hz := hB.size
        have h1 := entries_calls l p cap wr (by rw [hlen'.out]; exact h60) (hh'.out.below (Nat.le_refl _) hB) hf
        rw [hlen'.out] at h1
        have h1' := Lib.hid h1
        clear h1
        go_wp2_with fail
        refine h1'.out.mono ?_
        clear h1'
        unfold EntPost
        rintro e w2 ⟨hb2, hr⟩
        have B2 := hB.trans (hb2.mono hz)
        have z2 := B2.size
        have h2 := refEntries_calls l p cap w2 (by rw [hlen'.out]; exact h60) (hh'.out.below (Nat.le_refl _) B2) hf
        rw [hlen'.out] at h2
        have h2' := Lib.hid h2
        clear h2 hb2 hB
        rcases hr with ⟨hok, v, rfl, own1⟩ | ⟨hok, rfl⟩
        · go_wp2_with fail
          refine h2'.out.mono ?_
          clear h2'
          unfold EntPost
          rintro e w3 ⟨hb3, hr⟩
          rcases hr with ⟨_, v', rfl, own2⟩ | ⟨hno, _⟩
          · have B3 := B2.trans (hb3.mono z2)
            have own1 := own_below own1 hb3
            rw [hlen'.out] at own1 own2
            obtain ⟨p1, c1, rfl⟩ := own_shape own1
            obtain ⟨p2, c2, rfl⟩ := own_shape own2
            clear hb3 B2
            have hat := Lib.hid (ent_at l)
            generalize entCells l = xs at *
            generalize hN : 2 * n = N at *
            have hN' := Lib.hid hN
            have hNl : N ≤ 120 := by omega
            clear hN
            have z3 := B3.size
            go_wp2_with fail
            go_loopw [49] (fun i wx => ∃ k : Nat, k ≤ N ∧ i = .int .i64 k ∧ wx.ownsRow wr.heap.size 58 3 (.slice p1 N c1) N xs ∧ wx.ownsRow w2.heap.size 58 3 (.slice p2 N c2) N xs ∧ Below w.heap.size w wx) (fun i _ => N - (intOf i).toNat)
            case atStart => exact ⟨0, Nat.zero_le _, rfl, own1, own2, B3⟩
            case round =>
              obtain ⟨j, hj, rfl, o1, o2, hB4⟩ := hrel
              clear own1 own2 B3
              by_cases hjt : j < N
              · obtain ⟨K, D, d0, d1, d2⟩ := hat.out j (by rw [hlen'.out, hN'.out]; exact hjt)
                obtain ⟨g1, rfl⟩ := own_some o1 (by omega)
                obtain ⟨g2, rfl⟩ := own_some o2 (by omega)
                have a0 := (o1.cellAt (j * 3) (by omega)).trans d0
                have a1 := (o1.cellAt (j * 3 + 1) (by omega)).trans d1
                have a2 := (o1.cellAt (j * 3 + 2) (by omega)).trans d2
                have b0 := (o2.cellAt (j * 3) (by omega)).trans d0
                have b1 := (o2.cellAt (j * 3 + 1) (by omega)).trans d1
                have b2 := (o2.cellAt (j * 3 + 2) (by omega)).trans d2
                go_wp2_with fail
                go_quiet (fail)
                rename_i nq
                have o1 := own_below o1 (bdrewN (Below.refl _ _) nq)
                have o2 := own_below o2 (bdrewN (Below.refl _ _) nq)
                have hB4 := bdrewN hB4 nq
                clear a0 a1 a2 b0 b1 b2
                go_wp2
                go_roundw
                case rel => exact ⟨j + 1, by omega, by go_num, o1, o2, hB4⟩
                case measure => simp [intOf]; omega
              · go_wp2
                go_ret
                exact ⟨rfl, hB4⟩
          · rw [hok] at hno; cases hno
        · go_wp2_with fail
          refine h2'.out.mono ?_
          clear h2'
          unfold EntPost
          rintro e w3 ⟨hb3, hr⟩
          rcases hr with ⟨hno, _⟩ | ⟨_, rfl⟩
          · rw [hok] at hno; cases hno
          · have B3 := B2.trans (hb3.mono z2)
            clear hb3 B2
            go_wp2_with fail
            refine wp_loop_rounds 1 ?_
            rw [rounds_succ]
            go_wp2
            go_ret
            exact ⟨rfl, B3⟩
  · go_wp2
    go_ret
    exact ⟨rfl, B1⟩
end Go.Proofs.YtnbalmnpcdnidaaDoor
