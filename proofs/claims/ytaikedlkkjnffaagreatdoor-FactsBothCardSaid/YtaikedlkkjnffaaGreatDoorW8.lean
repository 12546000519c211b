/- Walks: the reference's Cmp. -/
import Derived.Test.YtaikedlkkjnffaaGreatDoorW7
namespace Go.Proofs.YtaikedlkkjnffaaGreatDoor
open Go.RowKit
set_option maxHeartbeats 2000000 in
theorem refCmp_calls (t u : Tup) (w : World) :
    Calls Tryz.prog 30 #[t.v, u.v] w fun e w' => e = .returned (.int .i64 (cmpT t u)) ∧ Below w.heap.size w w' := by
  unfold Tup.v
  have b0 : ∀ i, ((w.alloc (.cells t.cells 60)).alloc (.cells u.cells 60)).cell? ⟨w.heap.size, i, none⟩ = (#[.string t.a, .string t.b, .string t.c, .string t.d, .string t.e, .string t.f] : Array Value)[i]? := fun i => ((Blk.new w 60 t.cells).alloc _).cell i
  have b1 : ∀ i, ((w.alloc (.cells t.cells 60)).alloc (.cells u.cells 60)).cell? ⟨w.heap.size + 1, i, none⟩ = (#[.string u.a, .string u.b, .string u.c, .string u.d, .string u.e, .string u.f] : Array Value)[i]? := fun i => by
    have h := (Blk.new (w.alloc (.cells t.cells 60)) 60 u.cells).cell i
    simp only [World.size_alloc] at h
    exact h
  go_enter Tryz.func30, Tryz.ntmps30
  go_wp2_with fail
  go_region_held3 (fun w' => (∀ i, w'.cell? ⟨w.heap.size, i, none⟩ = (#[.string t.a, .string t.b, .string t.c, .string t.d, .string t.e, .string t.f] : Array Value)[i]?) ∧ (∀ i, w'.cell? ⟨w.heap.size + 1, i, none⟩ = (#[.string u.a, .string u.b, .string u.c, .string u.d, .string u.e, .string u.f] : Array Value)[i]?) ∧ Below ((w.alloc (.cells t.cells 60)).alloc (.cells u.cells 60)).heap.size ((w.alloc (.cells t.cells 60)).alloc (.cells u.cells 60)) w')
    (first | exact keep2_drew b0 b1 | exact keep2 (by simp; omega) (by simp) (by assumption) (by assumption))
    (first
      | (go_at_call_of 23 (t.a); refine (parts_below t _).mono ?_; rintro e w3 ⟨g1, rfl, k1, hg1, hb3⟩)
      | (go_at_call_of 23 (u.a); refine (parts_below u _).mono ?_; rintro e w4 ⟨g2, rfl, k2, hg2, hb4⟩))
  have Z4 : w.heap.size + 2 ≤ w3.heap.size := by have := hb3.size; simp at this; omega
  have B4 : Below w.heap.size w w4 := (((Below.refl _ _).alloc (Nat.le_refl _) _).alloc (by simp) _).drew.trans (hb3.mono (by simp; omega)) |>.trans (hb4.mono (by omega))
  have k1' := Lib.hid (k1.below hb4 k1.lt)
  have k2' := Lib.hid k2
  clear k1 k2 hg1 hb3 hg2 hb4 b0 b1 Z4
  rename_i hHeld
  clear hHeld
  go_wp2
  go_loopw [14] (fun i wr => ∃ k : Nat, k ≤ 6 ∧ i = .int .i64 k ∧ (∀ j, j < k → Lib.compareBytes (t.part j).data.toList (u.part j).data.toList = 0) ∧ Below w4.heap.size w4 wr) (fun i _ => 6 - (intOf i).toNat)
  case atStart => exact ⟨0, by omega, rfl, fun j hj => absurd hj (by omega), Below.refl _ _⟩
  case round =>
    obtain ⟨k, hk, rfl, hsm, hb⟩ := hrel
    have hsm' := Lib.hid hsm
    clear hsm
    by_cases hlt : k < 6
    · have q1 : wr.cell? ⟨g1, k, none⟩ = some (.string (t.part k)) := (hb.cell (p := ⟨g1, k, none⟩) k1'.out.lt).trans ((k1'.out.cell k).trans (cells_part t k hlt))
      have q2 : wr.cell? ⟨g2, k, none⟩ = some (.string (u.part k)) := (hb.cell (p := ⟨g2, k, none⟩) k2'.out.lt).trans ((k2'.out.cell k).trans (cells_part u k hlt))
      by_cases c0 : Lib.compareBytes (t.part k).data.toList (u.part k).data.toList = 0
      · have r1 := less_n (a := t.part k) (b := u.part k) (by omega)
        have r2 := eq_y c0
        have c0' := Lib.hid c0
        clear c0
        go_wp2_with fail
        go_quiet (fail)
        go_wp2_with fail
        go_quiet (fail)
        go_wp2
        go_roundw
        case rel => exact ⟨k + 1, by omega, by go_num, cb_next hsm'.out c0'.out, bdrewN hb _⟩
        case measure => simp [intOf]; omega
      by_cases c1 : Lib.compareBytes (t.part k).data.toList (u.part k).data.toList = -1
      · have r1 := less_m c1
        have c0' := Lib.hid c0
        have c1' := Lib.hid c1
        clear c0 c1
        go_wp2_with fail
        go_quiet (fail)
        go_wp2
        go_ret
        exact ⟨ret_int (by rw [cmpT_at t u k hlt hsm'.out c0'.out, c1'.out]), B4.trans ((bdrewN hb _).mono (by have := B4.size; omega))⟩
      · have r1 := less_n c1
        have r2 := eq_n c0
        have c2 : Lib.compareBytes (t.part k).data.toList (u.part k).data.toList = 1 := by
          rcases cb_three (t.part k).data.toList (u.part k).data.toList with h | h | h
          · exact absurd h c0
          · exact absurd h c1
          · exact h
        have c0' := Lib.hid c0
        have c2' := Lib.hid c2
        clear c0 c1 c2
        go_wp2_with fail
        go_quiet (fail)
        go_wp2_with fail
        go_quiet (fail)
        go_wp2
        go_ret
        exact ⟨ret_int (by rw [cmpT_at t u k hlt hsm'.out c0'.out, c2'.out]), B4.trans ((bdrewN (bdrewN hb _) _).mono (by have := B4.size; omega))⟩
    · have hn := cmpT_all t u fun j hj => hsm'.out j (by omega)
      have hn' := Lib.hid hn
      clear hn
      go_wp2
      go_ret
      exact ⟨ret_int hn'.out.symm, B4.trans (hb.mono (by have := B4.size; omega))⟩
end Go.Proofs.YtaikedlkkjnffaaGreatDoor
