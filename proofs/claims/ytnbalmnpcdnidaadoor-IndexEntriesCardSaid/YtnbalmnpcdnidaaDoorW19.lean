/- Walk: Entries of layer 24, the program's. -/
import Derived.Test.YtnbalmnpcdnidaaDoorEnt
import Derived.LoopN
namespace Go.Proofs.YtnbalmnpcdnidaaDoor
open Go.RowKit
set_option maxHeartbeats 4000000 in
set_option maxRecDepth 100000 in
theorem entries_calls (l : List Wr) (p : Option Addr) (cap : Nat) (w : World) (hl : l.length ≤ 60) (hh : holdsW w p l) (hf : ∀ x ∈ l, x.t.fits) :
    Calls Tryd.prog 32 #[.slice p l.length cap] w (EntPost l w) := by
  obtain ⟨i0, hi, hz0, hz1, hz2⟩ := info_parts info_ent
  generalize hlen : l.length = n at hl
  have hlen' := Lib.hid hlen
  clear hlen
  have hh' := Lib.hid hh
  clear hh
  go_enter Tryd.func32, Tryd.ntmps32
  go_wp2_with fail
  go_loopw [4, 13] (fun v i wr => ∃ k : Nat, k ≤ n ∧ i = .int .i64 k ∧ (∀ j y, j < k → l[j]? = some y → y.t.ok = true) ∧ wr.ownsRow w.heap.size 58 3 v (2 * k) (entCells (l.take k)) ∧ Below w.heap.size w wr) (fun _ i _ => n - (intOf i).toNat)
  case atStart => exact ⟨0, Nat.zero_le _, rfl, fun j y hj => absurd hj (by omega), World.ownsRow_nil _ _ _ _, Below.refl _ _⟩
  case round =>
    obtain ⟨k, hk, rfl, hall, hown, hB⟩ := hrel
    have hall' := Lib.hid hall
    clear hall
    by_cases hlt : k < n
    · obtain ⟨x, hx⟩ : ∃ x, l[k]? = some x := ⟨_, List.getElem?_eq_getElem (by have := hlen'.out; omega)⟩
      obtain ⟨a, b, rfl, hab, hbb, q0, q1, q2, q3, q4, q5, q6⟩ := hh'.out.at_ (Nat.le_refl _) hB hx
      have hx' := Lib.hid hx
      have hft := hf x (List.mem_of_getElem? hx)
      have hz := hB.size
      clear hx
      cases hok : x.t.ok
      · have hno := all_no hx'.out hok
        go_wp2_with fail
        refine (keys_no x.t _ hft hok).mono ?_
        rintro e w1 ⟨rfl, hb1⟩
        have B1 := (hB.alloc hz _).trans (hb1.mono (by simp; omega))
        clear q0 q1 q2 q3 q4 q5 q6 hb1 hown hB
        go_wp2
        go_ret2
        exact ⟨B1, .inr ⟨hno, rfl⟩⟩
      · go_wp2_with fail
        refine (keys_yes x.t _ hft hok).mono ?_
        unfold KeysPost
        rintro e w1 ⟨g, rfl, kk, hgl, hb1⟩
        have bw := (Blk.new wr 52 #[.bool x.del, .string x.t.a, .string x.t.b, .string x.t.c, .string x.t.d, .string x.t.e, .string x.t.f]).below hb1 (by simp)
        have B1 := (hB.alloc hz _).trans (hb1.mono (by simp; omega))
        have own1 := own_below (hown.alloc _) hb1
        have z1 : wr.heap.size < w1.heap.size := by have := hb1.size; simp at this; omega
        clear q0 q1 q2 q3 q4 q5 q6 hb1 hown hB
        have kl := kk.lt
        have kc := kk.cell
        have bc := bw.cell
        go_wp2_with fail
        refine wp_loop_rounds 3 ?_
        rw [rounds_succ]
        go_wp2_with (first
          | (at_builtin; refine wpList_append_own _ rfl _ _ 53 rfl w.heap.size 58 i0 (.agg #[.string ⟨#[]⟩, .int .u64 0, .bool false]) 3 32 Tryd.underlying53 hi hz0 hz1 hz2 rfl (by decide) _ _ _ rfl (own1.alloc _) ⟨_, 0, none⟩ 1 1 (fEnt x) rfl rfl ?c21 ?c22 ?c23 ?c24 ?c25 ?_)
          | go_in)
        case c21 => exact news_at _ _ _ _ _
        case c22 => exact news_one _ _
        case c23 => unfold maxLen; omega
        case c24 => omega
        case c25 => simp; omega
        intro v1 w2 own2 hg2 _
        obtain ⟨B2, z2⟩ := ent_below B1 (by omega) own1 hg2
        have kk := (kk.alloc (.cells #[.string (fKey x.t), .int .u64 0, .bool x.del] 58)).grown hg2 (fun e => own_blk_ne own1 kk (by decide) e.symm)
        have bw := (bw.alloc (.cells #[.string (fKey x.t), .int .u64 0, .bool x.del] 58)).grown hg2 (fun e => own_blk_ne own1 bw (by decide) e.symm)
        clear kl kc bc own1 hg2 B1
        have kl := kk.lt
        have kc := kk.cell
        have bc := bw.cell
        go_wp2_with fail
        rw [rounds_succ]
        go_wp2_with (first
          | (at_builtin; refine wpList_append_own _ rfl _ _ 53 rfl w.heap.size 58 i0 (.agg #[.string ⟨#[]⟩, .int .u64 0, .bool false]) 3 32 Tryd.underlying53 hi hz0 hz1 hz2 rfl (by decide) _ _ _ rfl (own2.alloc _) ⟨_, 0, none⟩ 1 1 (rEnt x) rfl rfl ?c31 ?c32 ?c33 ?c34 ?c35 ?_)
          | go_in)
        case c31 => exact news_at _ _ _ _ _
        case c32 => exact news_one _ _
        case c33 => unfold maxLen; omega
        case c34 => omega
        case c35 => simp; omega
        intro v2 w3 own3 hg3 _
        obtain ⟨B3, z3⟩ := ent_below B2 (by omega) own2 hg3
        have own4 : w3.ownsRow w.heap.size 58 3 v2 (2 * (k + 1)) (entCells (l.take (k + 1))) := by
          rw [← entCells_succ hx'.out, List.append_assoc]
          exact own3
        have hall2 := next_ok hall'.out hx'.out hok
        clear kl kc bc own2 hg3 B2 own3 kk bw hall' hx'
        go_wp2_with fail
        rw [rounds_succ]
        go_wp2
        go_roundw
        case rel => exact ⟨k + 1, by omega, by go_num, hall2, own4, B3⟩
        case measure => simp [intOf]; omega
    · obtain rfl : k = n := by omega
      have ha := all_yes (l := l) fun j x hj hx => hall'.out j x (by have := hlen'.out; omega) hx
      have ho : wr.ownsRow w.heap.size 58 3 u4 (2 * l.length) (entCells l) := by
        have h := hown
        rw [← hlen'.out, List.take_length] at h
        exact h
      have ho' := Lib.hid ho
      have ha' := Lib.hid ha
      clear ho ha hown
      go_wp2
      go_ret2
      exact ⟨hB, .inl ⟨ha'.out, _, rfl, ho'.out⟩⟩
end Go.Proofs.YtnbalmnpcdnidaaDoor
