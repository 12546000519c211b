/- Walks: conditions: all, cond; the whole of a condition. -/
import Derived.Test.YtfhdecdlkmibmaaDoorCAu
namespace Go.Proofs.YtfhdecdlkmibmaaDoor
open Go.RowKit
theorem Told.congr {G G' : Toks → Res} {w : World} {g : Nat} {s : ByteArray} {l : Toks} {deep : Int} {e : Ending} {w' : World} (h : Told G w g s l deep e w') (hG : G l = G' l) : Told G' w g s l deep e w' := by
  unfold Told at h ⊢
  rw [← hG]; exact h
set_option maxHeartbeats 1000000 in
theorem all_calls {w : World} {g : Nat} {s : ByteArray} {l : Toks} {deep : Int} (N : Toks → Res) (h : Rd w g s l deep false)
    (hN : ∀ m w, Rd w g s m deep false → Calls Tryd.prog 33 #[.pointer (some ⟨g, 0, none⟩)] w (Told N w g s m deep)) :
    Calls Tryd.prog 25 #[.pointer (some ⟨g, 0, none⟩)] w (Told (gRow N andL 7) w g s l deep) := by
  have hgl := h.lt
  have h5 := h.b5
  have hB := Lib.hid (Blk.new w 25 condZ)
  have hz0' := Lib.hid (alloc_size w (.cells condZ 25))
  have h1 := Lib.hid (h.alloc (.cells condZ 25))
  have k1 := Lib.hid ((Keeps.refl (fun j => j = g) w).alloc (.cells condZ 25))
  have D := Lib.hid (row_calls 33 (fun _ _ => by go_simp) ⟨#[97, 110, 100]⟩ 7 N h1.out hN)
  clear h hN
  go_enter Tryd.func25, Tryd.ntmps25
  go_wp2_with fail
  refine D.out.mono ?_
  rintro e w3 ⟨cs, c, m, d, b, rfl, hC, hR3, k3, hm1, hm2, hcase⟩
  have hB3 := Lib.hid (hB.out.keeps k3 (Nat.ne_of_gt hgl))
  have hK3 := Lib.hid (k1.out.trans k3)
  have hC3 := Lib.hid (hC.mono (Q := fun j => w.heap.size < j) fun j hj _ => by rw [hz0'.out] at hj; exact hj)
  obtain ⟨Q, pp, nn, cc, rfl⟩ := hC.open_
  have hR3' := Lib.hid hR3
  have hcase' := Lib.hid hcase
  have b4 := Blk.cell hB3.out
  have bf4 := Blk.frozen hB3.out
  unfold condZ at b4
  clear hC hR3 k3 hcase D
  go_wp2_with fail
  obtain ⟨W, eW, hBW, hRW, hKW⟩ := put_cond rfl hB3.out hR3'.out (Nat.ne_of_lt hgl) (Nat.ne_of_lt h5) (.int .i64 c.kind) (.int .i64 c.num) (.string Q) (.slice pp nn cc)
  rw [eW]
  have c5 := hBW.cell
  refine bodyPost_ret (v := .agg #[.int .i64 c.kind, .int .i64 c.num, .string Q, .slice pp nn cc]) (by simp [results, Tryd.results25, go_sem, c5]) rfl ?_
  exact ⟨_, c, m, d, b, rfl, (hC3.out.keeps hKW fun j hj _ e => by omega).mono fun j hj _ => Nat.le_of_lt hj, hRW, hK3.out.step hKW (fun j e => .inr (by omega)), hm1, hm2, hcase'.out⟩
set_option maxHeartbeats 1000000 in
theorem condr_calls {w : World} {g : Nat} {s : ByteArray} {l : Toks} {deep : Int} (N : Toks → Res) (h : Rd w g s l deep false)
    (hN : ∀ m w, Rd w g s m deep false → Calls Tryd.prog 25 #[.pointer (some ⟨g, 0, none⟩)] w (Told N w g s m deep)) :
    Calls Tryd.prog 13 #[.pointer (some ⟨g, 0, none⟩)] w (Told (gRow N orL 8) w g s l deep) := by
  have hgl := h.lt
  have h5 := h.b5
  have hB := Lib.hid (Blk.new w 25 condZ)
  have hz0' := Lib.hid (alloc_size w (.cells condZ 25))
  have h1 := Lib.hid (h.alloc (.cells condZ 25))
  have k1 := Lib.hid ((Keeps.refl (fun j => j = g) w).alloc (.cells condZ 25))
  have D := Lib.hid (row_calls 25 (fun _ _ => by go_simp) ⟨#[111, 114]⟩ 8 N h1.out hN)
  clear h hN
  go_enter Tryd.func13, Tryd.ntmps13
  go_wp2_with fail
  refine D.out.mono ?_
  rintro e w3 ⟨cs, c, m, d, b, rfl, hC, hR3, k3, hm1, hm2, hcase⟩
  have hB3 := Lib.hid (hB.out.keeps k3 (Nat.ne_of_gt hgl))
  have hK3 := Lib.hid (k1.out.trans k3)
  have hC3 := Lib.hid (hC.mono (Q := fun j => w.heap.size < j) fun j hj _ => by rw [hz0'.out] at hj; exact hj)
  obtain ⟨Q, pp, nn, cc, rfl⟩ := hC.open_
  have hR3' := Lib.hid hR3
  have hcase' := Lib.hid hcase
  have b4 := Blk.cell hB3.out
  have bf4 := Blk.frozen hB3.out
  unfold condZ at b4
  clear hC hR3 k3 hcase D
  go_wp2_with fail
  obtain ⟨W, eW, hBW, hRW, hKW⟩ := put_cond rfl hB3.out hR3'.out (Nat.ne_of_lt hgl) (Nat.ne_of_lt h5) (.int .i64 c.kind) (.int .i64 c.num) (.string Q) (.slice pp nn cc)
  rw [eW]
  have c5 := hBW.cell
  refine bodyPost_ret (v := .agg #[.int .i64 c.kind, .int .i64 c.num, .string Q, .slice pp nn cc]) (by simp [results, Tryd.results13, go_sem, c5]) rfl ?_
  exact ⟨_, c, m, d, b, rfl, (hC3.out.keeps hKW fun j hj _ e => by omega).mono fun j hj _ => Nat.le_of_lt hj, hRW, hK3.out.step hKW (fun j e => .inr (by omega)), hm1, hm2, hcase'.out⟩
theorem condOf_walk {g : Nat} {s : ByteArray} {deep : Int} (U : Toks → Res) (hU : ∀ m w, Rd w g s m deep false → Calls Tryd.prog 70 #[.pointer (some ⟨g, 0, none⟩)] w (Told U w g s m deep)) {w : World} {l : Toks} (h : Rd w g s l deep false) :
    Calls Tryd.prog 13 #[.pointer (some ⟨g, 0, none⟩)] w (Told (gCondOf U) w g s l deep) := by
  have h1 := fun m w (h : Rd w g s m deep false) => times_calls U h hU
  have h2 := fun m w (h : Rd w g s m deep false) => sum_calls (gTimes U) h h1
  have h3 := fun m w (h : Rd w g s m deep false) => held_calls (gSum (gTimes U)) h h2
  have h4 : ∀ m w, Rd w g s m deep false → Calls Tryd.prog 33 #[.pointer (some ⟨g, 0, none⟩)] w (Told (fun l => gNo (gHeld (gSum (gTimes U))) l.length l) w g s m deep) := fun m w h =>
    (no_calls (gHeld (gSum (gTimes U))) h3 m.length m w rfl h).mono fun e w' h => h.congr rfl
  have h5 := fun m w (h : Rd w g s m deep false) => all_calls _ h h4
  exact condr_calls _ h h5
theorem cond_walk {g : Nat} {s : ByteArray} : ∀ (d : Nat), d ≤ 8 → ∀ (l : Toks) (w : World) (deep : Int), deep = 8 - (d : Int) → Rd w g s l deep false → Calls Tryd.prog 13 #[.pointer (some ⟨g, 0, none⟩)] w (Told (gCond d) w g s l deep)
  | 0, _, l, w, deep, hdp, h => by
    refine condOf_walk (gUnitD 0) (fun m w h => ?_) h
    exact unit_calls none h ⟨fun _ => by omega, fun _ => rfl⟩ ⟨by omega, by omega⟩ (fun G hG => by cases hG)
  | d + 1, hd, l, w, deep, hdp, h => by
    refine condOf_walk (gUnitD (d + 1)) (fun m w h => ?_) h
    refine unit_calls (some (gCond d)) h ⟨fun e => (by cases e), fun e => absurd (show deep < 8 by omega) e⟩ ⟨by omega, by omega⟩ ?_
    intro G hG m w hR
    obtain rfl := Option.some.inj hG
    exact cond_walk d (by omega) m w (deep + 1) (by omega) hR
end Go.Proofs.YtfhdecdlkmibmaaDoor
