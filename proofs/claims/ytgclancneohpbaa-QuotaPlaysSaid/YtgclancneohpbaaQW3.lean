/- Walk: the program's quota: purse. -/
import Derived.Test.YtgclancneohpbaaQW2
import Derived.Deep.RegionHeld3
namespace Go.Proofs.Ytgclancneohpbaa
open Go.RowKit Go.Maps
theorem Qat.left {w : World} {g b n : Nat} {q : Qt} (h : Qat w g b n q) {t : Nat} (ht : t < 18446744073709551616) (v : Int) (hv : v = ((max q.now t : Nat) : Int)) : Qat (w.setCell ⟨g, 2, none⟩ (.int .u64 v)) g b n (q.left t) := by
  subst hv
  obtain ⟨D, h1, h2⟩ := h.map
  exact ⟨h.blk.set_ 2 _, ⟨D, h1.setCell h.ne _, h2⟩, Qt.left_ok h.ok ht⟩
theorem has_none {q : Qt} {s : List UInt8} (h : q.f s = none) (t T : Nat) : (q.left t).has s T = q.most := by
  show (match q.f s with | none => q.most | some p => (q.left t).fill p T) = q.most
  rw [h]
theorem has_some {q : Qt} {s : List UInt8} {p : Nat × Nat} (h : q.f s = some p) (t T : Nat) : (q.left t).has s T = (q.left t).fill p T := by
  show (match q.f s with | none => q.most | some p => (q.left t).fill p T) = _
  rw [h]
theorem filled_at (q : Qt) (g b n : Nat) (h t T : Nat) (w : World) (hq : Qat w g b n q) (h1 : h ≤ q.most) (h2 : t ≤ T) (h3 : T < 18446744073709551616) :
    Calls Try.prog 65 #[.pointer (some ⟨g, 0, none⟩), .agg #[.int .u64 h, .int .u64 t], .int .u64 T] w fun e w' => e = .returned (.agg #[.int .u64 (q.fill (h, t) T), .int .u64 T]) ∧ Below w.heap.size w w' := by
  obtain ⟨d, rfl⟩ := Nat.exists_eq_add_of_le h2
  exact filled_calls q g b n h t d w hq h1 h3
/-- what a walk leaves behind a store of the result -/
theorem purse_end {w W0 W1 : World} {g b n : Nat} {q : Qt} (hq0 : Qat W0 g b n q) (hk : Keeps (fun k => k = g) w W0) (h1 : Keeps (fun k => k = w.heap.size) W0 W1) (hg : g < w.heap.size) (hb : b < w.heap.size) : Qat W1 g b n q ∧ Keeps (fun k => k = g) w W1 :=
  ⟨hq0.keeps h1 (by omega) (by omega), hk.step h1 (fun k e => .inr (by omega))⟩
theorem purse_world {w : World} {g b n : Nat} {q : Qt} (h : Qat w g b n q) {t : Nat} (ht : t < 18446744073709551616) (v : Int) (hv : v = ((max q.now t : Nat) : Int)) (c1 c2 : Array Value) :
    ∃ W0, ((w.setCell ⟨g, 2, none⟩ (.int .u64 v)).alloc (.cells c1 76)).alloc (.cells c2 76) = W0 ∧ Qat W0 g b n (q.left t) ∧ Blk W0 w.heap.size 76 c1 ∧ Blk W0 (w.heap.size + 1) 76 c2 ∧ Keeps (fun k => k = g) w W0 := by
  have hl := h.left ht v hv
  have hz : (w.setCell ⟨g, 2, none⟩ (.int .u64 v)).heap.size = w.heap.size := by simp [World.setCell]
  have k1 := Blk.new (w.setCell ⟨g, 2, none⟩ (.int .u64 v)) 76 c1
  have k2 := Blk.new ((w.setCell ⟨g, 2, none⟩ (.int .u64 v)).alloc (.cells c1 76)) 76 c2
  rw [World.size_alloc, hz] at k2
  rw [hz] at k1
  have hk : Keeps (fun k => k = g) w (w.setCell ⟨g, 2, none⟩ (.int .u64 v)) := Keeps.setCell (S := fun k => k = g) (Keeps.refl _ w) (p := ⟨g, 2, none⟩) (.inl rfl) _
  have ha : Keeps (fun _ => False) (w.setCell ⟨g, 2, none⟩ (.int .u64 v)) (((w.setCell ⟨g, 2, none⟩ (.int .u64 v)).alloc (.cells c1 76)).alloc (.cells c2 76)) := ((Keeps.refl _ _).alloc _).alloc _
  exact ⟨_, rfl, hl.keeps ha id id, k1.alloc _, k2, (hk.alloc _).alloc _⟩
set_option maxHeartbeats 2000000 in
set_option maxRecDepth 100000 in
theorem purse_calls (q : Qt) (g b n : Nat) (s : ByteArray) (t : Nat) (w : World) (hq : Qat w g b n q) (hs : s.size ≤ maxLen) (ht : t < 18446744073709551616) :
    Calls Try.prog 41 #[.pointer (some ⟨g, 0, none⟩), .string s, .int .u64 t] w fun e w' => e = .returned (purseV ((q.left t).has s.data.toList (max q.now t), max q.now t)) ∧ Qat w' g b n (q.left t) ∧ Keeps (fun k => k = g) w w' := by
  have hnow := hq.ok.now
  have hg := hq.blk.lt
  have qc := hq.blk.cell
  have qf := hq.blk.frozen
  have hne := hq.ne
  have hb := hq.lt.2
  obtain ⟨D, h1, h2⟩ := hq.map
  have hq' := Lib.hid hq
  clear hq
  go_enter Try.func41, Try.ntmps41
  cases hf : q.f s.data.toList with
  | none =>
    go_wp2_with (first
      | (at_lookup; refine wpList_purse _ rfl _ _ rfl b n D q.f rfl ((h1.setCell hne _).alloc _) h2 s rfl hs ?_; rw [hf]; simp only [Option.getD_none, Option.isSome_none])
      | fail)
    all_goals
      first
        | (obtain ⟨W0, e0, hq0, k1, k2, hk⟩ := purse_world hq'.out ht (t : Int) (by omega) #[.int .u64 0, .int .u64 0] #[.int .u64 0, .int .u64 0]; rw [e0])
        | (obtain ⟨W0, e0, hq0, k1, k2, hk⟩ := purse_world hq'.out ht (q.now : Int) (by omega) #[.int .u64 0, .int .u64 0] #[.int .u64 0, .int .u64 0]; rw [e0])
      clear e0 h1 h2 qc qf hq'
      have qc := hq0.blk.cell
      have kc := k1.cell
      have kf := k1.frozen
      have k2c := k2.cell
      have hh := has_none hf t (max q.now t)
      go_region
      go_wp2
      refine bodyPost_ret (v := purseV ((q.left t).most, (q.left t).now)) (by simp [results, Try.results41, go_sem, kc]) rfl ⟨by rw [hh]; rfl, ?_⟩
      exact purse_end hq0 hk ((((Keeps.refl (fun k => k = w.heap.size) _).setCell (p := ⟨w.heap.size, 0, none⟩) (.inl rfl) _).setCell (p := ⟨w.heap.size, 1, none⟩) (.inl rfl) _).drew) hg hb
  | some p =>
    go_wp2_with (first
      | (at_lookup; refine wpList_purse _ rfl _ _ rfl b n D q.f rfl ((h1.setCell hne _).alloc _) h2 s rfl hs ?_; rw [hf]; simp only [Option.getD_some, Option.isSome_some])
      | fail)
    all_goals
      first
        | (obtain ⟨W0, e0, hq0, k1, k2, hk⟩ := purse_world hq'.out ht (t : Int) (by omega) #[.int .u64 0, .int .u64 0] #[.int .u64 p.1, .int .u64 p.2]; rw [e0])
        | (obtain ⟨W0, e0, hq0, k1, k2, hk⟩ := purse_world hq'.out ht (q.now : Int) (by omega) #[.int .u64 0, .int .u64 0] #[.int .u64 p.1, .int .u64 p.2]; rw [e0])
      clear e0 h1 h2 qc qf hq'
      have qc := hq0.blk.cell
      have kc := k1.cell
      have kf := k1.frozen
      have k2c := k2.cell
      have hh := has_some hf t (max q.now t)
      have hp := hq0.ok.each s.data.toList p hf
      have hl := hq0.ok.now
      have hF : ∀ W, Keeps (fun _ => False) W0 W → Calls Try.prog 65 #[.pointer (some ⟨g, 0, none⟩), .agg #[.int .u64 p.1, .int .u64 p.2], .int .u64 (q.left t).now] W fun e w' => e = .returned (.agg #[.int .u64 ((q.left t).fill p (q.left t).now), .int .u64 (q.left t).now]) ∧ Keeps (fun _ => False) W0 w' ∧ (∀ i, w'.cell? ⟨w.heap.size, i, none⟩ = (#[.int .u64 0, .int .u64 0] : Array Value)[i]?) ∧ (∀ i, w'.frozen? ⟨w.heap.size, i, none⟩ = false) := by
        intro W hW
        refine (filled_at (q.left t) g b n p.1 p.2 _ W (hq0.keeps hW id id) hp.1 hp.2 hl).mono ?_
        rintro e w' ⟨he, hb1⟩
        have hk1 := hW.trans (.of_below hb1)
        exact ⟨he, hk1, (k1.keeps hk1 id).cell, (k1.keeps hk1 id).frozen⟩
      go_region_with (go_at_call 65; refine (hF _ (Keeps.refl _ _).drew).mono ?_; rintro e w1 ⟨rfl, hk1, kc1, kf1⟩)
      all_goals
        go_wp2
        refine bodyPost_ret (v := purseV ((q.left t).fill p (q.left t).now, (q.left t).now)) (by simp [results, Try.results41, go_sem, kc1]) rfl ⟨by rw [hh]; rfl, ?_⟩
        exact purse_end hq0 hk (((hk1.mono (T := fun k => k = w.heap.size) (fun _ _ e => e.elim)).setCell (p := ⟨w.heap.size, 0, none⟩) (.inl rfl) _).setCell (p := ⟨w.heap.size, 1, none⟩) (.inl rfl) _) hg hb
end Go.Proofs.Ytgclancneohpbaa
