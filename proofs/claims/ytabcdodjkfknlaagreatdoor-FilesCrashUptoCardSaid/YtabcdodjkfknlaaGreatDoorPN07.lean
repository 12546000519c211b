/- Walk: the program's disk: Crash. -/
import Derived.Test.YtabcdodjkfknlaaGreatDoorPN05
import Derived.Test.YtabcdodjkfknlaaGreatDoorPN06
import Derived.BigQuiet
import Derived.BigRegion
import Derived.Deep.RegionHeld3
namespace Go.Proofs.YtabcdodjkfknlaaGreatDoor
open Go.RowKit Go.Maps Go.Shelf Go.Sort
theorem own_cap {w : World} {B e k n c : Nat} {p : Option Addr} {xs : List Value} (h : w.ownsRow B e k (.slice p n c) n xs) : n ≤ c := by
  obtain ⟨_, ⟨h, rfl⟩ | ⟨g, cap, cur, h, _, _, h3, _⟩⟩ := h
  · exact Nat.zero_le _
  · cases h; exact h3
def CrashPost (w : World) (B D : Nat) (O : Nat → Prop) (k : Dk) (keep : List UInt8) (e : Ending) (w' : World) : Prop := e = .returned (.tuple #[]) ∧ ∃ ns, Names (k.kept keep).safe ns ∧ ns.length ≤ k.room ∧ Goes w B D O (k.crashed keep ns) w'
theorem Dk.cut_eq {k : Dk} {s dat : List UInt8} {f sf : Nat} (hs : k.safe s = some f) (hx : k.file f = some ⟨dat, sf⟩) {keep : List UInt8} {mm : Nat} (hmm : mm = sf + nextN keep (dat.length - sf)) : k.cut keep s = { k.upd f ⟨dat.take mm, mm⟩ with used := k.used + (mm : Int) } := by
  have hg : k.got f = ⟨dat, sf⟩ := by unfold Dk.got; rw [hx]; rfl
  have h0 : (k.safe s).getD 0 = f := by rw [hs]; rfl
  unfold Dk.cut
  rw [h0, hg, hmm]
/-- a file is cut: its row is shortened, all of it is safe; then the sum is told -/
theorem cut_lays {w' : World} {B D : Nat} {O : Nat → Prop} {k : Dk} (h : Disk w' B D O k) {f : Nat} {dat : List UInt8} {sf mm rc : Nat} {rp : Option Addr} (hf : k.file f = some ⟨dat, sf⟩) (hc : w'.cell? ⟨f, 0, none⟩ = some (.slice rp dat.length rc)) (hm : mm ≤ dat.length) :
    ∃ bd bs va, Blk ((w'.setCell ⟨f, 0, none⟩ (.slice rp mm rc)).setCell ⟨f, 1, none⟩ (.int .i64 mm)) D 82 (dcells k bd bs va) ∧ Blk ((w'.setCell ⟨f, 0, none⟩ (.slice rp mm rc)).setCell ⟨f, 1, none⟩ (.int .i64 mm)) f 101 #[.slice rp mm rc, .int .i64 mm] ∧
      Keeps O w' ((w'.setCell ⟨f, 0, none⟩ (.slice rp mm rc)).setCell ⟨f, 1, none⟩ (.int .i64 mm)) ∧
      ∀ u : Int, Goes w' B D O { k.upd f ⟨dat.take mm, mm⟩ with used := u } (((w'.setCell ⟨f, 0, none⟩ (.slice rp mm rc)).setCell ⟨f, 1, none⟩ (.int .i64 mm)).setCell ⟨D, 6, none⟩ (.int .i64 u)) := by
  obtain ⟨r, r1, r2, r3, r4, r5, r6, r7, r8, r9⟩ := h.refile hf
  obtain rfl : r = .slice rp dat.length rc := by have := (r1.cell 0).symm.trans hc; exact Option.some.inj this
  have hk : Keeps (fun j => j = f) w' ((w'.setCell ⟨f, 0, none⟩ (.slice rp mm rc)).setCell ⟨f, 1, none⟩ (.int .i64 mm)) := Keeps.setCell (S := fun j => j = f) (Keeps.setCell (S := fun j => j = f) (Keeps.refl _ _) (p := ⟨f, 0, none⟩) (.inl rfl) _) (p := ⟨f, 1, none⟩) (.inl rfl) _
  have hb := (r1.set_ 0 (.slice rp mm rc)).set_ 1 (.int .i64 mm)
  have hlen : (dat.take mm).length = mm := by rw [List.length_take]; omega
  have hg := r9 _ (.slice rp mm rc) ⟨dat.take mm, mm⟩ (hk.mono fun _ _ e => .inl e) hb (by
    show World.ownsRow _ _ _ _ _ (dat.take mm).length (bcells (dat.take mm))
    rw [hlen, ← bcells_take]
    exact own_keeps (own_prefix r2 hm) hk fun g hg e => own_blk_ne r2 r1 (by decide) (by rw [← e]; cases rp <;> exact hg)) (fun b hb => .inl (by cases rp <;> exact hb)) (by show mm ≤ (dat.take mm).length; omega)
  obtain ⟨⟨O', g1, g2⟩, g3⟩ := hg
  obtain ⟨bd, bs, va, hD⟩ := g1.blk
  refine ⟨bd, bs, va, hD, hb, g3, fun u => ⟨⟨O', (g1.field (k' := { k.upd f ⟨dat.take mm, mm⟩ with used := u }) (Keeps.setCell (S := fun j => j = D) (Keeps.refl _ _) (p := ⟨D, 6, none⟩) (.inl rfl) _) (fun bd bs va hx => hx.set_ 6 _) ⟨rfl, rfl, rfl, rfl, rfl, rfl⟩).1, g2⟩, ?_⟩⟩
  refine g3.setCell (p := ⟨D, 6, none⟩) (.inl ?_) _
  obtain ⟨_, _, _, _, _, _, _, rfl⟩ := h
  exact .inl rfl
theorem Disk.rises {w : World} {B D : Nat} {O : Nat → Prop} {k : Dk} (h : Disk w B D O k) (hB : B ≤ w.heap.size) (r : Nat) (hr : k.slots ≤ r) : ∃ bd bs va es clock, Blk w D 82 (dcells k bd bs va) ∧ w.heap[bs]? = some (.map es clock) ∧
    Goes w B D O (k.rise r) (((((w.setCell ⟨D, 3, none⟩ (.map (some w.heap.size))).setCell ⟨D, 5, none⟩ (.slice none 0 0)).setCell ⟨D, 1, none⟩ (.bool false)).setCell ⟨D, 2, none⟩ (.int .i64 (-1))).alloc (.map es clock)) := by
  have hlt := h.lt
  obtain ⟨bd, bs, n, va, rows, hd, hn, rfl⟩ := h
  obtain ⟨Y, h3, h4⟩ := hd.safe
  obtain ⟨es, clock, he⟩ := map_block h3
  have lD := hlt D (.inl rfl)
  have hk4 := Keeps.setCell (S := fun j => j = D) (Keeps.setCell (S := fun j => j = D) (Keeps.setCell (S := fun j => j = D) (Keeps.setCell (S := fun j => j = D) (Keeps.refl _ w) (p := ⟨D, 3, none⟩) (.inl rfl) (.map (some w.heap.size))) (p := ⟨D, 5, none⟩) (.inl rfl) (.slice none 0 0)) (p := ⟨D, 1, none⟩) (.inl rfl) (.bool false)) (p := ⟨D, 2, none⟩) (.inl rfl) (.int .i64 (-1))
  have hk := hk4.alloc (.map es clock)
  have hsz : ((((w.setCell ⟨D, 3, none⟩ (.map (some w.heap.size))).setCell ⟨D, 5, none⟩ (.slice none 0 0)).setCell ⟨D, 1, none⟩ (.bool false)).setCell ⟨D, 2, none⟩ (.int .i64 (-1))).heap.size = w.heap.size := by simp
  have hnew' := heap_alloc_new ((((w.setCell ⟨D, 3, none⟩ (.map (some w.heap.size))).setCell ⟨D, 5, none⟩ (.slice none 0 0)).setCell ⟨D, 1, none⟩ (.bool false)).setCell ⟨D, 2, none⟩ (.int .i64 (-1))) (.map es clock)
  rw [hsz] at hnew'
  have hb := ((((hd.blk.set_ 3 (.map (some w.heap.size))).set_ 5 (.slice none 0 0)).set_ 1 (.bool false)).set_ 2 (.int .i64 (-1))).alloc (.map es clock)
  have hm := map_keeps h3 hk (map_ne h3 hd.blk)
  refine ⟨bd, bs, va, es, clock, hd.blk, he, ⟨_, ⟨w.heap.size, bs, k.slots, .slice none 0 0, rows, ⟨hb, ⟨Y, map_again h3 he hnew', h4⟩, ⟨Y, hm, h4⟩, ?_, World.ownsRow_nil _ _ _ _, ?_, hd.apart, ?_⟩, ⟨hr, ?_⟩, rfl⟩, ?_⟩, hk.mono (fun _ _ e => .inl e)⟩
  · exact fun e => by have := hlt bs (.inr (.inr (.inl rfl))); omega
  · intro f x hx
    obtain ⟨f1, f2, f3, f4⟩ := hd.file f x hx
    exact ⟨f1, f2.keeps hk (fun e => f2.ne_ hd.blk (by decide) e), own_keeps f3 hk (fun g hg e => own_blk_ne f3 hd.blk (by decide) (by rw [hg, e])), f4⟩
  · exact ⟨hd.base.1, hB, hd.base.2.2⟩
  · show k.slots + 0 ≤ r; omega
  · rintro j (h | h | h | h | h)
    · exact .inl (.inl h)
    · exact .inr (by omega)
    · exact .inl (.inr (.inr (.inl h)))
    · cases h
    · exact .inl (.inr (.inr (.inr (.inr h))))
/-- amid the cut of a file: the call of next has come, or not -/
structure CutW (wr : World) (K : Nat) (P : Nat → Prop) (kt : List UInt8) (l : Array Bool) (w' : World) : Prop where
  ahead : l.getD 20 false = false → w' = wr.drew
  done : l.getD 20 false = true → KeptAt w' K P kt
  keeps : Keeps (fun j => j = K) wr w'
  size : w'.heap.size = wr.heap.size
theorem CutW.step {wr : World} {K : Nat} {P : Nat → Prop} {kt : List UInt8} {l : Array Bool} {w' : World} (h : CutW wr K P kt l w') {i : Nat} (hi : i ≠ 20) : CutW wr K P kt (l.setIfInBounds i true) w' :=
  ⟨by rw [getD_set_ne hi]; exact h.ahead, by rw [getD_set_ne hi]; exact h.done, h.keeps, h.size⟩
theorem Goes.drew {w w' : World} {B D : Nat} {O : Nat → Prop} {k : Dk} (h : Goes w B D O k w') : Goes w B D O k w'.drew := by
  obtain ⟨⟨O', h1, h2⟩, h3⟩ := h
  exact ⟨⟨O', h1.later (Below.refl _ _).drew, h2⟩, h3.drew⟩
theorem crash_round {B D K : Nat} {ws wr w' w8 : World} {O1 O2 : Nat → Prop} {k1 k2 : Dk} {kt : List UInt8} (hG : Goes w' B D O2 k1 w8) (he : k1 = k2) (hK : KeptAt w' K (fun g => ¬O1 g ∧ g < K) kt) (hk : Keeps (fun j => j = K) wr w') (hW : Keeps (fun x => O1 x ∨ x = K) ws wr)
    (hO2 : ∀ x, O2 x → O1 x ∨ ws.heap.size ≤ x) (hOl : ∀ j, O1 j → B ≤ j ∧ j < K) (hz : K < ws.heap.size) (hs : wr.heap.size ≤ w'.heap.size) :
    (∃ O3, Disk w8 B D O3 k2 ∧ ∀ x, O3 x → O1 x ∨ ws.heap.size ≤ x) ∧ KeptAt w8 K (fun g => ¬O1 g ∧ g < K) kt ∧ Keeps (fun x => O1 x ∨ x = K) ws w8 := by
  subst he
  obtain ⟨⟨O3, g1, g2⟩, g3⟩ := hG
  have h1 := hW.size
  have h2 := hk.size
  refine ⟨⟨O3, g1, fun x hx => ?_⟩, hK.keeps g3 (fun e => ?_) (fun g hg e => ?_), (hW.trans (hk.mono fun _ _ e => .inr e)).step g3 fun x hx => ?_⟩
  · rcases g2 x hx with h | h
    · exact hO2 x h
    · exact .inr (by omega)
  · rcases hO2 _ e with h | h
    · have := hOl _ h; omega
    · omega
  · rcases hO2 _ e with h | h
    · exact hg.1 h
    · have := hg.2; omega
  · rcases hO2 x hx with h | h
    · exact .inl (.inl h)
    · exact .inr h
theorem crash_end {B D K : Nat} {w ws wr w8 : World} {O1 O2 : Nat → Prop} {k1 : Dk} (hw : Keeps O1 w ws) (hK : w.heap.size ≤ K) (hW : Keeps (fun x => O1 x ∨ x = K) ws wr) (hO2 : ∀ x, O2 x → O1 x ∨ ws.heap.size ≤ x) (hG : Goes wr B D O2 k1 w8) : Goes w B D O1 k1 w8 := by
  obtain ⟨⟨O3, g1, g2⟩, g3⟩ := hG
  have h1 := hW.size
  have h2 := hw.size
  refine ⟨⟨O3, g1, fun x hx => ?_⟩, (hw.step hW fun x hx => ?_).step g3 fun x hx => ?_⟩
  · rcases g2 x hx with h | h
    · exact (hO2 x h).imp id fun h => by omega
    · exact .inr (by omega)
  · rcases hx with h | h
    · exact .inl h
    · exact .inr (by omega)
  · exact (hO2 x hx).imp id fun h => by omega
set_option maxHeartbeats 8000000 in
set_option maxRecDepth 100000 in
theorem crash_calls (k : Dk) (B D : Nat) (O : Nat → Prop) (v : Value) (keep : List UInt8) (w : World) (hd : Disk w B D O k) (hk : k.ok) (hr : k.room ≤ 4000) (hB : B ≤ w.heap.size) (hb : Bytes w v keep) (hv : ∀ g, v.ownBlock = some g → keep ≠ [] → ¬ O g ∧ g < w.heap.size) (hl : keep.length ≤ 1000000) :
    Calls Tryz.prog 27 #[.pointer (some ⟨D, 0, none⟩), v] w (CrashPost w B D O k keep) := by
  have hOl := hd.lt
  obtain ⟨pv, cv, rfl⟩ := hb.slice
  have B0 := (Below.refl w.heap.size w).alloc (Nat.le_refl _) (.cells #[.slice pv keep.length cv] 43)
  have hd0 := hd.later B0
  have hK0 : KeptAt (w.alloc (.cells #[.slice pv keep.length cv] 43)) w.heap.size (fun g => ¬ O g ∧ g < w.heap.size) keep := ⟨_, Blk.new _ _ _, hb.later B0, hv⟩
  have hn0 := next_calls w.heap.size _ keep k.acts.length _ (hK0.keeps (S := fun _ => False) ((Keeps.refl _ _).drew) id (fun _ _ => id)) (fun e => by omega) (by obtain ⟨_, _, _, _, _, _, hn, _⟩ := hd; omega) (by omega)
  obtain ⟨bd, bs, n, va, rows, hdat, hn, rfl⟩ := hd0
  have hj := nextN_le keep k.acts.length
  have hCP : ∀ ns, k.crashed keep ns = ((((k.laid (k.acts.take (nextN keep k.acts.length))).zero (k.room + k.room)).cuts keep.tail ns).rise k.room) := fun _ => rfl
  have hKP : k.kept keep = (k.laid (k.acts.take (nextN keep k.acts.length))).zero (k.room + k.room) := rfl
  generalize nextN keep k.acts.length = j at *
  have hn0' := Lib.hid hn0
  have hCP' := Lib.hid hCP
  have hKP' := Lib.hid hKP
  clear hCP hKP
  have hdr := hdat.blk.drew
  have nK : ¬ D = w.heap.size := fun e => by have := hOl D (.inl rfl); omega
  obtain ⟨p5, c5, hva⟩ := own_slice hdat.acts
  subst hva
  have hc5 : k.acts.length ≤ c5 := own_cap hdat.acts
  have j0 : (0 : Int) ≤ ↑j := by omega
  have j1 : (↑j : Int) ≤ ↑c5 := by omega
  have qc := hdat.blk.cell
  unfold dcells at qc
  clear hn0 hd hb hK0
  go_enter Tryz.func27, Tryz.ntmps27
  go_wp2_with fail
  go_region_held3 (fun w' => ∀ i, w'.cell? ⟨D, i, none⟩ = (#[.int .i64 k.cap, .bool k.down, .int .i64 k.fuse, .map (some bd), .map (some bs), .slice p5 k.acts.length c5, .int .i64 k.used] : Array Value)[i]?) (first | exact hdr.cell | exact (hdr.keeps p2 nK).cell) ((go_at_call 66; with_reducible refine hn0'.out.mono ?_; rintro e w2 ⟨rfl, p1, p2, p3⟩))
  go_wp2_with fail
  have z2 := p3
  simp only [World.size_drew, World.size_alloc] at z2
  have hdat2 : Dat w2 B D bd bs n (.slice p5 k.acts.length c5) rows k := hdat.keeps ((Keeps.refl _ _).drew.trans p2) (fun i hi e => by have := hOl i hi; omega)
  have hk2 : Keeps (dset D bd bs (.slice p5 k.acts.length c5) rows k) w w2 := (Keeps.of_below B0.drew).step p2 (fun i hi => .inr (by omega))
  clear hdat qc hdr hn0' p2 p3
  go_loopw [26] (fun i wr => ∃ t : Nat, t ≤ j ∧ i = .int .i64 t ∧ Dat wr B D bd bs n (.slice p5 k.acts.length c5) rows (k.laid (k.acts.take t)) ∧ KeptAt wr w.heap.size (fun g => ¬dset D bd bs (.slice p5 k.acts.length c5) rows k g ∧ g < w.heap.size) keep.tail ∧ Keeps (dset D bd bs (.slice p5 k.acts.length c5) rows k) w wr) (fun i _ => j - (intOf i).toNat)
  case atStart => exact ⟨0, Nat.zero_le _, rfl, hdat2, p1, hk2⟩
  case round =>
    clear hdat2 p1 hk2 z2
    obtain ⟨t, ht, rfl, hD, hK, hW⟩ := hrel
    by_cases hlt : t < j
    · obtain ⟨a, ha⟩ : ∃ a, k.acts[t]? = some a := ⟨_, List.getElem?_eq_getElem (by omega)⟩
      obtain ⟨g1, g2, g3⟩ := acells_get k.acts t a ha
      have hcell : ∃ g, p5 = some ⟨g, 0, none⟩ ∧ ∀ i, i < k.acts.length * 3 → wr.cell? ⟨g, i, none⟩ = (acells k.acts)[i]? := by
        have h0 := hD.acts
        obtain ⟨_, ⟨h1, h2⟩ | ⟨g, cap, cur, h1, h2⟩⟩ := id h0
        · exact absurd h2 (by show ¬ k.acts.length = 0; omega)
        · cases h1; exact ⟨g, rfl, fun i hi => h0.cellAt i hi⟩
      obtain ⟨g, rfl, hc⟩ := hcell
      have qa0 : wr.cell? ⟨g, t * 3, none⟩ = some (.string a.frm) := (hc (t * 3) (by omega)).trans (by rw [Nat.mul_comm t 3]; exact g1)
      have qa1 : wr.cell? ⟨g, t * 3 + 1, none⟩ = some (.string a.to) := (hc (t * 3 + 1) (by omega)).trans (by rw [Nat.mul_comm t 3]; exact g2)
      have qa2 : wr.cell? ⟨g, t * 3 + 2, none⟩ = some (ptrV a.file) := (hc (t * 3 + 2) (by omega)).trans (by rw [Nat.mul_comm t 3]; exact g3)
      have hpv : ∃ q, ptrV a.file = .pointer q := by cases a.file <;> exact ⟨_, rfl⟩
      obtain ⟨q, hq⟩ := hpv
      rw [hq] at qa2
      have ha' := Lib.hid ha
      clear ha g1 g2 g3 hc
      go_wp2_with fail
      have kA : Keeps (fun _ => False) wr (wr.alloc (.cells #[.string a.frm, .string a.to, .pointer q] 116)).drew := ((Keeps.refl _ _).alloc _).drew
      have hDa := hD.keeps kA (fun _ _ => id)
      have bx := (Blk.new wr 116 #[.string a.frm, .string a.to, .pointer q]).drew
      obtain ⟨X4, n1, n2⟩ := hDa.safe
      have hd8 := does_calls a bs _ X4 _ _ (hk.acts a (List.mem_of_getElem? ha'.out)).1 n1 n2 (by show k.slots + (k.acts.take t).length < maxLen; simp only [List.length_take]; unfold maxLen; omega)
      unfold DAct.v at hd8
      rw [hq] at hd8
      have lbs := hOl bs (.inr (.inr (.inl rfl)))
      have hsz := hW.size
      have nb1 : ¬ wr.heap.size = bs := by omega
      have nb2 : ¬ D = bs := fun e => map_ne n1 hDa.blk e.symm
      have hDb := hDa.blk
      have hd8' := Lib.hid hd8
      have hD' := Lib.hid hDa
      clear hd8 n1 n2 hD hDa
      go_region_held3 (fun w' => (∀ i, w'.cell? ⟨wr.heap.size, i, none⟩ = (#[.string a.frm, .string a.to, .pointer q] : Array Value)[i]?) ∧ w'.cell? ⟨D, 4, none⟩ = some (.map (some bs))) (first | exact ⟨bx.cell, hDb.cell 4⟩ | exact ⟨(bx.keeps p3 nb1).cell, (hDb.keeps p3 nb2).cell 4⟩) ((go_at_call 67; with_reducible refine hd8'.out.mono ?_; rintro e w5 ⟨rfl, ⟨X5, p1, p2⟩, p3⟩))
      go_wp2_with fail
      have hDn := hD'.out.turnSafe p1 p2 p3
      have e1 : k.acts.take (t + 1) = k.acts.take t ++ [a] := by rw [List.take_add_one, ha'.out]; rfl
      rw [← Dk.laid_snoc, ← e1] at hDn
      have hW5 := (hW.trans (kA.mono (fun _ _ e => e.elim))).trans (p3.mono (fun i _ e => by subst e; exact .inr (.inr (.inl rfl))))
      have hK5 := (hK.keeps kA id (fun _ _ => id)).keeps p3 (by omega) (fun g hg e => hg.1 (by subst e; exact .inr (.inr (.inl rfl))))
      have hDn' := Lib.hid hDn
      clear hDn e1 p1 p2 hD' hd8'
      go_roundw
      case rel => exact ⟨t + 1, by omega, by go_num, hDn'.out, hK5, hW5⟩
      case measure => simp [intOf]; omega
    · obtain rfl : j = t := by omega
      have hDb := hD.blk
      have qc := hDb.cell
      have qf := hDb.frozen
      unfold dcells at qc
      go_wp2_with fail
      have hz := hD.field (w' := wr.setCell ⟨D, 6, none⟩ (.int .i64 0)) (k' := (k.laid (k.acts.take j)).zero (k.room + k.room)) (Keeps.setCell (S := fun j => j = D) (Keeps.refl _ _) (p := ⟨D, 6, none⟩) (.inl rfl) _) (hDb.set_ 6 _) ⟨rfl, rfl, rfl, rfl, rfl⟩
      have hWz := hW.setCell (p := ⟨D, 6, none⟩) (.inl (.inl rfl)) (.int .i64 0)
      have hKz := hK.keeps (Keeps.setCell (S := fun j => j = D) (Keeps.refl _ wr) (p := ⟨D, 6, none⟩) (.inl rfl) (.int .i64 0)) (fun e => nK e.symm) (fun g hg e => hg.1 (by subst e; exact .inl rfl))
      have hslots : ((k.laid (k.acts.take j)).zero (k.room + k.room)).slots = k.slots + j := by show k.slots + (k.acts.take j).length = _; rw [List.length_take]; omega
      have hO1 : dset D bd bs (.slice p5 k.acts.length c5) rows ((k.laid (k.acts.take j)).zero (k.room + k.room)) = dset D bd bs (.slice p5 k.acts.length c5) rows k := rfl
      have hacts : ((k.laid (k.acts.take j)).zero (k.room + k.room)).acts.length = k.acts.length := rfl
      have hmid : ∀ keep' ns, (((k.laid (k.acts.take j)).zero (k.room + k.room)).cuts keep' ns).mid := fun keep' ns => by rw [← hKP'.out]; exact Dk.cuts_mid hk hr keep keep' ns
      have hrm : ((k.laid (k.acts.take j)).zero (k.room + k.room)).room = k.room + k.room := rfl
      have hCZ : ∀ ns, k.crashed keep ns = (((k.laid (k.acts.take j)).zero (k.room + k.room)).cuts keep.tail ns).rise k.room := hCP'.out
      have hKZ := hKP'.out
      have husz : ((k.laid (k.acts.take j)).zero (k.room + k.room)).used = 0 := rfl
      clear hCP' hKP'
      generalize (k.laid (k.acts.take j)).zero (k.room + k.room) = kz at *
      obtain ⟨wz, eWz⟩ : ∃ wz, wr.setCell ⟨D, 6, none⟩ (.int .i64 0) = wz := ⟨_, rfl⟩
      rw [eWz] at hz hWz hKz
      rw [eWz]
      obtain ⟨X, m1, m2⟩ := hz.safe
      obtain ⟨ns, hN, hNl, hNm, hS⟩ := sorted_calls m1 m2 (by omega)
      have hCZ' := Lib.hid (hCZ ns)
      have hKZ' := Lib.hid hKZ
      have hmid' := Lib.hid hmid
      have hsafe0 : ∀ f x, kz.file f = some x → x.safe ≤ x.data.length := fun f x hf => (hz.file f x hf).2.2.2
      have hsafe0' := Lib.hid hsafe0
      clear hsafe0
      have hN' := Lib.hid hN
      have hNm' := Lib.hid hNm
      have hS' := Lib.hid hS
      have hslots' := Lib.hid hslots
      have hO1' := Lib.hid hO1
      have hacts' := Lib.hid hacts
      have hrm' := Lib.hid hrm
      have husz' := Lib.hid husz
      clear hCZ hKZ hmid hN hNm hS hslots hO1 hacts hrm husz qc qf hDb hD hK hW m1 m2 eWz
      refine (keys_calls bs wz).mono ?_
      rintro e wk ⟨rfl, rfl⟩
      go_wp2_with fail
      refine hS'.out.mono ?_
      rintro e ws ⟨vn, rfl, rown, bS⟩
      obtain ⟨pn, cn, rfl⟩ := own_slice rown
      go_wp2_with fail
      have hd2 : Disk ws B D (dset D bd bs (.slice p5 k.acts.length c5) rows k) kz := by
        refine ⟨bd, bs, n, .slice p5 k.acts.length c5, rows, hz.keeps (S := fun _ => False) (.of_below bS) (fun _ _ => id), ?_, hO1'.out.symm⟩
        have e1 := hslots'.out; have e2 := hacts'.out; have e3 := hrm'.out
        omega
      have hWs := hWz.trans (.of_below bS)
      have hKs := hKz.keeps (S := fun _ => False) (.of_below bS) id (fun _ _ => id)
      have zKz := hKz.lt
      have zW := hWz.size
      have zS := bS.size
      generalize hO : dset D bd bs (.slice p5 k.acts.length c5) rows k = O1 at *
      clear hO hz hWz hKz hS' bS hO1' hacts'
      go_loopw [47] (fun i wr2 => ∃ t : Nat, t ≤ ns.length ∧ i = .int .i64 t ∧ (∃ O2, Disk wr2 B D O2 (kz.cuts keep.tail (ns.take t)) ∧ ∀ x, O2 x → O1 x ∨ ws.heap.size ≤ x) ∧ KeptAt wr2 w.heap.size (fun g => ¬O1 g ∧ g < w.heap.size) (keep.tail.drop t) ∧ Keeps (fun x => O1 x ∨ x = w.heap.size) ws wr2) (fun i _ => ns.length - (intOf i).toNat)
      case atStart => exact ⟨0, Nat.zero_le _, rfl, ⟨O1, hd2, fun x hx => .inl hx⟩, hKs, Keeps.refl _ _⟩
      case round =>
        clear hd2 hKs
        obtain ⟨t, ht, rfl, ⟨O2, hD2, hO2⟩, hK2, hW2⟩ := hrel
        by_cases hlt : t < ns.length
        · obtain ⟨s, hs⟩ : ∃ s, ns[t]? = some s := ⟨_, List.getElem?_eq_getElem hlt⟩
          have hsm := List.mem_of_getElem? hs
          have hcell : ∃ g, pn = some ⟨g, 0, none⟩ ∧ wr.cell? ⟨g, t, none⟩ = some (Go.Proofs.encStr s) := by
            obtain ⟨_, ⟨h1, h2⟩ | ⟨g, cap, cur, h1, h2, h3⟩⟩ := id rown
            · exact absurd h2 (by omega)
            · cases h1
              refine ⟨g, rfl, ?_⟩
              have hlg : g < ws.heap.size := by
                rcases Nat.lt_or_ge g ws.heap.size with h | h
                · exact h
                · rw [Array.getElem?_eq_none h] at h3; cases h3.1
              rw [World.cell?_of_block (a := ⟨g, t, none⟩) (hW2.block g hlg (by
                rintro (e | e)
                · have := hOl g e; omega
                · omega)), rown.cellAt t (by omega), List.getElem?_map, hs]
              rfl
          obtain ⟨gR, rfl, hcR⟩ := hcell
          obtain ⟨sb, hsb, hsz⟩ : ∃ sb : ByteArray, Go.Proofs.encStr s = .string sb ∧ sb.data.toList = s := ⟨⟨s.toArray⟩, rfl, by simp⟩
          rw [hsb] at hcR
          have hsl : sb.size ≤ maxLen := by rw [Lib.size_eq, hsz]; exact hNm'.out s hsm
          have hM := hmid'.out keep.tail (ns.take t)
          have hsafe := (hN'.out.mem s).1 hsm
          have hsame := Dk.cuts_same kz keep.tail (ns.take t)
          rw [← hsame.2.1] at hsafe
          obtain ⟨f, hf⟩ := Option.isSome_iff_exists.1 hsafe
          obtain ⟨x, hx⟩ := Option.isSome_iff_exists.1 (hM.slive s f hf)
          have hsmall := hM.small f x hx
          have hcut : kz.cuts keep.tail (ns.take (t + 1)) = (kz.cuts keep.tail (ns.take t)).cut (keep.tail.drop t) s := by
            rw [List.take_add_one, hs]
            show kz.cuts keep.tail (ns.take t ++ [s]) = _
            rw [Dk.cuts_snoc, List.length_take, Nat.min_eq_left ht]
          have husd := Dk.cuts_used kz keep.tail (ns.take t)
          have hUs : -9000000000000000000 ≤ (kz.cuts keep.tail (ns.take t)).used ∧ (kz.cuts keep.tail (ns.take t)).used ≤ 9000000000000000000 := by
            have h1 := Dk.cuts_used kz keep.tail (ns.take t) 1000000000 (fun f x hf => ⟨(hmid'.out [] []).small f x hf, hsafe0'.out f x hf⟩)
            rw [husz'.out] at h1
            have h2 : (ns.take t).length ≤ 8000 := by have := hslots'.out; rw [List.length_take, Nat.min_eq_left ht]; omega
            have h3 : ((ns.take t).length : Int) * ((1000000000 : Nat) : Int) ≤ 8000 * 1000000000 := Int.mul_le_mul (by omega) (by omega) (by omega) (by omega)
            omega
          have hUs' := Lib.hid hUs
          clear hUs
          have hx' := Lib.hid hx
          have hf' := Lib.hid hf
          have hcut' := Lib.hid hcut
          have hs' := Lib.hid hs
          obtain ⟨r, r1, r2, r3, r4, r5, r6, r7, r8, r9⟩ := hD2.refile hx
          obtain ⟨rp, rc, hr2⟩ := own_slice r2
          subst hr2
          have hrc := own_cap r2
          obtain ⟨bd2, bs2, n2, va2, rows2, hdat2, hn2, hO2e⟩ := id hD2
          obtain ⟨Y, y1, y2⟩ := hdat2.safe
          have hrun := dir_run y1 y2 hsl
          rw [hsz, hf] at hrun
          unfold ptrV at hrun
          have qD := hdat2.blk.cell
          have qDf := hdat2.blk.frozen
          unfold dcells at qD
          have qF := r1.cell
          have qFf := r1.frozen
          have r9' := Lib.hid r9
          clear hcut hs hsb hsafe hsame hM y1 y2 husd r9
          go_wp2_with fail
          obtain ⟨dat, sf⟩ := x
          simp only at r3 hsmall hrc
          have hnl := nextN_le (keep.tail.drop t) (dat.length - sf)
          have hnx := next_calls w.heap.size _ (keep.tail.drop t) (dat.length - sf) _ (hK2.keeps (S := fun _ => False) ((Keeps.refl _ _).drew) id (fun _ _ => id)) (fun e => by omega) (by omega) (by simp only [List.length_drop, List.length_tail]; omega)
          obtain ⟨L, hL⟩ : ∃ L, L = dat.length := ⟨_, rfl⟩
          obtain ⟨dd, hdd⟩ : ∃ dd, dd = dat.length - sf := ⟨_, rfl⟩
          obtain ⟨nx, hnx2⟩ : ∃ nx, nx = nextN (keep.tail.drop t) (dat.length - sf) := ⟨_, rfl⟩
          obtain ⟨mm, hmm⟩ : ∃ mm, mm = sf + nx := ⟨_, rfl⟩
          have hmL : mm ≤ dat.length ∧ mm ≤ 1000000000 := by omega
          have hmL' := Lib.hid hmL
          clear hmL
          rw [← hnx2, ← hdd] at hnx
          have e1 : IntKind.i64.wrap ((L : Int) - (sf : Int)) = (dd : Int) := by rw [IntWalk.i64_in _ (by omega)]; omega
          have e2 : IntKind.i64.wrap ((sf : Int) + (nx : Int)) = (mm : Int) := by rw [IntWalk.i64_in _ (by omega)]; omega
          have e3 : (0 : Int) ≤ (mm : Int) := by omega
          have e4 : (mm : Int) ≤ (rc : Int) := by omega
          have nfK : ¬ f = w.heap.size := fun e => by
            rcases hO2 f r5 with h | h
            · have := hOl f h; omega
            · omega
          have nDK : ¬ D = w.heap.size := nK
          have qF' : ∀ i, wr.cell? ⟨f, i, none⟩ = (#[.slice rp L rc, .int .i64 sf] : Array Value)[i]? := fun i => by rw [hL]; exact qF i
          have hL' := Lib.hid hL
          have hdd' := Lib.hid hdd
          have hnx2' := Lib.hid hnx2
          have hmm' := Lib.hid hmm
          have lf := r1.lt
          clear hL hdd hnx2 hmm qF hnl hsmall
          have hX : ∀ w', Keeps (fun j => j = w.heap.size) wr w' → (∀ i, w'.cell? ⟨f, i, none⟩ = (#[.slice rp L rc, .int .i64 sf] : Array Value)[i]?) ∧ ∀ i, w'.frozen? ⟨f, i, none⟩ = false := fun w' hk => ⟨fun i => by rw [(r1.keeps hk nfK).cell, hL'.out], (r1.keeps hk nfK).frozen⟩
          have hX' := Lib.hid hX
          clear hX
          obtain ⟨kt, hkt⟩ : ∃ kt, (keep.tail.drop t).tail = kt := ⟨_, rfl⟩
          rw [hkt] at hnx
          have hkt' := Lib.hid hkt
          have hnx' := Lib.hid hnx
          clear hnx hkt
          refine wp_region_values (by kernel_rfl) 25 rfl (by kernel_rfl) (by kernel_rfl) (by kernel_rfl) (by kernel_rfl)
            [(57, .pointer (some ⟨f, 0, none⟩)), (58, .pointer (some ⟨f, 0, none⟩)), (59, .pointer (some ⟨f, 0, none⟩)), (60, .pointer (some ⟨f, 0, none⟩)), (61, .slice rp L rc),
              (62, .pointer (some ⟨f, 0, none⟩)), (63, .pointer (some ⟨f, 0, none⟩)), (64, .pointer (some ⟨f, 1, none⟩)), (65, .int .i64 sf), (66, .func (.func 66) #[] #[.pointer (some ⟨w.heap.size, 0, none⟩)]),
              (67, .pointer (some ⟨f, 0, none⟩)), (68, .pointer (some ⟨f, 0, none⟩)), (69, .pointer (some ⟨f, 0, none⟩)), (70, .slice rp L rc), (71, .int .i64 L),
              (72, .pointer (some ⟨f, 0, none⟩)), (73, .pointer (some ⟨f, 0, none⟩)), (74, .pointer (some ⟨f, 1, none⟩)), (75, .int .i64 sf), (76, .int .i64 dd), (77, .int .i64 nx), (78, .int .i64 mm), (79, .slice rp mm rc),
              (80, .pointer (some ⟨f, 0, none⟩)), (81, .pointer (some ⟨f, 0, none⟩))]
            (CutW wr w.heap.size (fun g => ¬O1 g ∧ g < w.heap.size) kt)
            ⟨fun _ => rfl, fun h => by (rw [Go.getD_replicate_false] at h; cases h), (Keeps.refl _ _).drew, rfl⟩ ?_
          intro full hfull
          simp only [List.foldl_cons, List.foldl_nil, Act.put, List.setIfInBounds_toArray, List.set_cons_zero, List.set_cons_succ] at hfull
          subst hfull
          have hstep : ∀ (i : Nat) (l : Array Bool) (w' : World), i ≠ 20 → CutW wr w.heap.size (fun g => ¬O1 g ∧ g < w.heap.size) kt l w' → CutW wr w.heap.size (fun g => ¬O1 g ∧ g < w.heap.size) kt (l.setIfInBounds i true) w' := fun i l w' hi h => h.step hi
          have hstep' := Lib.hid hstep
          clear hstep
          refine ⟨by kernel_rfl, ?_, ?_⟩
          · intro i l w' hi hW hr
            obtain ⟨_, hfree⟩ := ready_free hr
            obtain ⟨c0, c1⟩ := hX'.out w' hW.keeps
            have hW' := Lib.hid hW
            clear hW
            by_cases h20 : i = 20
            · subst h20
              have hw := hW'.out.ahead (not_listed hfree)
              subst hw
              refine wpOp_one rfl ?_
              go_wp2_with ((go_at_call 66; with_reducible refine hnx'.out.mono ?_; rintro e w5 ⟨rfl, p1, p2, p3⟩))
              refine ⟨rfl, ⟨fun h => ?_, fun _ => p1, (Keeps.refl _ _).drew.trans p2, p3⟩⟩
              rw [getD_set_eq hfree] at h; cases h
            · have hs' := Lib.hid (hstep'.out i l w' h20 hW'.out)
              rcases i with _ | _ | _ | _ | _ | _ | _ | _ | _ | _ | _ | _ | _ | _ | _ | _ | _ | _ | _ | _ | _ | _ | _ | _ | _ | i
              all_goals first
                | exact absurd rfl h20
                | omega
                | (refine wpOp_one rfl ?_
                   go_wp2_with fail
                   exact ⟨rfl, hs'.out⟩)
          · intro l w' hW hall
            have hd20 := hall 20 (by omega)
            obtain ⟨c0, c1⟩ := hX'.out w' hW.keeps
            have hKt := hW.done hd20
            have hWk := hW.keeps
            have hWs := hW.size
            have hDw : Disk w' B D O2 (kz.cuts keep.tail (ns.take t)) := hD2.keeps hWk (fun x hx e => by
              rcases hO2 x hx with h | h
              · have := hOl x h; omega
              · omega)
            have hc0 : w'.cell? ⟨f, 0, none⟩ = some (.slice rp dat.length rc) := by rw [c0, ← hL'.out]; rfl
            obtain ⟨hmL, hmB⟩ := hmL'.out
            obtain ⟨bd3, bs3, va3, hb3, hf3, hk3, hG⟩ := cut_lays hDw hx'.out hc0 hmL
            have q3 := hb3.cell
            have q3f := hb3.frozen
            have q4 := hf3.cell
            unfold dcells at q3
            have hu0 := (kz.cuts keep.tail (ns.take t)).used
            have hU := hUs'.out
            have e5 : IntKind.i64.wrap ((kz.cuts keep.tail (ns.take t)).used + (mm : Int)) = (kz.cuts keep.tail (ns.take t)).used + (mm : Int) := IntWalk.i64_in _ (by omega)
            have hG5 := hG ((kz.cuts keep.tail (ns.take t)).used + (mm : Int))
            have hKt' := Lib.hid hKt
            have hWk' := Lib.hid hWk
            have hWs' := Lib.hid hWs
            have hG5' := Lib.hid hG5
            have hk3' := Lib.hid hk3
            clear hW hall hd20 hKt hWk hWs hDw hG hG5 hk3 hc0 hb3 hf3 hmL hmB hu0 hU
            refine wpOp_one rfl ?_
            go_wp2_with fail
            refine ⟨rfl, ?_⟩
            go_wp2_with fail
            obtain ⟨w7, e7⟩ : ∃ w7, (w'.setCell ⟨f, 0, none⟩ (.slice rp mm rc)).setCell ⟨f, 1, none⟩ (.int .i64 mm) = w7 := ⟨_, rfl⟩
            rw [e7] at q3 q3f q4 hG5' hk3'
            rw [e7]
            clear e7 c0 c1
            have ht8 : (t : Int) ≤ 8000 := by have := hslots'.out; omega
            go_region
            all_goals
              clear e5 e1 e2
              go_wp2_with fail
              go_roundw
              case rel => exact ⟨t + 1, by omega, by go_num, crash_round hG5'.out.drew (hcut'.out.trans (Dk.cut_eq (mm := mm) hf'.out hx'.out (by rw [hmm'.out, hnx2'.out]))).symm (by rw [hkt'.out.symm.trans List.tail_drop] at hKt'; exact hKt'.out) hWk'.out hW2 hO2 hOl (by omega) (by have := hWs'.out; omega)⟩
              case measure => simp [intOf]; omega
        · obtain rfl : ns.length = t := by omega
          have hsame := Dk.cuts_same kz keep.tail ns
          rw [List.take_length] at hD2
          obtain ⟨bd2, bs2, va2, es, clock, r1, r2, r3⟩ := hD2.rises (Nat.le_trans hB (by have := hW2.size; omega)) k.room (by rw [hsame.2.2.2.2.2.1, hslots'.out]; omega)
          have hq := AnyW.maps_Clone Tryz.cloneM bs2 es clock wr r2
          have hq' := Lib.hid hq
          have r3' := Lib.hid r3
          have qc := r1.cell
          have qf := r1.frozen
          have ql := r1.lt
          have hE : CrashPost w B D O1 k keep (.returned (.tuple #[])) (((((wr.setCell ⟨D, 3, none⟩ (.map (some wr.heap.size))).setCell ⟨D, 5, none⟩ (.slice none 0 0)).setCell ⟨D, 1, none⟩ (.bool false)).setCell ⟨D, 2, none⟩ (.int .i64 (-1))).alloc (.map es clock)) := by
            refine ⟨rfl, ns, by rw [hKZ'.out]; exact hN'.out, by have := hslots'.out; omega, ?_⟩
            rw [hCZ'.out]
            exact crash_end hWs (Nat.le_refl _) hW2 hO2 r3
          have hE' := Lib.hid hE
          unfold dcells at qc
          clear r1 r2 r3 hq hsame hD2 hE hK2 hW2
          go_wp2_with fail
          refine hq'.out.mono ?_
          rintro e w3 ⟨rfl, rfl⟩
          go_wp2
          go_end0
          exact hE'.out
end Go.Proofs.YtabcdodjkfknlaaGreatDoor
