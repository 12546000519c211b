/- Walks: the program's quota: Left, Take; at nil. -/
import Derived.Test.YtgclancneohpbaaQW3
namespace Go.Proofs.Ytgclancneohpbaa
open Go.RowKit Go.Maps
@[go_sem] theorem field_purse (a b : Int) (w : World) : (Instr.field 76 (.agg #[.int .u64 a, .int .u64 b]) 0).run Try.prog w = .ok (.int .u64 a) w := by kernel_rfl
set_option maxHeartbeats 1000000 in
set_option maxRecDepth 100000 in
theorem left_calls (q : Qt) (g b n : Nat) (s : ByteArray) (t : Nat) (w : World) (hq : Qat w g b n q) (hs : s.size ≤ maxLen) (ht : t < 18446744073709551616) :
    Calls Try.prog 16 #[.pointer (some ⟨g, 0, none⟩), .string s, .int .u64 t] w fun e w' => e = .returned (.int .u64 ((q.left t).has s.data.toList (max q.now t) : Nat)) ∧ Qat w' g b n (q.left t) ∧ Keeps (fun k => k = g) w w' := by
  have hp := purse_calls q g b n s t w hq hs ht
  go_enter Try.func16, Try.ntmps16
  go_wp2_with fail
  refine hp.mono ?_
  rintro e w1 ⟨rfl, hq1, hk⟩
  go_wp2
  go_ret
  exact ⟨rfl, hq1, hk⟩
theorem left_nil (s : ByteArray) (t : Int) (w : World) : Calls Try.prog 16 #[.pointer none, .string s, .int .u64 t] w fun e w' => e = .returned (.int .u64 0) ∧ w' = w := by
  go_enter Try.func16, Try.ntmps16
  go_wp2
  go_ret
  exact ⟨rfl, rfl⟩
theorem take_nil (s : ByteArray) (n t : Int) (w : World) : Calls Try.prog 18 #[.pointer none, .string s, .int .u64 n, .int .u64 t] w fun e w' => e = .returned (.bool false) ∧ w' = w := by
  go_enter Try.func18, Try.ntmps18
  go_wp2
  go_ret
  exact ⟨rfl, rfl⟩
theorem clients_nil (w : World) : Calls Try.prog 20 #[.pointer none] w fun e w' => e = .returned (.slice none 0 0) ∧ w' = w := by
  go_enter Try.func20, Try.ntmps20
  go_wp2
  go_ret
  exact ⟨rfl, rfl⟩
/-- a store into the map of purses, as an equation -/
theorem put_run {w : World} {b n : Nat} {D : DataW Unit} {f : List UInt8 → Option (Nat × Nat)} (h1 : w.ownsMap Try.prog 9 purseR b n D) (h2 : mapIs D f) (hn : n < maxLen) {s : ByteArray} (hs : s.size ≤ maxLen) (p : Nat × Nat) :
    ∃ w', (Instr.mapUpdate 72 (.map (some b)) (.string s) (.agg #[.int .u64 p.1, .int .u64 p.2])).run Try.prog w = .ok () w' ∧ (∃ D', w'.ownsMap Try.prog 9 purseR b (n + 1) D' ∧ mapIs D' (fun s' => if s' = s.data.toList then some p else f s')) ∧ Keeps (fun k => k = b) w w' := by
  obtain ⟨w', hr, ho, hg⟩ := h1.update str_keyed Try.underlying72 hn (WideMaps.keyOf_string_mk Try.underlying9 hs) (purseR_mk p)
  exact ⟨w', hr, ⟨_, ho, mapIs_put h1.isMap h2 _ _⟩, (Keeps.refl _ _).grown hg (fun k e => .inl (by simpa using e.symm))⟩
/-- what a walk leaves behind the store -/
theorem take_end {w w1 W w2 : World} {g b n : Nat} {q q1 : Qt} {s : List UInt8} {p : Nat × Nat} (hq1 : Qat w1 g b n q1) (h1 : Keeps (fun k => k = g) w w1) (h2 : Keeps (fun _ => False) w1 W) (hm : ∃ D', w2.ownsMap Try.prog 9 purseR b (n + 1) D' ∧ mapIs D' (fun s' => if s' = s then some p else q1.f s')) (h3 : Keeps (fun k => k = b) W w2)
    (hle : p.1 ≤ q1.most) (hnow : p.2 ≤ q1.now) (he : q = q1.put s p) : Qat w2 g b (n + 1) q ∧ Keeps (two g b) w w2 := by
  subst he
  refine ⟨⟨(hq1.blk.keeps h2 id).keeps h3 (fun e => hq1.ne e.symm), hm, Qt.put_ok hq1.ok s hle hnow⟩, ((h1.mono (fun _ _ e => .inl e)).step h2 (fun _ e => e.elim)).step h3 (fun k e => .inl (.inr e))⟩
set_option maxHeartbeats 2000000 in
set_option maxRecDepth 100000 in
theorem take_calls (q : Qt) (g b n : Nat) (s : ByteArray) (m t : Nat) (w : World) (hq : Qat w g b n q) (hn : n < maxLen) (hs : s.size ≤ maxLen) (ht : t < 18446744073709551616) :
    Calls Try.prog 18 #[.pointer (some ⟨g, 0, none⟩), .string s, .int .u64 m, .int .u64 t] w fun e w' => e = .returned (.bool (q.enough s.data.toList m t)) ∧ Qat w' g b (n + 1) (q.take s.data.toList m t) ∧ Keeps (two g b) w w' := by
  have hp := purse_calls q g b n s t w hq hs ht
  have hle : (q.left t).has s.data.toList (max q.now t) ≤ q.most := (q.left t).has_le s.data.toList (max q.now t)
  have hmost := hq.ok.most
  clear hq
  go_enter Try.func18, Try.ntmps18
  go_wp2_with fail
  refine hp.mono ?_
  clear hp
  rintro e w1 ⟨rfl, hq1, hk⟩
  obtain ⟨D, h1, h2⟩ := hq1.map
  by_cases hm : m ≤ (q.left t).has s.data.toList (max q.now t)
  · have e1 : q.enough s.data.toList m t = true := decide_eq_true hm
    have e2 : q.rest s.data.toList m t = (q.left t).has s.data.toList (max q.now t) - m := if_pos hm
    have e3 : q.take s.data.toList m t = (q.left t).put s.data.toList ((q.left t).has s.data.toList (max q.now t) - m, max q.now t) := by unfold Qt.take; rw [e2]
    generalize (q.left t).has s.data.toList (max q.now t) = h at *
    have hw : IntKind.u64.wrap ((h : Int) - (m : Int)) = ((h - m : Nat) : Int) := by rw [IntKind.wrap_u64]; omega
    have hz := hq1.blk.cell
    go_wp2_with fail
    obtain ⟨W, eW, kW, hW⟩ : ∃ W, (w1.alloc (.cells #[.int .u64 ((h - m : Nat) : Int), .int .u64 ((max q.now t : Nat) : Int)] 76)) = W ∧ Blk W w1.heap.size 76 #[.int .u64 ((h - m : Nat) : Int), .int .u64 ((max q.now t : Nat) : Int)] ∧ Keeps (fun _ => False) w1 W := ⟨_, rfl, Blk.new _ _ _, (Keeps.refl _ _).alloc _⟩
    rw [eW]
    clear eW hz
    obtain ⟨w2, hrun, hm2, h3⟩ := put_run ((map_keeps h1 hW id).drew) h2 hn hs (h - m, max q.now t)
    have gc := (hq1.blk.keeps hW id).cell
    have kc := kW.cell
    go_region
    go_wp2
    go_ret
    exact ⟨rfl, take_end hq1 hk hW.drew hm2 h3 (by show h - m ≤ q.most; omega) (Nat.le_refl _) rfl⟩
  · have e1 : q.enough s.data.toList m t = false := decide_eq_false hm
    have e2 : q.rest s.data.toList m t = (q.left t).has s.data.toList (max q.now t) := if_neg hm
    have e3 : q.take s.data.toList m t = (q.left t).put s.data.toList ((q.left t).has s.data.toList (max q.now t), max q.now t) := by unfold Qt.take; rw [e2]
    generalize (q.left t).has s.data.toList (max q.now t) = h at *
    have hz := hq1.blk.cell
    go_wp2_with fail
    obtain ⟨W, eW, kW, hW⟩ : ∃ W, (w1.alloc (.cells #[.int .u64 (h : Int), .int .u64 ((max q.now t : Nat) : Int)] 76)) = W ∧ Blk W w1.heap.size 76 #[.int .u64 (h : Int), .int .u64 ((max q.now t : Nat) : Int)] ∧ Keeps (fun _ => False) w1 W := ⟨_, rfl, Blk.new _ _ _, (Keeps.refl _ _).alloc _⟩
    rw [eW]
    clear eW hz
    obtain ⟨w2, hrun, hm2, h3⟩ := put_run ((map_keeps h1 hW id).drew) h2 hn hs (h, max q.now t)
    have gc := (hq1.blk.keeps hW id).cell
    have kc := kW.cell
    go_region
    go_wp2
    go_ret
    exact ⟨rfl, take_end hq1 hk hW.drew hm2 h3 hle (Nat.le_refl _) rfl⟩
end Go.Proofs.Ytgclancneohpbaa
