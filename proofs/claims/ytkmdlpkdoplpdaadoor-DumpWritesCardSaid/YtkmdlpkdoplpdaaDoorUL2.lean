/- Walk: a line of a dump that is neither the first nor behind the end. -/
import Derived.Test.YtkmdlpkdoplpdaaDoorUL1
import Derived.Deep.QuietTactic
import Derived.BigQuiet
import Derived.IntWalk
namespace Go.Proofs.YtkmdlpkdoplpdaaDoor
open Go.RowKit
attribute [local go_sem ↓] dapp_op
section
variable {B g : Nat} {w : World} {v : Value} {k : Nat} {out : List Tup}
set_option maxHeartbeats 1000000 in
set_option maxRecDepth 100000 in
theorem line_end (l : ByteArray) (hk1 : 1 ≤ k) (hk : k ≤ 100000) (hn : out.length ≤ 100000) (htab : Tb B w) (hgB : B ≤ g) (hg : Blk w g 51 #[v, .int .i64 k, .bool false]) (hT : TOwn B w v out) (hl : l.data.toList = endL out.length) :
    Calls Tryd.prog 22 #[.pointer (some ⟨g, 0, none⟩), .string l] w (LinePost B g w v k (lineR out (k + 1) false l)) := by
  have hR : lineR out (k + 1) false l = (0, out, true) := by unfold lineR; rw [if_neg (by decide), if_neg (by omega), if_pos hl]
  rw [hR]
  obtain ⟨h1, h2, h3⟩ := line_up hg hT
  have hc := hg.cell
  have hf := hg.frozen
  obtain ⟨p, c, rfl⟩ := hT.slice
  have hB1 : Below B w (w.setCell ⟨g, 1, none⟩ (.int .i64 (k + 1))) := (Below.refl _ _).setCell (p := ⟨g, 1, none⟩) hgB _
  have hne : ((k : Int) + 1 == 1) = false := by rw [beq_eq_false_iff_ne]; omega
  have hE := end_calls out.length _ (by omega) (htab.step hB1).here
  have hsz := h3.size
  generalize out.length = n at *
  obtain ⟨E, hE0, hE1⟩ : ∃ E : ByteArray, (⟨(endL n).toArray⟩ : ByteArray) = E ∧ E.data.toList = endL n := ⟨_, rfl, rfl⟩
  rw [hE0] at hE
  have heq : (l.toList == E.toList) = true := by rw [beq_iff_eq, Lib.toList_data, Lib.toList_data, hl, hE1]
  have hE' := Lib.hid hE
  have h1' := Lib.hid h1
  have h2' := Lib.hid h2
  have h3' := Lib.hid h3
  clear h1 h2 h3 hR hT hg hE0 hE1 hl hE hB1
  go_enter Tryd.func22, Tryd.ntmps22
  go_wp2_with fail
  refine hE'.out.mono ?_
  rintro e w2 ⟨rfl, hb2⟩
  have k2 := Keeps.of_below (S := fun j => j = g) hb2
  have g2 := h1'.out.keeps (.of_below (S := fun _ => False) hb2) id
  have T2 := Lib.hid (h2'.out.later hb2)
  have K2 := Lib.hid (h3'.out.trans k2)
  have g2s := g2.set_ 2 (.bool true)
  have g2c := g2.cell
  have g2f := g2.frozen
  have g2' := Lib.hid g2
  have g2s' := Lib.hid g2s
  clear k2 hb2 g2 g2s
  go_wp2_with fail
  go_ret
  exact ⟨rfl, _, g2s'.out, T2.out.keeps (S := fun j => j = g) ((Keeps.refl (fun j => j = g) _).setCell (p := ⟨g, 2, none⟩) (.inl rfl) _) (fun j hj e => T2.out.blk_ne g2'.out (by decide) (by rw [hj, e])), (K2.out.setCell (p := ⟨g, 2, none⟩) (.inl rfl) _).mono fun j _ e => .inl e⟩
theorem last_S {w3 : World} {r n c : Nat} {k : Nat} {t u : Tup} {g : Nat} {W : World} (B4 : Below w3.heap.size w3 W) (a3 : Blk W w3.heap.size 37 #[.string t.a, .string t.b, .string t.c, .string t.d, .string t.e, .string t.f]) (hg3 : g < w3.heap.size) (hr3 : r < w3.heap.size)
    (g3c : ∀ i, w3.cell? ⟨g, i, none⟩ = (#[.slice (some ⟨r, 0, none⟩) n c, .int .i64 (k + 1), .bool false] : Array Value)[i]?)
    (hx : w3.cell? ⟨r, (n - 1) * 6, none⟩ = some (.string u.a) ∧ w3.cell? ⟨r, (n - 1) * 6 + 1, none⟩ = some (.string u.b) ∧ w3.cell? ⟨r, (n - 1) * 6 + 2, none⟩ = some (.string u.c) ∧ w3.cell? ⟨r, (n - 1) * 6 + 3, none⟩ = some (.string u.d) ∧ w3.cell? ⟨r, (n - 1) * 6 + 4, none⟩ = some (.string u.e) ∧ w3.cell? ⟨r, (n - 1) * 6 + 5, none⟩ = some (.string u.f)) :
    ∀ w', Below (w3.heap.size + 1) W w' → ((∀ i, w'.cell? ⟨g, i, none⟩ = (#[.slice (some ⟨r, 0, none⟩) n c, .int .i64 (k + 1), .bool false] : Array Value)[i]?) ∧ w'.cell? ⟨r, (n - 1) * 6, none⟩ = some (.string u.a) ∧ w'.cell? ⟨r, (n - 1) * 6 + 1, none⟩ = some (.string u.b) ∧ w'.cell? ⟨r, (n - 1) * 6 + 2, none⟩ = some (.string u.c) ∧ w'.cell? ⟨r, (n - 1) * 6 + 3, none⟩ = some (.string u.d) ∧ w'.cell? ⟨r, (n - 1) * 6 + 4, none⟩ = some (.string u.e) ∧ w'.cell? ⟨r, (n - 1) * 6 + 5, none⟩ = some (.string u.f) ∧ ∀ i, w'.cell? ⟨w3.heap.size, i, none⟩ = (#[.string t.a, .string t.b, .string t.c, .string t.d, .string t.e, .string t.f] : Array Value)[i]?) := by
  intro w' hb
  obtain ⟨x0, x1, x2, x3, x4, x5⟩ := hx
  have hb2 := hb.mono (Nat.le_succ w3.heap.size)
  have hB := B4.trans hb2
  have hr : ∀ i, w'.cell? ⟨r, i, none⟩ = w3.cell? ⟨r, i, none⟩ := fun i => hB.cell (p := ⟨r, i, none⟩) hr3
  refine ⟨fun i => (hB.cell (p := ⟨g, i, none⟩) hg3).trans (g3c i), (hr _).trans x0, (hr _).trans x1, (hr _).trans x2, (hr _).trans x3, (hr _).trans x4, (hr _).trans x5, fun i => ?_⟩
  exact (a3.below hb (Nat.lt_succ_self _)).cell i
theorem parseV_bad {l : ByteArray} (h : parseOk l = false) : parseV l = .tuple #[.agg #[.string ⟨#[]⟩, .string ⟨#[]⟩, .string ⟨#[]⟩, .string ⟨#[]⟩, .string ⟨#[]⟩, .string ⟨#[]⟩], .int .i64 9] := by unfold parseV; rw [h]; rfl
theorem parseV_ok {l : ByteArray} (h : parseOk l = true) : parseV l = .tuple #[.agg #[.string (parseT l).a, .string (parseT l).b, .string (parseT l).c, .string (parseT l).d, .string (parseT l).e, .string (parseT l).f], .int .i64 0] := by unfold parseV; rw [h]; rfl
set_option maxHeartbeats 1000000 in
set_option maxRecDepth 100000 in
theorem line_bad (l : ByteArray) (hk1 : 1 ≤ k) (hk : k ≤ 100000) (hn : out.length ≤ 100000) (hls : l.size ≤ 100000) (htab : Tb B w) (hgB : B ≤ g) (hg : Blk w g 51 #[v, .int .i64 k, .bool false]) (hT : TOwn B w v out) (hl : ¬ l.data.toList = endL out.length) (hp : parseOk l = false) :
    Calls Tryd.prog 22 #[.pointer (some ⟨g, 0, none⟩), .string l] w (LinePost B g w v k (lineR out (k + 1) false l)) := by
  have hR : lineR out (k + 1) false l = (9, out, false) := by unfold lineR; rw [if_neg (by decide), if_neg (by omega), if_neg hl, if_pos hp]
  rw [hR]
  obtain ⟨h1, h2, h3⟩ := line_up hg hT
  have hc := hg.cell
  have hf := hg.frozen
  obtain ⟨p, c, rfl⟩ := hT.slice
  have hB1 : Below B w (w.setCell ⟨g, 1, none⟩ (.int .i64 (k + 1))) := (Below.refl _ _).setCell (p := ⟨g, 1, none⟩) hgB _
  have hne : ((k : Int) + 1 == 1) = false := by rw [beq_eq_false_iff_ne]; omega
  have hE := end_calls out.length _ (by omega) (htab.step hB1).here
  have hP := fun W => parse_calls l W (by unfold maxLen; omega)
  rw [parseV_bad hp] at hP
  generalize out.length = n at *
  obtain ⟨E, hE0, hE1⟩ : ∃ E : ByteArray, (⟨(endL n).toArray⟩ : ByteArray) = E ∧ E.data.toList = endL n := ⟨_, rfl, rfl⟩
  rw [hE0] at hE
  have heq : (l.toList == E.toList) = false := by rw [beq_eq_false_iff_ne, Lib.toList_data, Lib.toList_data, hE1]; exact hl
  have hE' := Lib.hid hE
  have hP' := Lib.hid hP
  have h1' := Lib.hid h1
  have h2' := Lib.hid h2
  have h3' := Lib.hid h3
  clear h1 h2 h3 hR hT hg hE0 hE1 hl hE hB1 hP hp
  go_enter Tryd.func22, Tryd.ntmps22
  go_wp2_with fail
  refine hE'.out.mono ?_
  rintro e w2 ⟨rfl, hb2⟩
  have g2 := Lib.hid (h1'.out.keeps (.of_below (S := fun _ => False) hb2) id)
  have T2 := Lib.hid (h2'.out.later hb2)
  have K2 := Lib.hid (h3'.out.trans (Keeps.of_below (S := fun j => j = g) hb2))
  clear hb2
  go_wp2_with fail
  refine (hP'.out _).mono ?_
  rintro e w3 ⟨rfl, hb3⟩
  have g3 := Lib.hid (g2.out.keeps (.of_below (S := fun _ => False) hb3) id)
  have T3 := Lib.hid (T2.out.later hb3)
  have K3 := Lib.hid (K2.out.trans (Keeps.of_below (S := fun j => j = g) hb3))
  clear hb3
  go_wp2_with fail
  go_ret
  exact ⟨rfl, _, g3.out.alloc _, T3.out.later ((Below.refl _ _).alloc (Nat.le_refl _) _), (K3.out.alloc _).mono fun j _ e => .inl e⟩
set_option maxHeartbeats 1000000 in
set_option maxRecDepth 100000 in
theorem line_order (l : ByteArray) (hk1 : 1 ≤ k) (hk : k ≤ 100000) (hn : out.length ≤ 100000) (hls : l.size ≤ 100000) (htab : Tb B w) (hgB : B ≤ g) (hg : Blk w g 51 #[v, .int .i64 k, .bool false]) (hT : TOwn B w v out) (hl : ¬ l.data.toList = endL out.length) (hp : parseOk l = true) (hlast : lastGe out (parseT l) = true) :
    Calls Tryd.prog 22 #[.pointer (some ⟨g, 0, none⟩), .string l] w (LinePost B g w v k (lineR out (k + 1) false l)) := by
  have hR : lineR out (k + 1) false l = (11, out, false) := by unfold lineR; rw [if_neg (by decide), if_neg (by omega), if_neg hl, if_neg (by rw [hp]; decide), if_pos hlast]
  rw [hR]
  obtain ⟨h1, h2, h3⟩ := line_up hg hT
  have hc := hg.cell
  have hf := hg.frozen
  obtain ⟨p, c, rfl⟩ := hT.slice
  have hB1 : Below B w (w.setCell ⟨g, 1, none⟩ (.int .i64 (k + 1))) := (Below.refl _ _).setCell (p := ⟨g, 1, none⟩) hgB _
  have hne : ((k : Int) + 1 == 1) = false := by rw [beq_eq_false_iff_ne]; omega
  have hE := end_calls out.length _ (by omega) (htab.step hB1).here
  have hP := fun W => parse_calls l W (by unfold maxLen; omega)
  rw [parseV_ok hp] at hP
  generalize parseT l = t at *
  obtain ⟨u, hu, hge⟩ : ∃ u, out.getLast? = some u ∧ 0 ≤ cmpT u t := by
    unfold lastGe at hlast
    cases hu : out.getLast? with
    | none => rw [hu] at hlast; cases hlast
    | some u => rw [hu] at hlast; exact ⟨u, rfl, of_decide_eq_true hlast⟩
  have hpos : 0 < out.length := by
    cases out with
    | nil => cases hu
    | cons _ _ => simp
  rw [List.getLast?_eq_getElem?] at hu
  have hC := cmp_calls u t
  have hpos2 : (0 : Int) < (out.length : Int) := by omega
  have hu' := Lib.hid hu
  clear hlast hu
  obtain ⟨E, hE0, hE1⟩ : ∃ E : ByteArray, (⟨(endL out.length).toArray⟩ : ByteArray) = E ∧ E.data.toList = endL out.length := ⟨_, rfl, rfl⟩
  rw [hE0] at hE
  have heq : (l.toList == E.toList) = false := by rw [beq_eq_false_iff_ne, Lib.toList_data, Lib.toList_data, hE1]; exact hl
  have hE' := Lib.hid hE
  have hP' := Lib.hid hP
  have hC' := Lib.hid hC
  have h1' := Lib.hid h1
  have h2' := Lib.hid h2
  have h3' := Lib.hid h3
  clear h1 h2 h3 hR hT hg hE0 hE1 hl hE hB1 hP hp hC
  go_enter Tryd.func22, Tryd.ntmps22
  go_wp2_with fail
  refine hE'.out.mono ?_
  rintro e w2 ⟨rfl, hb2⟩
  have g2 := Lib.hid (h1'.out.keeps (.of_below (S := fun _ => False) hb2) id)
  have T2 := Lib.hid (h2'.out.later hb2)
  have K2 := Lib.hid (h3'.out.trans (Keeps.of_below (S := fun j => j = g) hb2))
  clear hb2
  go_wp2_with fail
  refine (hP'.out _).mono ?_
  rintro e w3 ⟨rfl, hb3⟩
  have g3 := (g2.out.keeps (.of_below (S := fun _ => False) hb3) id)
  have T3 := (T2.out.later hb3)
  have K3 := Lib.hid (K2.out.trans (Keeps.of_below (S := fun j => j = g) hb3))
  clear hb3
  have g3c := g3.cell
  have g3f := g3.frozen
  have hg3 := g3.lt
  have g3' := Lib.hid g3
  clear g3
  obtain ⟨r, c', hv, hrc, hBr, hr3, hcell⟩ := T3.cells hpos
  obtain ⟨rfl, rfl⟩ : p = some ⟨r, 0, none⟩ ∧ c = c' := by injection hv with h1 _ h3; exact ⟨h1, h3⟩
  have T3' := Lib.hid T3
  clear hv T3
  have x0 := hcell (out.length - 1) 0 u hu'.out (by omega)
  have x1 := hcell (out.length - 1) 1 u hu'.out (by omega)
  have x2 := hcell (out.length - 1) 2 u hu'.out (by omega)
  have x3 := hcell (out.length - 1) 3 u hu'.out (by omega)
  have x4 := hcell (out.length - 1) 4 u hu'.out (by omega)
  have x5 := hcell (out.length - 1) 5 u hu'.out (by omega)
  clear hcell
  have i1 : (0 : Int) ≤ (out.length : Int) - 1 := by omega
  have i2 : (out.length : Int) - 1 < (out.length : Int) := by omega
  have i3 : (1 : Int) ≤ (out.length : Int) := by omega
  have i4 : IntKind.i64.wrap ((out.length : Int) - 1) = (out.length : Int) - 1 := IntWalk.i64_in _ (by omega)
  have a3 := Blk.new w3 37 #[.string t.a, .string t.b, .string t.c, .string t.d, .string t.e, .string t.f]
  have B4 := (Below.refl w3.heap.size w3).alloc (Nat.le_refl _) (.cells #[.string t.a, .string t.b, .string t.c, .string t.d, .string t.e, .string t.f] 37)
  have hz : (w3.alloc (.cells #[.string t.a, .string t.b, .string t.c, .string t.d, .string t.e, .string t.f] 37)).drew.heap.size = w3.heap.size + 1 := by simp
  have hS := Lib.hid (last_S (t := t) (u := u) (k := k) (n := out.length) (c := c) B4 a3 hg3 hr3 g3c ⟨x0, x1, x2, x3, x4, x5⟩)
  have hz' := Lib.hid hz
  have B4' := Lib.hid B4
  clear x0 x1 x2 x3 x4 x5 a3 B4 hz
  go_wp2_with fail
  go_region_held3 (fun w' => (∀ i, w'.cell? ⟨g, i, none⟩ = (#[.slice (some ⟨r, 0, none⟩) out.length c, .int .i64 (k + 1), .bool false] : Array Value)[i]?) ∧ w'.cell? ⟨r, (out.length - 1) * 6, none⟩ = some (.string u.a) ∧ w'.cell? ⟨r, (out.length - 1) * 6 + 1, none⟩ = some (.string u.b) ∧ w'.cell? ⟨r, (out.length - 1) * 6 + 2, none⟩ = some (.string u.c) ∧ w'.cell? ⟨r, (out.length - 1) * 6 + 3, none⟩ = some (.string u.d) ∧ w'.cell? ⟨r, (out.length - 1) * 6 + 4, none⟩ = some (.string u.e) ∧ w'.cell? ⟨r, (out.length - 1) * 6 + 5, none⟩ = some (.string u.f) ∧ ∀ i, w'.cell? ⟨w3.heap.size, i, none⟩ = (#[.string t.a, .string t.b, .string t.c, .string t.d, .string t.e, .string t.f] : Array Value)[i]?) (first | exact hS.out _ (Below.refl _ _).drew | exact hS.out _ ((Below.refl _ _).drew.trans (hb5.mono (Nat.le_of_eq hz'.out.symm)))) (first | (go_at_call 17; refine (hC'.out _).mono ?_; rintro e w5 ⟨rfl, hb5⟩))
  have B5 := B4'.out.trans ((Below.refl _ _).drew.trans (hb5.mono (Nat.le_trans (Nat.le_succ _) (Nat.le_of_eq hz'.out.symm))))
  have g5 := g3'.out.keeps (.of_below (S := fun _ => False) B5) id
  have T5 := T3'.out.later B5
  have K5 := K3.out.trans (Keeps.of_below (S := fun j => j = g) B5)
  go_wp2_with fail
  go_ret
  exact ⟨rfl, _, g5, T5, K5.mono fun j _ e => .inl e⟩
set_option maxHeartbeats 1000000 in
set_option maxRecDepth 100000 in
theorem line_add (l : ByteArray) (hk1 : 1 ≤ k) (hk : k ≤ 100000) (hn : out.length ≤ 100000) (hls : l.size ≤ 100000) (htab : Tb B w) (hgB : B ≤ g) (hg : Blk w g 51 #[v, .int .i64 k, .bool false]) (hT : TOwn B w v out) (hl : ¬ l.data.toList = endL out.length) (hp : parseOk l = true) (hpos : 0 < out.length) (hlast : lastGe out (parseT l) = false) :
    Calls Tryd.prog 22 #[.pointer (some ⟨g, 0, none⟩), .string l] w (LinePost B g w v k (lineR out (k + 1) false l)) := by
  have hR : lineR out (k + 1) false l = (0, out ++ [parseT l], false) := by unfold lineR; rw [if_neg (by decide), if_neg (by omega), if_neg hl, if_neg (by rw [hp]; decide), if_neg (by rw [hlast]; decide)]
  rw [hR]
  obtain ⟨h1, h2, h3⟩ := line_up hg hT
  have hc := hg.cell
  have hf := hg.frozen
  obtain ⟨p, c, rfl⟩ := hT.slice
  have hB1 : Below B w (w.setCell ⟨g, 1, none⟩ (.int .i64 (k + 1))) := (Below.refl _ _).setCell (p := ⟨g, 1, none⟩) hgB _
  have hne : ((k : Int) + 1 == 1) = false := by rw [beq_eq_false_iff_ne]; omega
  have hE := end_calls out.length _ (by omega) (htab.step hB1).here
  have hP := fun W => parse_calls l W (by unfold maxLen; omega)
  rw [parseV_ok hp] at hP
  generalize parseT l = t at *
  obtain ⟨u, hu, hge⟩ : ∃ u, out.getLast? = some u ∧ cmpT u t < 0 := by
    unfold lastGe at hlast
    cases hu : out.getLast? with
    | none => rw [List.getLast?_eq_none_iff] at hu; rw [hu] at hpos; simp at hpos
    | some u => rw [hu] at hlast; exact ⟨u, rfl, by have := of_decide_eq_false hlast; omega⟩
  rw [List.getLast?_eq_getElem?] at hu
  have hC := cmp_calls u t
  have hpos2 : (0 : Int) < (out.length : Int) := by omega
  have hu' := Lib.hid hu
  clear hlast hu
  obtain ⟨E, hE0, hE1⟩ : ∃ E : ByteArray, (⟨(endL out.length).toArray⟩ : ByteArray) = E ∧ E.data.toList = endL out.length := ⟨_, rfl, rfl⟩
  rw [hE0] at hE
  have heq : (l.toList == E.toList) = false := by rw [beq_eq_false_iff_ne, Lib.toList_data, Lib.toList_data, hE1]; exact hl
  have hE' := Lib.hid hE
  have hP' := Lib.hid hP
  have hC' := Lib.hid hC
  have h1' := Lib.hid h1
  have h2' := Lib.hid h2
  have h3' := Lib.hid h3
  clear h1 h2 h3 hR hT hg hE0 hE1 hl hE hB1 hP hp hC
  go_enter Tryd.func22, Tryd.ntmps22
  go_wp2_with fail
  refine hE'.out.mono ?_
  rintro e w2 ⟨rfl, hb2⟩
  have g2 := Lib.hid (h1'.out.keeps (.of_below (S := fun _ => False) hb2) id)
  have T2 := Lib.hid (h2'.out.later hb2)
  have K2 := Lib.hid (h3'.out.trans (Keeps.of_below (S := fun j => j = g) hb2))
  clear hb2
  go_wp2_with fail
  refine (hP'.out _).mono ?_
  rintro e w3 ⟨rfl, hb3⟩
  have g3 := (g2.out.keeps (.of_below (S := fun _ => False) hb3) id)
  have T3 := (T2.out.later hb3)
  have K3 := Lib.hid (K2.out.trans (Keeps.of_below (S := fun j => j = g) hb3))
  clear hb3
  have g3c := g3.cell
  have g3f := g3.frozen
  have hg3 := g3.lt
  have g3' := Lib.hid g3
  clear g3
  obtain ⟨r, c', hv, hrc, hBr, hr3, hcell⟩ := T3.cells hpos
  obtain ⟨rfl, rfl⟩ : p = some ⟨r, 0, none⟩ ∧ c = c' := by injection hv with h1 _ h3; exact ⟨h1, h3⟩
  have T3' := Lib.hid T3
  clear hv T3
  have x0 := hcell (out.length - 1) 0 u hu'.out (by omega)
  have x1 := hcell (out.length - 1) 1 u hu'.out (by omega)
  have x2 := hcell (out.length - 1) 2 u hu'.out (by omega)
  have x3 := hcell (out.length - 1) 3 u hu'.out (by omega)
  have x4 := hcell (out.length - 1) 4 u hu'.out (by omega)
  have x5 := hcell (out.length - 1) 5 u hu'.out (by omega)
  clear hcell
  have i1 : (0 : Int) ≤ (out.length : Int) - 1 := by omega
  have i2 : (out.length : Int) - 1 < (out.length : Int) := by omega
  have i3 : (1 : Int) ≤ (out.length : Int) := by omega
  have i4 : IntKind.i64.wrap ((out.length : Int) - 1) = (out.length : Int) - 1 := IntWalk.i64_in _ (by omega)
  have a3 := Blk.new w3 37 #[.string t.a, .string t.b, .string t.c, .string t.d, .string t.e, .string t.f]
  have B4 := (Below.refl w3.heap.size w3).alloc (Nat.le_refl _) (.cells #[.string t.a, .string t.b, .string t.c, .string t.d, .string t.e, .string t.f] 37)
  have hz : (w3.alloc (.cells #[.string t.a, .string t.b, .string t.c, .string t.d, .string t.e, .string t.f] 37)).drew.heap.size = w3.heap.size + 1 := by simp
  have hS := Lib.hid (last_S (t := t) (u := u) (k := k) (n := out.length) (c := c) B4 a3 hg3 hr3 g3c ⟨x0, x1, x2, x3, x4, x5⟩)
  have hz' := Lib.hid hz
  have a3' := Lib.hid a3
  have B4' := Lib.hid B4
  clear x0 x1 x2 x3 x4 x5 a3 B4 hz
  go_wp2_with fail
  go_region_held3 (fun w' => (∀ i, w'.cell? ⟨g, i, none⟩ = (#[.slice (some ⟨r, 0, none⟩) out.length c, .int .i64 (k + 1), .bool false] : Array Value)[i]?) ∧ w'.cell? ⟨r, (out.length - 1) * 6, none⟩ = some (.string u.a) ∧ w'.cell? ⟨r, (out.length - 1) * 6 + 1, none⟩ = some (.string u.b) ∧ w'.cell? ⟨r, (out.length - 1) * 6 + 2, none⟩ = some (.string u.c) ∧ w'.cell? ⟨r, (out.length - 1) * 6 + 3, none⟩ = some (.string u.d) ∧ w'.cell? ⟨r, (out.length - 1) * 6 + 4, none⟩ = some (.string u.e) ∧ w'.cell? ⟨r, (out.length - 1) * 6 + 5, none⟩ = some (.string u.f) ∧ ∀ i, w'.cell? ⟨w3.heap.size, i, none⟩ = (#[.string t.a, .string t.b, .string t.c, .string t.d, .string t.e, .string t.f] : Array Value)[i]?) (first | exact hS.out _ (Below.refl _ _).drew | exact hS.out _ ((Below.refl _ _).drew.trans (hb5.mono (Nat.le_of_eq hz'.out.symm)))) (first | (go_at_call 17; refine (hC'.out _).mono ?_; rintro e w5 ⟨rfl, hb5⟩))
  have B5 := B4'.out.trans ((Below.refl _ _).drew.trans (hb5.mono (Nat.le_trans (Nat.le_succ _) (Nat.le_of_eq hz'.out.symm))))
  have g5 := g3'.out.keeps (.of_below (S := fun _ => False) B5) id
  have T5 := T3'.out.later B5
  have K5 := K3.out.trans (Keeps.of_below (S := fun j => j = g) B5)
  have a5 := a3'.out.below (B := w3.heap.size + 1) ((Below.refl _ _).drew.trans (hb5.mono (Nat.le_of_eq hz'.out.symm))) (Nat.lt_succ_self _)
  have hz5 : w3.heap.size + 1 ≤ w5.heap.size := Nat.le_trans (Nat.le_of_eq hz'.out.symm) hb5.size
  clear hb5
  have hBw5 : B ≤ w5.heap.size := by omega
  have T6 := T5.later (((Below.refl w5.heap.size w5).alloc (Nat.le_refl _) (.cells #[.string t.a, .string t.b, .string t.c, .string t.d, .string t.e, .string t.f] 37)).drew)
  have g6 := (g5.alloc (.cells #[.string t.a, .string t.b, .string t.c, .string t.d, .string t.e, .string t.f] 37)).drew
  have x6 := (Blk.new w5 37 #[.string t.a, .string t.b, .string t.c, .string t.d, .string t.e, .string t.f]).drew
  have K6 := ((K5.alloc (.cells #[.string t.a, .string t.b, .string t.c, .string t.d, .string t.e, .string t.f] 37)).drew)
  obtain ⟨p7, c7, w7, e7, T7, K7⟩ := T6.app (t := t) (by simp; omega) x6 (by omega)
  have g7 := g6.keeps K7 (T6.blk_ne g6 (by decide))
  have g7s := g7.set_ 0 (.slice p7 (out.length + 1) c7)
  have T7s := T7.keeps (S := fun j => j = g) ((Keeps.refl (fun j => j = g) w7).setCell (p := ⟨g, 0, none⟩) (.inl rfl) (.slice p7 (out.length + 1) c7)) (fun j hj e => T7.blk_ne g7 (by decide) (by rw [hj, e]))
  have K7s := ((K6.mono (T := fun j => j = g ∨ (Value.slice (some ⟨r, 0, none⟩) out.length c).ownBlock = some j) fun j _ e => .inl e).trans (K7.mono fun j _ e => .inr e)).setCell (p := ⟨g, 0, none⟩) (.inl (.inl rfl)) (.slice p7 (out.length + 1) c7)
  have hg5 := g5.lt
  have ha5 := a5.lt
  have g5c := g5.cell
  have a5c := a5.cell
  have g7c := g7.cell
  have g7f := g7.frozen
  have g7s' := Lib.hid g7s
  have T7s' := Lib.hid T7s
  have K7s' := Lib.hid K7s
  clear T6 g6 x6 K6 T7 K7 g7 g7s T7s K7s g5 T5 K5 a5 B5 hS hE' hP' hC' h1' h2' h3' g2 T2 K2 K3 g3' T3' a3' B4' hz'
  go_wp2_with fail
  go_region
  go_wp2_with fail
  go_ret
  exact ⟨rfl, _, g7s'.out, T7s'.out, K7s'.out⟩

set_option maxHeartbeats 1000000 in
set_option maxRecDepth 100000 in
theorem line_one (l : ByteArray) (hk1 : 1 ≤ k) (hk : k ≤ 100000) (hls : l.size ≤ 100000) (htab : Tb B w) (hgB : B ≤ g) (hg : Blk w g 51 #[v, .int .i64 k, .bool false]) (hT : TOwn B w v []) (hl : ¬ l.data.toList = endL 0) (hp : parseOk l = true) :
    Calls Tryd.prog 22 #[.pointer (some ⟨g, 0, none⟩), .string l] w (LinePost B g w v k (lineR [] (k + 1) false l)) := by
  have hR : lineR [] (k + 1) false l = (0, [] ++ [parseT l], false) := by unfold lineR; rw [if_neg (by decide), if_neg (by omega), if_neg (show ¬ l.data.toList = endL ([] : List Tup).length from hl), if_neg (by rw [hp]; decide), if_neg (fun h => by cases h)]
  rw [hR]
  obtain ⟨h1, h2, h3⟩ := line_up hg hT
  have hc := hg.cell
  have hf := hg.frozen
  obtain ⟨p, c, rfl⟩ : ∃ p c, v = .slice p 0 c := hT.slice
  have hB1 : Below B w (w.setCell ⟨g, 1, none⟩ (.int .i64 (k + 1))) := (Below.refl _ _).setCell (p := ⟨g, 1, none⟩) hgB _
  have hne : ((k : Int) + 1 == 1) = false := by rw [beq_eq_false_iff_ne]; omega
  have hE := end_calls 0 _ (by omega) (htab.step hB1).here
  have hP := fun W => parse_calls l W (by unfold maxLen; omega)
  rw [parseV_ok hp] at hP
  generalize parseT l = t at *
  have hgd : decide ((0 : Int) < 0) = false := rfl
  obtain ⟨E, hE0, hE1⟩ : ∃ E : ByteArray, (⟨(endL 0).toArray⟩ : ByteArray) = E ∧ E.data.toList = endL 0 := ⟨_, rfl, rfl⟩
  rw [hE0] at hE
  have heq : (l.toList == E.toList) = false := by rw [beq_eq_false_iff_ne, Lib.toList_data, Lib.toList_data, hE1]; exact hl
  have hE' := Lib.hid hE
  have hP' := Lib.hid hP
  have h1' := Lib.hid h1
  have h2' := Lib.hid h2
  have h3' := Lib.hid h3
  clear h1 h2 h3 hR hT hg hE0 hE1 hl hE hB1 hP hp
  go_enter Tryd.func22, Tryd.ntmps22
  go_wp2_with fail
  refine hE'.out.mono ?_
  rintro e w2 ⟨rfl, hb2⟩
  have g2 := Lib.hid (h1'.out.keeps (.of_below (S := fun _ => False) hb2) id)
  have T2 := Lib.hid (h2'.out.later hb2)
  have K2 := Lib.hid (h3'.out.trans (Keeps.of_below (S := fun j => j = g) hb2))
  clear hb2
  go_wp2_with fail
  refine (hP'.out _).mono ?_
  rintro e w3 ⟨rfl, hb3⟩
  have g3 := (g2.out.keeps (.of_below (S := fun _ => False) hb3) id)
  have T3 := (T2.out.later hb3)
  have K3 := Lib.hid (K2.out.trans (Keeps.of_below (S := fun j => j = g) hb3))
  clear hb3
  have g3c := g3.cell
  have g3f := g3.frozen
  have hg3 := g3.lt
  have g3' := Lib.hid g3
  clear g3
  have T3' := Lib.hid T3
  clear T3
  have a3 := Blk.new w3 37 #[.string t.a, .string t.b, .string t.c, .string t.d, .string t.e, .string t.f]
  have B4 := (Below.refl w3.heap.size w3).alloc (Nat.le_refl _) (.cells #[.string t.a, .string t.b, .string t.c, .string t.d, .string t.e, .string t.f] 37)
  have a3' := Lib.hid a3
  have B4' := Lib.hid B4
  clear a3 B4
  go_wp2_with fail
  go_quiet (fail)
  obtain ⟨w5, e5⟩ : ∃ w5, (w3.alloc (.cells #[.string t.a, .string t.b, .string t.c, .string t.d, .string t.e, .string t.f] 37)).drewN nq = w5 := ⟨_, rfl⟩
  rw [e5]
  have hb5 : Below (w3.heap.size + 1) (w3.alloc (.cells #[.string t.a, .string t.b, .string t.c, .string t.d, .string t.e, .string t.f] 37)) w5 := by rw [← e5]; exact bdrewN (Below.refl _ _) nq
  have B5 := B4'.out.trans (hb5.mono (Nat.le_succ _))
  have g5 := g3'.out.keeps (.of_below (S := fun _ => False) B5) id
  have T5 := T3'.out.later B5
  have K5 := K3.out.trans (Keeps.of_below (S := fun j => j = g) B5)
  have a5 := a3'.out.below (B := w3.heap.size + 1) hb5 (Nat.lt_succ_self _)
  have hz5 : w3.heap.size + 1 ≤ w5.heap.size := Nat.le_trans (by simp) hb5.size
  clear hb5 e5
  have hBw5 : B ≤ w5.heap.size := by omega
  have T6 := T5.later (((Below.refl w5.heap.size w5).alloc (Nat.le_refl _) (.cells #[.string t.a, .string t.b, .string t.c, .string t.d, .string t.e, .string t.f] 37)).drew)
  have g6 := (g5.alloc (.cells #[.string t.a, .string t.b, .string t.c, .string t.d, .string t.e, .string t.f] 37)).drew
  have x6 := (Blk.new w5 37 #[.string t.a, .string t.b, .string t.c, .string t.d, .string t.e, .string t.f]).drew
  have K6 := ((K5.alloc (.cells #[.string t.a, .string t.b, .string t.c, .string t.d, .string t.e, .string t.f] 37)).drew)
  obtain ⟨p7, c7, w7, e7, T7, K7⟩ := T6.app (t := t) (by simp; omega) x6 (by simp)
  rw [show ([] : List Tup).length + 1 = 1 from rfl] at e7 T7
  have g7 := g6.keeps K7 (T6.blk_ne g6 (by decide))
  have g7s := g7.set_ 0 (.slice p7 1 c7)
  have T7s := T7.keeps (S := fun j => j = g) ((Keeps.refl (fun j => j = g) w7).setCell (p := ⟨g, 0, none⟩) (.inl rfl) (.slice p7 1 c7)) (fun j hj e => T7.blk_ne g7 (by decide) (by rw [hj, e]))
  have K7s := ((K6.mono (T := fun j => j = g ∨ (Value.slice p 0 c).ownBlock = some j) fun j _ e => .inl e).trans (K7.mono fun j _ e => .inr e)).setCell (p := ⟨g, 0, none⟩) (.inl (.inl rfl)) (.slice p7 1 c7)
  have hg5 := g5.lt
  have ha5 := a5.lt
  have g5c := g5.cell
  have a5c := a5.cell
  have g7c := g7.cell
  have g7f := g7.frozen
  have g7s' := Lib.hid g7s
  have T7s' := Lib.hid T7s
  have K7s' := Lib.hid K7s
  clear T6 g6 x6 K6 T7 K7 g7 g7s T7s K7s g5 T5 K5 a5 B5 hE' hP' h1' h2' h3' g2 T2 K2 K3 g3' T3' a3' B4'
  go_wp2_with fail
  go_region
  go_wp2_with fail
  go_ret
  exact ⟨rfl, _, g7s'.out, T7s'.out, K7s'.out⟩

end
end Go.Proofs.YtkmdlpkdoplpdaaDoor
