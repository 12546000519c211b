/- Walks: schema: one, brackets. Rules put behind rules. -/
import Derived.Test.YtkibaaljpbcjeaaDoorSW4
namespace Go.Proofs.YtkibaaljpbcjeaaDoor
open Go.RowKit
theorem RAt.form {P : Nat → Prop} {w : World} {cs : List Value} {r : RT} (h : RAt P w cs r) : ∃ (k : Int) (a b : ByteArray) (p : Option Addr) (n c : Nat), cs = [.int .i64 k, .string a, .string b, .slice p n c] ∧ r.kind = k := by
  cases h with
  | mk hrow _ _ _ =>
    obtain ⟨p, c, rfl⟩ := hrow.slice
    exact ⟨_, _, _, _, _, _, rfl, rfl⟩
theorem gOne_open0 {s : List UInt8} (h : pk s = opL) : gOne 0 (toks s) = none := by
  rw [toks_cons (by rw [h]; decide), h]; rfl
theorem gOne_open {s : List UInt8} (d : Nat) (h : pk s = opL) : gOne (d + 1) (toks s) = match gRule d (toks (rest s)) with
    | none => none
    | some (r, l2) => if l2.head? = some clL then some (r, l2.tail) else none := by
  rw [toks_cons (by rw [h]; decide), h]; rfl
theorem cl_eq (s : ByteArray) : (s.toList == [41]) = (s.data.toList == clL) := by rw [Lib.toList_data]; rfl
set_option maxHeartbeats 2000000 in
set_option maxRecDepth 100000 in
theorem one_open0 (s : List UInt8) (g : Nat) (w : World) (hs : s.length ≤ 100000000) (h : RdAt w g s false 8) (hp : pk s = opL) :
    Calls Tryd.prog 70 #[.pointer (some ⟨g, 0, none⟩)] w (Told (gOne 0) w g s 8) := by
  have hgl := h.lt
  have hb : pbad s = false := pbad_no (by rw [hp]; exact List.cons_ne_nil _ _)
  have hst : strV (pk s) = .string ⟨#[40]⟩ := by rw [hp]; rfl
  have hG := gOne_open0 hp
  have P1 := fun w h => peek_calls s false 8 g w hs h
  have P2 := fun w h => token_calls s false 8 g w hs h
  rw [hst] at P1 P2
  rw [hb] at P1 P2
  have h0 : RdAt (w.alloc (.cells ruleZ 42)) g s false 8 := h.alloc _
  have hr := Blk.new w 42 ruleZ
  have hk := (Keeps.refl (fun j => j = g) w).alloc (.cells ruleZ 42)
  have hP1 := Lib.hid P1
  have hP2 := Lib.hid P2
  have h0' := Lib.hid h0
  have hr' := Lib.hid hr
  have hk' := Lib.hid hk
  have hG' := Lib.hid hG
  clear P1 P2 h0 hr hk hG hst hb hp h
  go_enter Tryd.func70, Tryd.ntmps70
  go_wp2_with fail
  refine (hP1.out _ h0'.out).mono ?_
  rintro e w1 ⟨rfl, h1, k1⟩
  have r1 := hr'.out.keeps k1 (by omega)
  have k1' := hk'.out.trans k1
  clear k1
  go_wp2_with fail
  refine (hP2.out _ h1).mono ?_
  rintro e w2 ⟨rfl, h2, k2⟩
  have r2 := r1.keeps k2 (by omega)
  have k2' := k1'.trans k2
  clear k2 h1 r1 k1'
  have q2 := Blk.cell h2
  have qf2 := Blk.frozen h2
  have c2 := r2.cell
  have cf2 := r2.frozen
  go_wp2_with fail
  obtain ⟨W, eW, hB, hR, hK, _⟩ := put_rule (w := w) rfl (RdAt.odd (RdAt.deep h2 9) true) (Blk.far (Blk.far r2 (p := ⟨g, 2, none⟩) (Nat.ne_of_gt hgl) (.int .i64 9)) (p := ⟨g, 1, none⟩) (Nat.ne_of_gt hgl) (.bool true)) ((k2'.setCell (p := ⟨g, 2, none⟩) (.inl rfl) _).setCell (p := ⟨g, 1, none⟩) (.inl rfl) _) hgl (.int .i64 0) (.string ⟨#[]⟩) (.string ⟨#[]⟩) (.slice none 0 0)
  rw [eW]
  have c5 := hB.cell
  refine bodyPost_ret (v := .agg #[.int .i64 0, .string ⟨#[]⟩, .string ⟨#[]⟩, .slice none 0 0]) (by simp [results, Tryd.results70, go_sem, c5]) rfl ?_
  exact ⟨_, .node 0 [] [] [], rest s, _, 9, rfl, RAt.leaf _ _ 0 [] [], hR, .leaf (by decide) (rest_le s), hK, .inl ⟨hG'.out, rfl⟩⟩
set_option maxHeartbeats 2000000 in
set_option maxRecDepth 100000 in
theorem one_open (s : List UInt8) (d : Nat) (deep : Int) (g : Nat) (w : World) (hs : s.length ≤ 100000000) (hd : 0 ≤ deep) (hd8 : deep < 8) (h : RdAt w g s false deep) (hp : pk s = opL)
    (hrule : ∀ w, RdAt w g (rest s) false (deep + 1) → Calls Tryd.prog 43 #[.pointer (some ⟨g, 0, none⟩)] w (Told (gRule d) w g (rest s) (deep + 1))) :
    Calls Tryd.prog 70 #[.pointer (some ⟨g, 0, none⟩)] w (Told (gOne (d + 1)) w g s deep) := by
  have hgl := h.lt
  have hb : pbad s = false := pbad_no (by rw [hp]; exact List.cons_ne_nil _ _)
  have hst : strV (pk s) = .string ⟨#[40]⟩ := by rw [hp]; rfl
  have hG := gOne_open d hp
  have P1 := fun w h => peek_calls s false deep g w hs h
  have P2 := fun w h => token_calls s false deep g w hs h
  have P3 := fun s' (hl : s'.length ≤ s.length) dd w h => token_calls s' false dd g w (Nat.le_trans hl hs) h
  rw [hst] at P1 P2
  rw [hb] at P1 P2
  have h0 : RdAt (w.alloc (.cells ruleZ 42)) g s false deep := h.alloc _
  have hr := Blk.new w 42 ruleZ
  have hk := (Keeps.refl (fun j => j = g) w).alloc (.cells ruleZ 42)
  have hP1 := Lib.hid P1
  have hP2 := Lib.hid P2
  have hP3 := Lib.hid P3
  have hrule' := Lib.hid hrule
  have h0' := Lib.hid h0
  have hr' := Lib.hid hr
  have hk' := Lib.hid hk
  have hG' := Lib.hid hG
  clear P1 P2 P3 h0 hr hk hG hst hb hp h hrule
  go_enter Tryd.func70, Tryd.ntmps70
  go_wp2_with fail
  refine (hP1.out _ h0'.out).mono ?_
  rintro e w1 ⟨rfl, h1, k1⟩
  have r1 := hr'.out.keeps k1 (by omega)
  have k1' := hk'.out.trans k1
  clear k1
  go_wp2_with fail
  refine (hP2.out _ h1).mono ?_
  rintro e w2 ⟨rfl, h2, k2⟩
  have r2 := r1.keeps k2 (by omega)
  have k2' := k1'.trans k2
  clear k2 h1 r1 k1'
  have q2 := Blk.cell h2
  have qf2 := Blk.frozen h2
  go_wp2_with fail
  have hz2 : (w2.setCell ⟨g, 2, none⟩ (.int .i64 (deep + 1))).heap.size = w2.heap.size := by simp [World.setCell]
  have r2' := r2.far (p := ⟨g, 2, none⟩) (Nat.ne_of_gt hgl) (.int .i64 (deep + 1))
  have k2'' := k2'.setCell (p := ⟨g, 2, none⟩) (.inl rfl) (.int .i64 (deep + 1))
  refine (hrule'.out _ (RdAt.deep h2 (deep + 1))).mono ?_
  rintro e w3 ⟨cs, r, s', o', d', rfl, hRA, h3, hl, k3, hcase⟩
  have r3 := r2'.keeps k3 (by omega)
  have k3' := k2''.trans k3
  have hlt2 : w.heap.size < w2.heap.size := r2.lt
  have hRA2 := hRA.mono (Q := fun j => w.heap.size < j) fun j hj _ => by rw [hz2] at hj; exact Nat.lt_of_lt_of_le hlt2 hj
  clear hRA k3 r2' k2'' h2 r2 k2' q2 qf2 hz2
  obtain ⟨k, a, b, p, n, c, rfl, hkk⟩ := hRA2.form
  have hz3 : w.heap.size < w3.heap.size := r3.lt
  obtain ⟨w4, e4⟩ : ∃ w4, w3.alloc (.cells #[.int .i64 k, .string a, .string b, .slice p n c] 42) = w4 := ⟨_, rfl⟩
  have x4 := Blk.new w3 42 #[.int .i64 k, .string a, .string b, .slice p n c]
  have r4 := r3.alloc (.cells #[.int .i64 k, .string a, .string b, .slice p n c] 42)
  have k4 := k3'.alloc (.cells #[.int .i64 k, .string a, .string b, .slice p n c] 42)
  have h4 := Blk.alloc h3 (.cells #[.int .i64 k, .string a, .string b, .slice p n c] 42)
  have RA4 := hRA2.later ((Below.refl w3.heap.size w3).alloc (Nat.le_refl _) (.cells #[.int .i64 k, .string a, .string b, .slice p n c] 42))
  rw [e4] at x4 r4 k4 h4 RA4
  have q4 := Blk.cell h4
  have qf4 := Blk.frozen h4
  have x4c := x4.cell
  have x4f := x4.frozen
  have r4c := r4.cell
  have r4f := r4.frozen
  have RA4' := Lib.hid RA4
  have hcase' := Lib.hid hcase
  clear r3 k3' h3 hRA2 hcase RA4
  have hlr : s'.length ≤ s.length := Nat.le_trans hl.le (rest_le s)
  cases o'
  · obtain ⟨eG, rfl⟩ : gRule d (toks (rest s)) = some (r, toks s') ∧ d' = deep + 1 := by
      rcases hcase'.out with ⟨_, e⟩ | ⟨eG, _, e⟩
      · cases e
      · exact ⟨eG, e⟩
    have eG' := Lib.hid eG
    clear eG hcase'
    obtain ⟨V, eV, dV⟩ : ∃ Q : ByteArray, strV (pk s') = .string Q ∧ Q.data.toList = pk s' := ⟨⟨(pk s').toArray⟩, rfl, rfl⟩
    have hV := hP3.out s' hlr (deep + 1) w4 h4
    rw [eV] at hV
    have e5 := cl_eq V
    rw [dV] at e5
    have hV' := Lib.hid hV
    clear hV
    go_wp2_with fail
    refine hV'.out.mono ?_
    rintro e w5 ⟨rfl, h5, k5⟩
    have hzg : g < w3.heap.size := Nat.lt_trans hgl hz3
    have x5 := x4.keeps k5 (by omega)
    have r5 := r4.keeps k5 (by omega)
    have k5' := k4.trans k5
    have RA5 := RA4'.out.keeps k5 fun j hj _ e => by omega
    have q5 := Blk.cell h5
    have qf5 := Blk.frozen h5
    have x5c := x5.cell
    have x5f := x5.frozen
    have r5c := r5.cell
    have r5f := r5.frozen
    have RA5' := Lib.hid RA5
    clear RA5 k5 RA4' h4 x4 r4 k4 q4 qf4 x4c x4f r4c r4f
    go_wp2_with fail
    obtain ⟨W, eW, hB, hR, hK, hK2⟩ := put_rule (w := w) rfl (RdAt.deep (RdAt.odd h5 (!pk s' == clL)) deep) (Blk.far (Blk.far r5 (p := ⟨g, 1, none⟩) (Nat.ne_of_gt hgl) (.bool (!pk s' == clL))) (p := ⟨g, 2, none⟩) (Nat.ne_of_gt hgl) (.int .i64 deep)) ((k5'.setCell (p := ⟨g, 1, none⟩) (.inl rfl) _).setCell (p := ⟨g, 2, none⟩) (.inl rfl) _) hgl (.int .i64 k) (.string a) (.string b) (.slice p n c)
    rw [eW]
    have c5 := hB.cell
    refine bodyPost_ret (v := .agg #[.int .i64 k, .string a, .string b, .slice p n c]) (by simp [results, Tryd.results70, go_sem, c5]) rfl ?_
    have RA6 := RA5'.out.keeps ((((Keeps.refl (fun j => j = g ∨ j = w.heap.size) w5).setCell (p := ⟨g, 1, none⟩) (.inl (.inl rfl)) (.bool (!pk s' == clL))).setCell (p := ⟨g, 2, none⟩) (.inl (.inl rfl)) (.int .i64 deep)).trans (hK2.mono fun j _ e => .inr e)) fun j hj _ e => by omega
    refine ⟨_, r, rest s', _, _, rfl, RA6.mono fun j hj _ => Nat.le_of_lt hj, hR, hl.wide (rest_le s) (rest_le s'), hK, ?_⟩
    rw [hG'.out, eG'.out]
    by_cases hc : pk s' = clL
    · refine .inr ⟨?_, by rw [hc]; rfl, rfl⟩
      show (if (toks s').head? = some clL then _ else _) = _
      rw [if_pos ((head_some (by decide)).2 hc), toks_cons (by rw [hc]; decide)]; rfl
    · refine .inl ⟨?_, by rw [beq_false_of_ne hc]; rfl⟩
      show (if (toks s').head? = some clL then _ else _) = _
      rw [if_neg fun e => hc ((head_some (by decide)).1 e)]
  · have hGn : gRule d (toks (rest s)) = none := by
      rcases hcase'.out with ⟨e, _⟩ | ⟨_, e, _⟩
      · exact e
      · cases e
    have hGn' := Lib.hid hGn
    clear hGn hcase'
    go_wp2_with fail
    obtain ⟨W, eW, hB, hR, hK, hK2⟩ := put_rule (w := w) rfl (RdAt.deep (RdAt.odd h4 true) (wrap64 (d' - 1))) (Blk.far (Blk.far r4 (p := ⟨g, 1, none⟩) (Nat.ne_of_gt hgl) (.bool true)) (p := ⟨g, 2, none⟩) (Nat.ne_of_gt hgl) (.int .i64 (wrap64 (d' - 1)))) ((k4.setCell (p := ⟨g, 1, none⟩) (.inl rfl) _).setCell (p := ⟨g, 2, none⟩) (.inl rfl) _) hgl (.int .i64 k) (.string a) (.string b) (.slice p n c)
    rw [eW]
    have c5 := hB.cell
    refine bodyPost_ret (v := .agg #[.int .i64 k, .string a, .string b, .slice p n c]) (by simp [results, Tryd.results70, go_sem, c5]) rfl ?_
    have RA5 := RA4'.out.keeps ((((Keeps.refl (fun j => j = g ∨ j = w.heap.size) w4).setCell (p := ⟨g, 1, none⟩) (.inl (.inl rfl)) (.bool true)).setCell (p := ⟨g, 2, none⟩) (.inl (.inl rfl)) (.int .i64 (wrap64 (d' - 1)))).trans (hK2.mono fun j _ e => .inr e)) fun j hj _ e => by omega
    exact ⟨_, r, s', _, _, rfl, RA5.mono fun j hj _ => Nat.le_of_lt hj, hR, hl.wide (rest_le s) (Nat.le_refl _), hK, .inl ⟨by rw [hG'.out, hGn'.out], rfl⟩⟩
end Go.Proofs.YtkibaaljpbcjeaaDoor
namespace Go.Proofs.YtkibaaljpbcjeaaDoor
open Go.RowKit
theorem info_rule : (Tryd.prog.info? 42).map (fun i => (i.zero, i.size, i.bytes)) = some (some (.agg #[.int .i64 0, .string ⟨#[]⟩, .string ⟨#[]⟩, .slice none 0 0]), 4, 64) := by kernel_rfl
theorem info_parts {P : Program} {t : TypeId} {z : Value} {n b : Nat} (h : (P.info? t).map (fun i => (i.zero, i.size, i.bytes)) = some (some z, n, b)) : ∃ i, P.info? t = some i ∧ i.zero = some z ∧ i.size = n ∧ i.bytes = b := by
  cases hi : P.info? t with
  | none => rw [hi] at h; cases h
  | some i =>
    rw [hi] at h
    have := Option.some.inj h
    exact ⟨i, rfl, congrArg (·.1) this, congrArg (·.2.1) this, congrArg (·.2.2) this⟩
section
variable {P : Nat → Prop} {w : World} {cs ds : List Value} {r : RT} {ps : List RT}
theorem RAt.one_cell (h : RAt P w cs r) : ∀ u ∈ cs, u.oneCell' = true := by
  obtain ⟨k, a, b, p, n, c, rfl, _⟩ := h.form
  intro u hu
  simp at hu
  rcases hu with rfl | rfl | rfl | rfl <;> rfl
theorem PartsAt.one_cell (h : PartsAt P w cs ps) : ∀ u ∈ cs, u.oneCell' = true := by
  intro u hu
  obtain ⟨j, hj, hju⟩ := List.mem_iff_getElem.1 hu
  have hlt : j / 4 < ps.length := by have := h.len; omega
  have h1 := h.part (j / 4) ps[j / 4] (List.getElem?_eq_getElem hlt)
  refine h1.one_cell u ?_
  rw [List.mem_iff_getElem?]
  refine ⟨j % 4, ?_⟩
  rw [List.getElem?_take_of_lt (Nat.mod_lt _ (by decide)), List.getElem?_drop, show j / 4 * 4 + j % 4 = j by omega, List.getElem?_eq_getElem hj, hju]
end
/-- parts that a walk gathers: their row is its own, no part lies in it -/
structure Own (B : Nat) (w : World) (v : Value) (ps : List RT) (cs : List Value) : Prop where
  row : w.ownsRow B 42 4 v ps.length cs
  parts : PartsAt (fun j => B ≤ j ∧ v.ownBlock ≠ some j) w cs ps
theorem Own.nil (B : Nat) (w : World) : Own B w (.slice none 0 0) [] [] := ⟨World.ownsRow_nil _ _ _ _, .nil⟩
theorem Own.keeps {B : Nat} {w w' : World} {v : Value} {ps : List RT} {cs : List Value} {S : Nat → Prop} (h : Own B w v ps cs) (hk : Keeps S w w') (hs : ∀ j, B ≤ j → j < w.heap.size → ¬ S j) : Own B w' v ps cs :=
  ⟨own_keeps h.row hk fun j hj => hs j (h.row.lt j hj).1 (h.row.lt j hj).2, h.parts.keeps hk fun j hj hl => hs j hj.1 hl⟩
theorem Own.app {B : Nat} {w : World} {v u : Value} {ps qs : List RT} {cs ds : List Value} (h : Own B w v ps cs) (hB : B ≤ w.heap.size) (hu : RowAt w 42 u qs.length ds) (hq : PartsAt (fun j => B ≤ j ∧ v.ownBlock ≠ some j) w ds qs) (hn : ps.length + qs.length ≤ 1000000000) :
    ∃ p c w', (dappOp #[40, 40] 40 #[v, u]).run Tryd.prog w = .ok (.slice p (ps ++ qs).length c) w' ∧ Own B w' (.slice p (ps ++ qs).length c) (ps ++ qs) (cs ++ ds) ∧ Keeps (fun j => B ≤ j ∧ j < w.heap.size ∧ v.ownBlock = some j) w w' := by
  obtain ⟨i0, hi, hz0, hz1, hz2⟩ := info_parts info_rule
  rcases hu with ⟨rfl, h0⟩ | ⟨g, c, cur, rfl, hc, hl, hcell⟩
  · obtain rfl : qs = [] := List.eq_nil_of_length_eq_zero h0
    obtain rfl : ds = [] := List.eq_nil_of_length_eq_zero (by rw [hq.len]; rfl)
    obtain ⟨p, c, rfl⟩ := own_slice h.row
    refine ⟨p, c, w, ?_, ?_, Keeps.refl _ _⟩
    · rw [List.append_nil]
      exact run_append_owned_none w B _ _ _ i0 4 Tryd.underlying40 hi _ ps.length _ h.row
    · rw [List.append_nil, List.append_nil]; exact h
  · obtain ⟨v', w', h2, h3, h4, _, h5⟩ := run_append_own_at (P := Tryd.prog) w B 40 40 42 i0 (.agg #[.int .i64 0, .string ⟨#[]⟩, .string ⟨#[]⟩, .slice none 0 0]) 4 64 Tryd.underlying40 hi hz0 hz1 hz2 rfl (by decide) v ps.length _ h.row ⟨g, 0, none⟩ qs.length c ds hq.len (by
      intro j u hj
      rw [addr_at, hl.cell j]
      exact hcell j u hj) hq.one_cell (by unfold maxLen; omega) (by omega) hB
    obtain ⟨p, c', rfl⟩ := own_slice h3
    have hk : Keeps (fun j => B ≤ j ∧ j < w.heap.size ∧ v.ownBlock = some j) w w' := (Keeps.refl _ w).grown h4 fun k e => .inl ⟨(h.row.lt k e).1, (h.row.lt k e).2, e⟩
    rw [← List.length_append] at h2 h3 h5
    refine ⟨p, c', w', h2, ⟨h3, ?_⟩, hk⟩
    have hP := h.parts.app hq
    refine (hP.mono (Q := fun j => (B ≤ j ∧ v.ownBlock ≠ some j) ∧ j < w.heap.size) fun j hj hlt => ⟨hj, hlt⟩).keeps hk (fun j hj _ e => hj.1.2 e.2.2) |>.mono fun j hj _ => ⟨hj.1.1, ?_⟩
    rcases h5 with e | e
    · rw [e]; exact hj.1.2
    · rw [e]; intro e'; have := Option.some.inj e'; omega
end Go.Proofs.YtkibaaljpbcjeaaDoor
