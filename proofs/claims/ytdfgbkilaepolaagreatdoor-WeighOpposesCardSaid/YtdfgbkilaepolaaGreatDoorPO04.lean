/- Walk: conditions: what a reader's function leaves; a unit. -/
import Derived.Test.YtdfgbkilaepolaaGreatDoorPO03
import Derived.Deep.DeepCutAuto
namespace Go.Proofs.YtdfgbkilaepolaaGreatDoor
open Go.RowKit
def condZ : Array Value := #[.int .i64 0, .int .i64 0, .string ⟨#[]⟩, .slice none 0 0]
/-- what a reader's function leaves -/
def Told (G : Toks → Res) (w : World) (g : Nat) (s : ByteArray) (l : Toks) (deep : Int) (e : Ending) (w' : World) : Prop :=
  ∃ cs c m d b, e = .returned (.agg cs.toArray) ∧ CAt (fun j => w.heap.size ≤ j) w' cs c ∧ Rd w' g s m d b ∧ Keeps (fun j => j = g) w w' ∧ m.length ≤ l.length ∧ c.parts.length + m.length ≤ l.length + 1 ∧ ((b = false ∧ d = deep ∧ G l = .ok (c, m)) ∨ (b = true ∧ G l = .error (posT m)))
theorem Rd.b5 {w : World} {g : Nat} {s : ByteArray} {l : Toks} {deep : Int} {bad : Bool} (h : Rd w g s l deep bad) : 5 < w.heap.size := by
  obtain ⟨ev, h1, _⟩ := h.err
  exact World.block_lt_of_cell? w _ h1
/-- a result is laid into its cells -/
theorem put_cond {V : World} {B g : Nat} {s : ByteArray} {l : Toks} {d : Int} {b : Bool} {z : Array Value} (hz : z.size = 4) (hr : Blk V B 28 z) (h : Rd V g s l d b) (hg : g ≠ B) (h5 : 5 ≠ B) (v0 v1 v2 v3 : Value) :
    ∃ W, ((((V.setCell ⟨B, 0, none⟩ v0).setCell ⟨B, 1, none⟩ v1).setCell ⟨B, 2, none⟩ v2).setCell ⟨B, 3, none⟩ v3) = W ∧ Blk W B 28 #[v0, v1, v2, v3] ∧ Rd W g s l d b ∧ Keeps (fun j => j = B) V W := by
  have hk : Keeps (fun j => j = B) V ((((V.setCell ⟨B, 0, none⟩ v0).setCell ⟨B, 1, none⟩ v1).setCell ⟨B, 2, none⟩ v2).setCell ⟨B, 3, none⟩ v3) :=
    ((((Keeps.refl (fun j => j = B) V).setCell (p := ⟨B, 0, none⟩) (.inl rfl) _).setCell (p := ⟨B, 1, none⟩) (.inl rfl) _).setCell (p := ⟨B, 2, none⟩) (.inl rfl) _).setCell (p := ⟨B, 3, none⟩) (.inl rfl) _
  refine ⟨_, rfl, ?_, h.keeps hk hg h5, hk⟩
  have := (((hr.set_ 0 v0).set_ 1 v1).set_ 2 v2).set_ 3 v3
  have e : (((z.setIfInBounds 0 v0).setIfInBounds 1 v1).setIfInBounds 2 v2).setIfInBounds 3 v3 = #[v0, v1, v2, v3] := by
    obtain ⟨l⟩ := z
    match l, hz with
    | [_, _, _, _], _ => rfl
  rw [e] at this; exact this
def gBr (sub : Option (Toks → Res)) (t : Tok) (r : Toks) : Res := match sub with
      | none => .error t.pos
      | some G => if isT (t :: r) openL then match G r with
          | .error e => .error e
          | .ok (c, m) => if isT m closeL then .ok (c, m.tail) else .error (posT m)
        else .error t.pos
theorem gUnit_4 {sub : Option (Toks → Res)} {t : Tok} {r : Toks} (h : t.sort = 4) : gUnit sub (t :: r) = match numG t.text 0 with | some n => .ok (leaf 3 n [], r) | none => .error t.pos := by
  unfold gUnit; simp only; rw [if_pos h]; cases numG t.text 0 <;> rfl
theorem gUnit_5 {sub : Option (Toks → Res)} {t : Tok} {r : Toks} (h : t.sort = 5) : gUnit sub (t :: r) = .ok (leaf 4 0 t.text, r) := by
  unfold gUnit; simp only; rw [if_neg (by omega), if_pos h]
theorem gUnit_m {sub : Option (Toks → Res)} {t t2 : Tok} {r : Toks} (h : t.sort = 2 ∧ t.text = minusL ∧ t.dig = true) : gUnit sub (t :: t2 :: r) = match numG t2.text 1 with | some n => .ok (leaf 3 (-n) [], r) | none => .error t2.pos := by
  unfold gUnit; simp only; rw [if_neg (by omega), if_neg (by omega), if_pos h]; show (match numG t2.text 1 with | some n => _ | none => _) = _; cases numG t2.text 1 <;> rfl
theorem gUnit_r {sub : Option (Toks → Res)} {t : Tok} {r : Toks} (h4 : ¬ t.sort = 4) (h5 : ¬ t.sort = 5) (hd : t.dig = false) : gUnit sub (t :: r) = if isT (t :: r) trueL then .ok (leaf 1 0 [], r) else if isT (t :: r) falseL then .ok (leaf 2 0 [], r) else if t.sort = 3 ∧ isNameC t.text = true then .ok (leaf 5 0 t.text, r) else gBr sub t r := by
  conv => lhs; unfold gUnit
  simp only
  rw [if_neg h4, if_neg h5, if_neg (by rw [hd]; exact fun e => by cases e.2.2)]
  rfl
theorem br_ok {sub : Option (Toks → Res)} {G : Toks → Res} {t : Tok} {r m : Toks} {c : CT} (hs : sub = some G) (h : isT (t :: r) openL = true) (hG : G r = .ok (c, m)) (hc : isT m closeL = true) : gBr sub t r = .ok (c, m.tail) := by
  rw [hs]
  show (if isT (t :: r) openL then _ else _) = _
  rw [if_pos h, hG]
  show (if isT m closeL then _ else _) = _
  rw [if_pos hc]
theorem br_no {sub : Option (Toks → Res)} {G : Toks → Res} {t : Tok} {r m : Toks} {c : CT} (hs : sub = some G) (h : isT (t :: r) openL = true) (hG : G r = .ok (c, m)) (hc : isT m closeL = false) : gBr sub t r = .error (posT m) := by
  rw [hs]
  show (if isT (t :: r) openL then _ else _) = _
  rw [if_pos h, hG]
  show (if isT m closeL then _ else _) = _
  rw [if_neg (by rw [hc]; decide)]
theorem br_err {sub : Option (Toks → Res)} {G : Toks → Res} {t : Tok} {r : Toks} {e : Nat} (hs : sub = some G) (h : isT (t :: r) openL = true) (hG : G r = .error e) : gBr sub t r = .error e := by
  rw [hs]
  show (if isT (t :: r) openL then _ else _) = _
  rw [if_pos h, hG]
theorem Rd.low {w : World} {g : Nat} {s : ByteArray} {l : Toks} {deep : Int} {bad : Bool} (h : Rd w g s l deep bad) : (∀ i, w.frozen? ⟨g, i, none⟩ = false) ∧ w.cell? ⟨g, 5, none⟩ = some (.int .i64 deep) ∧ w.cell? ⟨g, 6, none⟩ = some (.bool bad) := by
  obtain ⟨p, _, hb, _⟩ := h.at_
  exact ⟨Blk.frozen hb, Blk.cell hb 5, Blk.cell hb 6⟩
theorem sub_not {sub : Option (Toks → Res)} {t : Tok} {r : Toks} (h : isT (t :: r) openL = false) : gBr sub t r = .error (posT (t :: r)) := by
  cases sub with
  | none => rfl
  | some G =>
    show (if isT (t :: r) openL then _ else _) = _
    rw [if_neg (by rw [h]; decide)]; rfl
set_option maxHeartbeats 4000000 in
set_option maxRecDepth 100000 in
theorem unit_calls {w : World} {g : Nat} {s : ByteArray} {l : Toks} {deep : Int} (sub : Option (Toks → Res)) (h : Rd w g s l deep false) (hd : sub = none ↔ ¬ deep < 8) (hd0 : 0 ≤ deep ∧ deep ≤ 8)
    (hcond : ∀ G, sub = some G → ∀ m w, Rd w g s m (deep + 1) false → Calls Tryz.prog 92 #[.pointer (some ⟨g, 0, none⟩)] w (Told G w g s m (deep + 1))) :
    Calls Tryz.prog 171 #[.pointer (some ⟨g, 0, none⟩)] w (Told (gUnit sub) w g s l deep) := by
  obtain ⟨t, r, rfl⟩ := h.ex
  have hgl := h.lt
  have h5 := h.b5
  have hB := Blk.new w 28 condZ
  have hz0 := alloc_size w (.cells condZ 28)
  have h1 := h.alloc (.cells condZ 28)
  have k1 := (Keeps.refl (fun j => j = g) w).alloc (.cells condZ 28)
  obtain ⟨q, hq, hb, hdig⟩ := h.cells
  obtain ⟨X, eX, hX⟩ : ∃ X : ByteArray, strV t.text = .string X ∧ X.data.toList = t.text := ⟨⟨t.text.toArray⟩, rfl, rfl⟩
  rw [eX] at hb
  have c := Blk.cell hb
  have cf := Blk.frozen hb
  have hT2 := Blk.new (w.alloc (.cells condZ 28)) 130 #[.int .i64 t.sort, .string X, .int .i64 t.pos]
  have hB2 := hB.alloc (.cells #[.int .i64 t.sort, .string X, .int .i64 t.pos] 130)
  have h2 := h1.alloc (.cells #[.int .i64 t.sort, .string X, .int .i64 t.pos] 130)
  have k2 := k1.alloc (.cells #[.int .i64 t.sort, .string X, .int .i64 t.pos] 130)
  rw [hz0] at hT2
  have hb2 := (hb.alloc (.cells condZ 28)).alloc (.cells #[.int .i64 t.sort, .string X, .int .i64 t.pos] 130)
  clear hB h1 k1 hb hz0
  unfold condZ at hT2 hB2 h2 k2 hb2
  generalize hW2 : (w.alloc (.cells #[.int .i64 0, .int .i64 0, .string ⟨#[]⟩, .slice none 0 0] 28)).alloc (.cells #[.int .i64 t.sort, .string X, .int .i64 t.pos] 130) = W2 at *
  have hW2' := Lib.hid hW2
  have hT2' := Lib.hid hT2
  have hB2' := Lib.hid hB2
  have h2' := Lib.hid h2
  have k2' := Lib.hid k2
  have hb2' := Lib.hid hb2
  have hX' := Lib.hid hX
  have eX' := Lib.hid eX
  have hcond' := Lib.hid hcond
  have hd' := Lib.hid hd
  have h' := Lib.hid h
  have hdig' := Lib.hid hdig
  have htt := Lib.hid (text_len h)
  have hwf := Lib.hid h.wf
  clear h hcond hd hdig hT2 hB2 h2 k2 hX eX hb2 hW2
  by_cases h4 : t.sort = 4
  · have e4 : ((t.sort : Int) == 4) = true := by rw [h4]; rfl
    have D := Lib.hid (number_calls 0 h2'.out h4)
    have h4' := Lib.hid h4
    clear h4
    go_enter Tryz.func171, Tryz.ntmps171
    go_wp2_with fail
    rw [hW2'.out]
    refine D.out.mono ?_
    intro e w3 hN
    unfold NumPost at hN
    cases hn : numG t.text 0 with
    | some n =>
      rw [hn] at hN
      obtain ⟨rfl, hR, k3⟩ := hN
      have hBl := Lib.hid (hB2'.out.keeps k3 (Nat.ne_of_gt hgl))
      have hR := Lib.hid hR
      have hK := Lib.hid (k2'.out.trans k3)
      have c3 := Blk.cell hBl.out
      have cf3 := Blk.frozen hBl.out
      have hnn := Lib.hid hn
      clear k3 hn c cf
      go_wp2_with fail
      obtain ⟨W, eW, hBW, hRW, hKW⟩ := put_cond rfl hBl.out hR.out (Nat.ne_of_lt hgl) (Nat.ne_of_lt h5) (.int .i64 3) (.int .i64 (n)) (.string ⟨#[]⟩) (.slice none 0 0)
      rw [eW]
      have c5 := hBW.cell
      refine bodyPost_ret (v := .agg #[.int .i64 3, .int .i64 (n), .string ⟨#[]⟩, .slice none 0 0]) (by simp [results, Tryz.results171, go_sem, c5]) rfl ?_
      exact ⟨_, leaf 3 n [], r, _, _, rfl, CAt.leaf _ _ (3) (n) [], hRW, hK.out.step hKW (fun j e => .inr (by omega)), Nat.le_succ _, (by show 0 + r.length ≤ r.length + 1 + 1; omega), (.inl ⟨rfl, rfl, by rw [gUnit_4 h4'.out, hnn.out]⟩)⟩
    | none =>
      rw [hn] at hN
      obtain ⟨rfl, hR, k3⟩ := hN
      have hBl := Lib.hid (hB2'.out.keeps k3 (Nat.ne_of_gt hgl))
      have hR := Lib.hid hR
      have hK := Lib.hid (k2'.out.trans k3)
      have c3 := Blk.cell hBl.out
      have cf3 := Blk.frozen hBl.out
      have hnn := Lib.hid hn
      clear k3 hn c cf
      go_wp2_with fail
      obtain ⟨W, eW, hBW, hRW, hKW⟩ := put_cond rfl hBl.out hR.out (Nat.ne_of_lt hgl) (Nat.ne_of_lt h5) (.int .i64 3) (.int .i64 (0)) (.string ⟨#[]⟩) (.slice none 0 0)
      rw [eW]
      have c5 := hBW.cell
      refine bodyPost_ret (v := .agg #[.int .i64 3, .int .i64 (0), .string ⟨#[]⟩, .slice none 0 0]) (by simp [results, Tryz.results171, go_sem, c5]) rfl ?_
      exact ⟨_, leaf 3 0 [], t :: r, _, _, rfl, CAt.leaf _ _ (3) (0) [], hRW, hK.out.step hKW (fun j e => .inr (by omega)), Nat.le_refl _, (by show 0 + (t :: r).length ≤ (t :: r).length + 1; omega), (.inr ⟨rfl, by rw [gUnit_4 h4'.out, hnn.out]; rfl⟩)⟩
  have e4 : ((t.sort : Int) == 4) = false := by apply beq_false_of_ne; omega
  have h4' := Lib.hid h4
  clear h4
  by_cases h5' : t.sort = 5
  · have e5 : ((t.sort : Int) == 5) = true := by rw [h5']; rfl
    have D := Lib.hid (step_rd h2'.out (by rw [h5']; decide))
    have h5'' := Lib.hid h5'
    clear h5'
    go_enter Tryz.func171, Tryz.ntmps171
    go_wp2_with fail
    rw [hW2'.out]
    refine D.out.mono ?_
    rintro e w3 ⟨rfl, hR, k3⟩
    have hBl := Lib.hid (hB2'.out.keeps k3 (Nat.ne_of_gt hgl))
    have hTl := Lib.hid (hT2'.out.keeps k3 (by omega))
    have hR := Lib.hid hR
    have hK := Lib.hid (k2'.out.trans k3)
    have c3 := Blk.cell hBl.out
    have cf3 := Blk.frozen hBl.out
    have d3 := Blk.cell hTl.out
    have df3 := Blk.frozen hTl.out
    clear k3 c cf
    go_wp2_with fail
    obtain ⟨W, eW, hBW, hRW, hKW⟩ := put_cond rfl hBl.out hR.out (Nat.ne_of_lt hgl) (Nat.ne_of_lt h5) (.int .i64 4) (.int .i64 (0)) (.string X) (.slice none 0 0)
    rw [eW]
    have c5 := hBW.cell
    refine bodyPost_ret (v := .agg #[.int .i64 4, .int .i64 (0), .string X, .slice none 0 0]) (by simp [results, Tryz.results171, go_sem, c5]) rfl ?_
    exact ⟨_, leaf 4 0 t.text, r, _, _, rfl, (by rw [← eX'.out]; exact CAt.leaf _ _ (4) (0) t.text), hRW, hK.out.step hKW (fun j e => .inr (by omega)), Nat.le_succ _, (by show 0 + r.length ≤ r.length + 1 + 1; omega), (.inl ⟨rfl, rfl, gUnit_5 h5''.out⟩)⟩
  have e5 : ((t.sort : Int) == 5) = false := by apply beq_false_of_ne; omega
  have h5'' := Lib.hid h5'
  clear h5'
  -- MINUS
  go_enter Tryz.func171, Tryz.ntmps171
  go_wp2_with fail
  rw [hW2'.out]
  clear c cf
  have c := Blk.cell hb2'.out
  have cf := Blk.frozen hb2'.out
  have d := Blk.cell hT2'.out
  have df := Blk.frozen hT2'.out
  go_cut [38] (fun s38 wx => s38 = .bool t.dig ∧ ∃ n, wx = W2.drewN n)
  case first =>
    by_cases a2 : t.sort = 2
    · have e2 : ((t.sort : Int) == 2) = true := by rw [a2]; rfl
      by_cases a3 : t.text = minusL
      · have e3 : (X.toList == [45]) = true := by rw [Lib.toList_data, hX'.out, a3]; rfl
        by_cases a5 : q < s.size
        · have e6 : decide ((q : Int) < (s.size : Int)) = true := decide_eq_true (by omega)
          have e7 : (q : Int) < (s.size : Int) := by omega
          have e8 : (0 : Int) ≤ (q : Int) := by omega
          have ed : Hid (t.dig = isDig s[q]) := Lib.hid (by rw [hdig'.out, a2, a3, drop_at s q a5]; rfl)
          have D := fun W => digit_calls s[q] W
          unfold byteV at D
          have D' := Lib.hid D
          have a2' := Lib.hid a2
          have a3' := Lib.hid a3
          clear a2 a3 D
          go_quiet ((go_at_call 106; exact Calls.quiet_of_same ((D'.out _).mono fun _ _ h => ⟨h.1, h.2.symm⟩)))
          go_wp2_with fail
          go_meet
          exact ⟨by rw [ed.out], _, rfl⟩
        · have e6 : decide ((q : Int) < (s.size : Int)) = false := decide_eq_false (by omega)
          have ed : Hid (t.dig = false) := Lib.hid (by rw [hdig'.out, List.drop_eq_nil_of_le (by rw [← Lib.size_eq]; omega)]; simp [digAt])
          have a2' := Lib.hid a2
          have a3' := Lib.hid a3
          clear a2 a3
          go_quiet (fail)
          go_wp2_with fail
          go_meet
          exact ⟨by rw [ed.out], _, rfl⟩
      · have e3 : (X.toList == [45]) = false := by rw [Lib.toList_data, hX'.out]; exact beq_false_of_ne a3
        have ed : Hid (t.dig = false) := Lib.hid (by rw [hdig'.out, beq_false_of_ne a3]; simp)
        have a2' := Lib.hid a2
        have a3' := Lib.hid a3
        clear a2 a3
        go_quiet (fail)
        go_wp2_with fail
        go_meet
        exact ⟨by rw [ed.out], _, rfl⟩
    · have e2 : ((t.sort : Int) == 2) = false := by apply beq_false_of_ne; omega
      have ed : Hid (t.dig = false) := Lib.hid (by rw [hdig'.out, beq_false_of_ne a2]; simp)
      have a2' := Lib.hid a2
      clear a2
      go_quiet (fail)
      go_wp2_with fail
      go_meet
      exact ⟨by rw [ed.out], _, rfl⟩
  case rest =>
    obtain ⟨rfl, nq, rfl⟩ := hcut
    have hR3 := Lib.hid (h2'.out.same ((Keeps.refl _ W2).drewN nq))
    have hB3 := Lib.hid (hB2'.out.drewN nq)
    have hT3 := Lib.hid (hT2'.out.drewN nq)
    have hK3 := Lib.hid (k2'.out.drewN nq)
    have hb3 := Lib.hid (hb2'.out.drewN nq)
    generalize W2.drewN nq = w3 at *
    clear c cf d df hW2' hT2' hB2' h2' k2' hb2'
    cases hdg : t.dig with
    | true =>
      have hm : Hid (t.sort = 2 ∧ t.text = minusL ∧ t.dig = true) := by
        have := hdig'.out
        rw [hdg] at this
        have := this.symm
        simp only [Bool.and_eq_true, beq_iff_eq] at this
        exact Lib.hid ⟨this.1.1, this.1.2, hdg⟩
      obtain ⟨t2, r2, rfl, h24⟩ := hwf.out.2.1 hdg
      have D := Lib.hid (step_rd hR3.out (by rw [hm.out.1]; decide))
      have h24' := Lib.hid h24
      clear hdg h24
      go_wp2_with fail
      refine D.out.mono ?_
      rintro e w4 ⟨rfl, h4, k4⟩
      have D2 := Lib.hid (number_calls 1 h4 h24'.out)
      have hB4 := Lib.hid (hB3.out.keeps k4 (Nat.ne_of_gt hgl))
      have hK4 := Lib.hid (hK3.out.trans k4)
      clear h4 k4
      go_wp2_with fail
      refine D2.out.mono ?_
      intro e w5 hN
      unfold NumPost at hN
      cases hn : numG t2.text 1 with
      | some n =>
        rw [hn] at hN
        obtain ⟨rfl, hR, k5⟩ := hN
        have hBl := Lib.hid (hB4.out.keeps k5 (Nat.ne_of_gt hgl))
        have hR := Lib.hid hR
        have hK := Lib.hid (hK4.out.trans k5)
        have c3 := Blk.cell hBl.out
        have cf3 := Blk.frozen hBl.out
        have hnn := Lib.hid hn
        have hb1 : (n : Int) ≤ 1000000000000000 := by have := (num_inv hn).2.1; have e : mostN = 1000000000000000 := rfl; omega
        clear k5 hn
        go_wp2_with fail
        obtain ⟨W, eW, hBW, hRW, hKW⟩ := put_cond rfl hBl.out hR.out (Nat.ne_of_lt hgl) (Nat.ne_of_lt h5) (.int .i64 3) (.int .i64 (-(n : Int))) (.string ⟨#[]⟩) (.slice none 0 0)
        rw [eW]
        have c5 := hBW.cell
        refine bodyPost_ret (v := .agg #[.int .i64 3, .int .i64 (-(n : Int)), .string ⟨#[]⟩, .slice none 0 0]) (by simp [results, Tryz.results171, go_sem, c5]) rfl ?_
        exact ⟨_, leaf 3 (-(n : Int)) [], r2, _, _, rfl, CAt.leaf _ _ (3) (-(n : Int)) [], hRW, hK.out.step hKW (fun j e => .inr (by omega)), (by simp; omega), (by show 0 + r2.length ≤ r2.length + 1 + 1 + 1; omega), (.inl ⟨rfl, rfl, by rw [gUnit_m hm.out, hnn.out]⟩)⟩
      | none =>
        rw [hn] at hN
        obtain ⟨rfl, hR, k5⟩ := hN
        have hBl := Lib.hid (hB4.out.keeps k5 (Nat.ne_of_gt hgl))
        have hR := Lib.hid hR
        have hK := Lib.hid (hK4.out.trans k5)
        have c3 := Blk.cell hBl.out
        have cf3 := Blk.frozen hBl.out
        have hnn := Lib.hid hn
        clear k5 hn
        go_wp2_with fail
        obtain ⟨W, eW, hBW, hRW, hKW⟩ := put_cond rfl hBl.out hR.out (Nat.ne_of_lt hgl) (Nat.ne_of_lt h5) (.int .i64 3) (.int .i64 (0)) (.string ⟨#[]⟩) (.slice none 0 0)
        rw [eW]
        have c5 := hBW.cell
        refine bodyPost_ret (v := .agg #[.int .i64 3, .int .i64 (0), .string ⟨#[]⟩, .slice none 0 0]) (by simp [results, Tryz.results171, go_sem, c5]) rfl ?_
        exact ⟨_, leaf 3 0 [], t2 :: r2, _, _, rfl, CAt.leaf _ _ (3) (0) [], hRW, hK.out.step hKW (fun j e => .inr (by omega)), Nat.le_succ _, (by show 0 + (r2.length + 1) ≤ r2.length + 1 + 1 + 1; omega), (.inr ⟨rfl, by rw [gUnit_m hm.out, hnn.out]; rfl⟩)⟩
    | false =>
      have hG := Lib.hid (gUnit_r (sub := sub) (r := r) h4'.out h5''.out hdg)
      clear hdg
      by_cases hx1 : isT (t :: r) trueL = true
      · have hx1' := Lib.hid hx1
        clear hx1
        have D := Lib.hid (take_yes ⟨#[116, 114, 117, 101]⟩ hR3.out hx1'.out)
        go_wp2_with fail
        refine D.out.mono ?_
        rintro e w4 ⟨rfl, hR, k4⟩
        have hBl := Lib.hid (hB3.out.keeps k4 (Nat.ne_of_gt hgl))
        have hR := Lib.hid hR
        have hK := Lib.hid (hK3.out.trans k4)
        have c3 := Blk.cell hBl.out
        have cf3 := Blk.frozen hBl.out
        clear k4
        go_wp2_with fail
        obtain ⟨W, eW, hBW, hRW, hKW⟩ := put_cond rfl hBl.out hR.out (Nat.ne_of_lt hgl) (Nat.ne_of_lt h5) (.int .i64 1) (.int .i64 (0)) (.string ⟨#[]⟩) (.slice none 0 0)
        rw [eW]
        have c5 := hBW.cell
        refine bodyPost_ret (v := .agg #[.int .i64 1, .int .i64 (0), .string ⟨#[]⟩, .slice none 0 0]) (by simp [results, Tryz.results171, go_sem, c5]) rfl ?_
        exact ⟨_, leaf 1 0 [], r, _, _, rfl, CAt.leaf _ _ (1) (0) [], hRW, hK.out.step hKW (fun j e => .inr (by omega)), Nat.le_succ _, (by show 0 + r.length ≤ r.length + 1 + 1; omega), (.inl ⟨rfl, rfl, by rw [hG.out, if_pos hx1'.out]⟩)⟩
      have hx1' := Lib.hid (Bool.eq_false_iff.2 hx1)
      clear hx1
      have D := Lib.hid (take_no ⟨#[116, 114, 117, 101]⟩ hR3.out (.inr hx1'.out))
      go_wp2_with fail
      refine D.out.mono ?_
      rintro e w' ⟨rfl, rfl⟩
      clear D
      by_cases hx2 : isT (t :: r) falseL = true
      · have hx2' := Lib.hid hx2
        clear hx2
        have D := Lib.hid (take_yes ⟨#[102, 97, 108, 115, 101]⟩ hR3.out hx2'.out)
        go_wp2_with fail
        refine D.out.mono ?_
        rintro e w4 ⟨rfl, hR, k4⟩
        have hBl := Lib.hid (hB3.out.keeps k4 (Nat.ne_of_gt hgl))
        have hR := Lib.hid hR
        have hK := Lib.hid (hK3.out.trans k4)
        have c3 := Blk.cell hBl.out
        have cf3 := Blk.frozen hBl.out
        clear k4
        go_wp2_with fail
        obtain ⟨W, eW, hBW, hRW, hKW⟩ := put_cond rfl hBl.out hR.out (Nat.ne_of_lt hgl) (Nat.ne_of_lt h5) (.int .i64 2) (.int .i64 (0)) (.string ⟨#[]⟩) (.slice none 0 0)
        rw [eW]
        have c5 := hBW.cell
        refine bodyPost_ret (v := .agg #[.int .i64 2, .int .i64 (0), .string ⟨#[]⟩, .slice none 0 0]) (by simp [results, Tryz.results171, go_sem, c5]) rfl ?_
        exact ⟨_, leaf 2 0 [], r, _, _, rfl, CAt.leaf _ _ (2) (0) [], hRW, hK.out.step hKW (fun j e => .inr (by omega)), Nat.le_succ _, (by show 0 + r.length ≤ r.length + 1 + 1; omega), (.inl ⟨rfl, rfl, by rw [hG.out, if_neg (by rw [hx1'.out]; decide), if_pos hx2'.out]⟩)⟩
      have hx2' := Lib.hid (Bool.eq_false_iff.2 hx2)
      clear hx2
      have D := Lib.hid (take_no ⟨#[102, 97, 108, 115, 101]⟩ hR3.out (.inr hx2'.out))
      go_wp2_with fail
      refine D.out.mono ?_
      rintro e w' ⟨rfl, rfl⟩
      clear D
      have d := Blk.cell hT3.out
      have df := Blk.frozen hT3.out
      have hXm : X.size ≤ 4096 := by have := htt.out; rw [← hX'.out, ← Lib.size_eq] at this; exact this
      have DN := Lib.hid (fun w => condName_calls X w hXm)
      by_cases hx3 : t.sort = 3 ∧ isNameC t.text = true
      · have e3 : ((t.sort : Int) == 3) = true := by rw [hx3.1]; rfl
        have hx3' := Lib.hid hx3
        clear hx3
        go_wp2_with fail
        have DN2 := DN.out w3
        rw [hX'.out, hx3'.out.2] at DN2
        refine DN2.mono ?_
        rintro e w4 ⟨rfl, hb4⟩
        clear DN2
        have k4 := Keeps.of_below (S := fun _ => False) hb4
        have D := Lib.hid (step_rd (hR3.out.same k4) (by rw [hx3'.out.1]; decide))
        have hB4 := Lib.hid (hB3.out.keeps k4 id)
        have hT4 := Lib.hid (hT3.out.keeps k4 id)
        have hK4 := Lib.hid (hK3.out.step k4 fun _ e => e.elim)
        clear hb4 k4 d df
        go_wp2_with fail
        refine D.out.mono ?_
        rintro e w5 ⟨rfl, hR, k5⟩
        have hBl := Lib.hid (hB4.out.keeps k5 (Nat.ne_of_gt hgl))
        have hTl := Lib.hid (hT4.out.keeps k5 (by omega))
        have hR := Lib.hid hR
        have hK := Lib.hid (hK4.out.trans k5)
        have c3 := Blk.cell hBl.out
        have cf3 := Blk.frozen hBl.out
        have d3 := Blk.cell hTl.out
        have df3 := Blk.frozen hTl.out
        clear k5
        go_wp2_with fail
        obtain ⟨W, eW, hBW, hRW, hKW⟩ := put_cond rfl hBl.out hR.out (Nat.ne_of_lt hgl) (Nat.ne_of_lt h5) (.int .i64 5) (.int .i64 (0)) (.string X) (.slice none 0 0)
        rw [eW]
        have c5 := hBW.cell
        refine bodyPost_ret (v := .agg #[.int .i64 5, .int .i64 (0), .string X, .slice none 0 0]) (by simp [results, Tryz.results171, go_sem, c5]) rfl ?_
        exact ⟨_, leaf 5 0 t.text, r, _, _, rfl, (by rw [← eX'.out]; exact CAt.leaf _ _ (5) (0) t.text), hRW, hK.out.step hKW (fun j e => .inr (by omega)), Nat.le_succ _, (by show 0 + r.length ≤ r.length + 1 + 1; omega), (.inl ⟨rfl, rfl, by rw [hG.out, if_neg (by rw [hx1'.out]; decide), if_neg (by rw [hx2'.out]; decide), if_pos hx3'.out]⟩)⟩
      have hG2 : Hid (gUnit sub (t :: r) = gBr sub t r) := Lib.hid (by rw [hG.out, if_neg (by rw [hx1'.out]; decide), if_neg (by rw [hx2'.out]; decide), if_neg hx3])
      clear hG
      by_cases h3 : t.sort = 3
      · have e3 : ((t.sort : Int) == 3) = true := by rw [h3]; rfl
        have hnn : Hid (isNameC t.text = false) := Lib.hid (by
          cases hh : isNameC t.text
          · rfl
          · exact absurd ⟨h3, hh⟩ hx3)
        have h3' := Lib.hid h3
        clear h3 hx3
        go_wp2_with fail
        have DN2 := DN.out w3
        rw [hX'.out, hnn.out] at DN2
        refine DN2.mono ?_
        rintro e w4 ⟨rfl, hb4⟩
        clear DN2
        have k4 := Keeps.of_below (S := fun _ => False) hb4
        have hR4 := Lib.hid (hR3.out.same k4)
        have hB4 := Lib.hid (hB3.out.keeps k4 id)
        have hK4 := Lib.hid (hK3.out.step k4 fun _ e => e.elim)
        clear hb4 k4 d df
        by_cases hdp : deep < 8
        · have edp : decide (deep < 8) = true := decide_eq_true hdp
          by_cases hx4 : isT (t :: r) openL = true
          · have hx4' := Lib.hid hx4
            clear hx4
            obtain ⟨G, hs⟩ : ∃ G, sub = some G := by
              cases hsb : sub with
              | none => exact absurd (hd'.out.1 hsb) (by omega)
              | some G => exact ⟨G, rfl⟩
            have hs' := Lib.hid hs
            clear hs
            obtain ⟨_, _, gf, _, g6, _, g5⟩ := hR4.out.lead
            have D := Lib.hid (take_yes ⟨#[40]⟩ hR4.out hx4'.out)
            go_wp2_with fail
            refine D.out.mono ?_
            rintro e w5 ⟨rfl, h5a, k5⟩
            clear D gf g6 g5
            have h5a : Rd w5 g s r deep false := h5a
            have hB5 := hB4.out.keeps k5 (Nat.ne_of_gt hgl)
            have hK5 := hK4.out.trans k5
            have hR6 := Lib.hid (h5a.at_deep (deep + 1))
            have hB6 := Lib.hid (hB5.far (p := ⟨g, 5, none⟩) (Nat.ne_of_gt hgl) (.int .i64 (deep + 1)))
            have hK6 := Lib.hid (hK5.setCell (p := ⟨g, 5, none⟩) (.inl rfl) (.int .i64 (deep + 1)))
            obtain ⟨gf, g5, g6⟩ := h5a.low
            clear h5a k5 hB5 hK5
            go_wp2_with fail
            refine (hcond'.out G hs'.out r _ hR6.out).mono ?_
            rintro e w7 ⟨cs, c, m, d, b, rfl, hC, hR7, k7, hm1, hm2, hcase⟩
            have hlt6 := hB6.out.lt
            have hB7 := hB6.out.keeps k7 (Nat.ne_of_gt hgl)
            have hK7 := hK6.out.trans k7
            have hC7 := hC.mono (Q := fun j => w.heap.size < j) fun j hj _ => Nat.lt_of_lt_of_le hlt6 hj
            clear hC k7 gf g5 g6 hlt6
            obtain ⟨pp, nn, cc, rfl, hpn⟩ := hC7.form
            obtain ⟨Q, eQ, dQ⟩ : ∃ Q : ByteArray, strV c.str = .string Q ∧ Q.data.toList = c.str := ⟨⟨c.str.toArray⟩, rfl, rfl⟩
            rw [eQ] at hC7 ⊢
            obtain ⟨w8, e8⟩ : ∃ w8, w7.alloc (.cells #[.int .i64 c.kind, .int .i64 c.num, .string Q, .slice pp nn cc] 28) = w8 := ⟨_, rfl⟩
            have x8 := Blk.new w7 28 #[.int .i64 c.kind, .int .i64 c.num, .string Q, .slice pp nn cc]
            have hR8 := hR7.alloc (.cells #[.int .i64 c.kind, .int .i64 c.num, .string Q, .slice pp nn cc] 28)
            have hB8 := hB7.alloc (.cells #[.int .i64 c.kind, .int .i64 c.num, .string Q, .slice pp nn cc] 28)
            have hK8 := hK7.alloc (.cells #[.int .i64 c.kind, .int .i64 c.num, .string Q, .slice pp nn cc] 28)
            have hC8 := hC7.later ((Below.refl w7.heap.size w7).alloc (Nat.le_refl _) (.cells #[.int .i64 c.kind, .int .i64 c.num, .string Q, .slice pp nn cc] 28))
            have hB7l := hB7.lt
            have hgl7 : g < w7.heap.size := by omega
            rw [e8] at x8 hR8 hB8 hK8 hC8
            obtain ⟨gf, g5, g6⟩ := hR8.low
            have hx8 := Lib.hid x8
            have hR8' := Lib.hid hR8
            have hB8' := Lib.hid hB8
            have hK8' := Lib.hid hK8
            have hC8' := Lib.hid hC8
            have hcase' := Lib.hid hcase
            have hpn' := Lib.hid hpn
            have dQ' := Lib.hid dQ
            have eQ' := Lib.hid eQ
            clear hR7 hB7 hK7 hC7 x8 hR8 hB8 hK8 hC8 hcase hpn dQ eQ hR6 hB6 hK6
            cases b with
            | false =>
              obtain ⟨rfl, hGr⟩ : d = deep + 1 ∧ G r = .ok (c, m) := by
                rcases hcase'.out with ⟨_, e1, e2⟩ | ⟨e1, _⟩
                · exact ⟨e1, e2⟩
                · cases e1
              have hGr' := Lib.hid hGr
              clear hGr hcase'
              have hR9 := Lib.hid (hR8'.out.at_deep deep)
              by_cases hcl : isT m closeL = true
              · have D := Lib.hid (need_yes ⟨#[41]⟩ hR9.out hcl)
                have hcl' := Lib.hid hcl
                clear hcl
                go_wp2_with fail
                refine D.out.mono ?_
                rintro e w10 ⟨rfl, hR, k10⟩
                have x10 := (hx8.out.far (p := ⟨g, 5, none⟩) (Nat.ne_of_gt hgl7) (.int .i64 (deep))).keeps k10 (Nat.ne_of_gt hgl7)
                have hB10 := Lib.hid ((hB8'.out.far (p := ⟨g, 5, none⟩) (Nat.ne_of_gt hgl) (.int .i64 (deep))).keeps k10 (Nat.ne_of_gt hgl))
                have hK10 := Lib.hid ((hK8'.out.setCell (p := ⟨g, 5, none⟩) (.inl rfl) (.int .i64 (deep))).trans k10)
                have hC10 := Lib.hid (hC8'.out.keeps (((Keeps.refl (fun j => j = g) w8).setCell (p := ⟨g, 5, none⟩) (.inl rfl) (.int .i64 (deep))).trans k10) fun j hj _ e => by omega)
                have hR10 := Lib.hid hR
                have x10c := x10.cell
                have x10f := x10.frozen
                have b10c := hB10.out.cell
                have b10f := hB10.out.frozen
                clear k10 hR x10 gf g5 g6 e8 D
                go_wp2_with fail
                obtain ⟨W, eW, hBW, hRW, hKW⟩ := put_cond rfl hB10.out hR10.out (Nat.ne_of_lt hgl) (Nat.ne_of_lt h5) (.int .i64 c.kind) (.int .i64 c.num) (.string Q) (.slice pp nn cc)
                rw [eW]
                have c5 := hBW.cell
                refine bodyPost_ret (v := .agg #[.int .i64 c.kind, .int .i64 c.num, .string Q, .slice pp nn cc]) (by simp [results, Tryz.results171, go_sem, c5]) rfl ?_
                exact ⟨_, c, m.tail, _, _, rfl, (hC10.out.keeps hKW fun j hj _ e => by omega).mono fun j hj _ => Nat.le_of_lt hj, hRW, hK10.out.step hKW (fun j e => .inr (by omega)), (by have : m.tail.length ≤ m.length := (by simp); show _ ≤ r.length + 1; omega), (by have : m.tail.length ≤ m.length := (by simp); show _ ≤ r.length + 1 + 1; omega), (.inl ⟨rfl, rfl, by rw [hG2.out]; exact br_ok hs'.out hx4'.out hGr'.out hcl'.out⟩)⟩
              · have D := Lib.hid (need_no ⟨#[41]⟩ hR9.out (.inr (Bool.eq_false_iff.2 hcl)))
                have hcl' := Lib.hid (Bool.eq_false_iff.2 hcl)
                clear hcl
                go_wp2_with fail
                refine D.out.mono ?_
                rintro e w10 ⟨rfl, hR, k10⟩
                have x10 := (hx8.out.far (p := ⟨g, 5, none⟩) (Nat.ne_of_gt hgl7) (.int .i64 (deep))).keeps k10 (Nat.ne_of_gt hgl7)
                have hB10 := Lib.hid ((hB8'.out.far (p := ⟨g, 5, none⟩) (Nat.ne_of_gt hgl) (.int .i64 (deep))).keeps k10 (Nat.ne_of_gt hgl))
                have hK10 := Lib.hid ((hK8'.out.setCell (p := ⟨g, 5, none⟩) (.inl rfl) (.int .i64 (deep))).trans k10)
                have hC10 := Lib.hid (hC8'.out.keeps (((Keeps.refl (fun j => j = g) w8).setCell (p := ⟨g, 5, none⟩) (.inl rfl) (.int .i64 (deep))).trans k10) fun j hj _ e => by omega)
                have hR10 := Lib.hid hR
                have x10c := x10.cell
                have x10f := x10.frozen
                have b10c := hB10.out.cell
                have b10f := hB10.out.frozen
                clear k10 hR x10 gf g5 g6 e8 D
                go_wp2_with fail
                obtain ⟨W, eW, hBW, hRW, hKW⟩ := put_cond rfl hB10.out hR10.out (Nat.ne_of_lt hgl) (Nat.ne_of_lt h5) (.int .i64 c.kind) (.int .i64 c.num) (.string Q) (.slice pp nn cc)
                rw [eW]
                have c5 := hBW.cell
                refine bodyPost_ret (v := .agg #[.int .i64 c.kind, .int .i64 c.num, .string Q, .slice pp nn cc]) (by simp [results, Tryz.results171, go_sem, c5]) rfl ?_
                exact ⟨_, c, m, _, _, rfl, (hC10.out.keeps hKW fun j hj _ e => by omega).mono fun j hj _ => Nat.le_of_lt hj, hRW, hK10.out.step hKW (fun j e => .inr (by omega)), (by show _ ≤ r.length + 1; omega), (by show _ ≤ r.length + 1 + 1; omega), (.inr ⟨rfl, by rw [hG2.out]; exact br_no hs'.out hx4'.out hGr'.out hcl'.out⟩)⟩
            | true =>
              have hGr : G r = .error (posT m) := by
                rcases hcase'.out with ⟨e1, _⟩ | ⟨_, e1⟩
                · cases e1
                · exact e1
              have hGr' := Lib.hid hGr
              clear hGr hcase'
              have hR9 := Lib.hid (hR8'.out.at_deep (wrap64 (d - 1)))
              have D := Lib.hid (need_no ⟨#[41]⟩ hR9.out (.inl rfl))
              go_wp2_with fail
              refine D.out.mono ?_
              rintro e w10 ⟨rfl, hR, k10⟩
              have x10 := (hx8.out.far (p := ⟨g, 5, none⟩) (Nat.ne_of_gt hgl7) (.int .i64 (wrap64 (d - 1)))).keeps k10 (Nat.ne_of_gt hgl7)
              have hB10 := Lib.hid ((hB8'.out.far (p := ⟨g, 5, none⟩) (Nat.ne_of_gt hgl) (.int .i64 (wrap64 (d - 1)))).keeps k10 (Nat.ne_of_gt hgl))
              have hK10 := Lib.hid ((hK8'.out.setCell (p := ⟨g, 5, none⟩) (.inl rfl) (.int .i64 (wrap64 (d - 1)))).trans k10)
              have hC10 := Lib.hid (hC8'.out.keeps (((Keeps.refl (fun j => j = g) w8).setCell (p := ⟨g, 5, none⟩) (.inl rfl) (.int .i64 (wrap64 (d - 1)))).trans k10) fun j hj _ e => by omega)
              have hR10 := Lib.hid hR
              have x10c := x10.cell
              have x10f := x10.frozen
              have b10c := hB10.out.cell
              have b10f := hB10.out.frozen
              clear k10 hR x10 gf g5 g6 e8 D
              go_wp2_with fail
              obtain ⟨W, eW, hBW, hRW, hKW⟩ := put_cond rfl hB10.out hR10.out (Nat.ne_of_lt hgl) (Nat.ne_of_lt h5) (.int .i64 c.kind) (.int .i64 c.num) (.string Q) (.slice pp nn cc)
              rw [eW]
              have c5 := hBW.cell
              refine bodyPost_ret (v := .agg #[.int .i64 c.kind, .int .i64 c.num, .string Q, .slice pp nn cc]) (by simp [results, Tryz.results171, go_sem, c5]) rfl ?_
              exact ⟨_, c, m, _, _, rfl, (hC10.out.keeps hKW fun j hj _ e => by omega).mono fun j hj _ => Nat.le_of_lt hj, hRW, hK10.out.step hKW (fun j e => .inr (by omega)), (by show _ ≤ r.length + 1; omega), (by show _ ≤ r.length + 1 + 1; omega), (.inr ⟨rfl, by rw [hG2.out]; exact br_err hs'.out hx4'.out hGr'.out⟩)⟩
          · have hx4' := Lib.hid (Bool.eq_false_iff.2 hx4)
            clear hx4
            obtain ⟨_, _, gf, _, g6, _, g5⟩ := hR4.out.lead
            have D := Lib.hid (take_no ⟨#[40]⟩ hR4.out (.inr hx4'.out))
            go_wp2_with fail
            refine D.out.mono ?_
            rintro e w' ⟨rfl, rfl⟩
            clear D
            clear gf g6 g5
            obtain ⟨_, _, gf, _, g6, _, g5⟩ := hR4.out.lead
            have c3 := Blk.cell hB4.out
            have cf3 := Blk.frozen hB4.out
            go_wp2_with fail
            obtain ⟨W, eW, hBW, hRW, hKW⟩ := put_cond rfl (Blk.far hB4.out (p := ⟨g, 6, none⟩) (Nat.ne_of_gt hgl) (.bool true)) hR4.out.worse (Nat.ne_of_lt hgl) (Nat.ne_of_lt h5) (.int .i64 0) (.int .i64 0) (.string ⟨#[]⟩) (.slice none 0 0)
            rw [eW]
            have c5 := hBW.cell
            refine bodyPost_ret (v := .agg #[.int .i64 0, .int .i64 0, .string ⟨#[]⟩, .slice none 0 0]) (by simp [results, Tryz.results171, go_sem, c5]) rfl ?_
            exact ⟨_, leaf 0 0 [], t :: r, _, _, rfl, CAt.leaf _ _ 0 0 [], hRW, (hK4.out.setCell (p := ⟨g, 6, none⟩) (.inl rfl) _).step hKW (fun j e => .inr (by omega)), Nat.le_refl _, (by show 0 + (r.length + 1) ≤ r.length + 1 + 1; omega), .inr ⟨rfl, (by rw [hG2.out]; exact sub_not hx4'.out)⟩⟩
        · have edp : decide (deep < 8) = false := decide_eq_false hdp
          have hsn := Lib.hid (hd'.out.2 (by omega))
          obtain ⟨_, _, gf, _, g6, _, g5⟩ := hR4.out.lead
          have c3 := Blk.cell hB4.out
          have cf3 := Blk.frozen hB4.out
          go_wp2_with fail
          obtain ⟨W, eW, hBW, hRW, hKW⟩ := put_cond rfl (Blk.far hB4.out (p := ⟨g, 6, none⟩) (Nat.ne_of_gt hgl) (.bool true)) hR4.out.worse (Nat.ne_of_lt hgl) (Nat.ne_of_lt h5) (.int .i64 0) (.int .i64 0) (.string ⟨#[]⟩) (.slice none 0 0)
          rw [eW]
          have c5 := hBW.cell
          refine bodyPost_ret (v := .agg #[.int .i64 0, .int .i64 0, .string ⟨#[]⟩, .slice none 0 0]) (by simp [results, Tryz.results171, go_sem, c5]) rfl ?_
          exact ⟨_, leaf 0 0 [], t :: r, _, _, rfl, CAt.leaf _ _ 0 0 [], hRW, (hK4.out.setCell (p := ⟨g, 6, none⟩) (.inl rfl) _).step hKW (fun j e => .inr (by omega)), Nat.le_refl _, (by show 0 + (r.length + 1) ≤ r.length + 1 + 1; omega), .inr ⟨rfl, (by rw [hG2.out, hsn.out]; rfl)⟩⟩
      · have e3 : ((t.sort : Int) == 3) = false := by apply beq_false_of_ne; omega
        have h3' := Lib.hid h3
        clear h3 hx3
        by_cases hdp : deep < 8
        · have edp : decide (deep < 8) = true := decide_eq_true hdp
          by_cases hx4 : isT (t :: r) openL = true
          · have hx4' := Lib.hid hx4
            clear hx4
            obtain ⟨G, hs⟩ : ∃ G, sub = some G := by
              cases hsb : sub with
              | none => exact absurd (hd'.out.1 hsb) (by omega)
              | some G => exact ⟨G, rfl⟩
            have hs' := Lib.hid hs
            clear hs
            obtain ⟨_, _, gf, _, g6, _, g5⟩ := hR3.out.lead
            have D := Lib.hid (take_yes ⟨#[40]⟩ hR3.out hx4'.out)
            go_wp2_with fail
            refine D.out.mono ?_
            rintro e w5 ⟨rfl, h5a, k5⟩
            clear D gf g6 g5
            have h5a : Rd w5 g s r deep false := h5a
            have hB5 := hB3.out.keeps k5 (Nat.ne_of_gt hgl)
            have hK5 := hK3.out.trans k5
            have hR6 := Lib.hid (h5a.at_deep (deep + 1))
            have hB6 := Lib.hid (hB5.far (p := ⟨g, 5, none⟩) (Nat.ne_of_gt hgl) (.int .i64 (deep + 1)))
            have hK6 := Lib.hid (hK5.setCell (p := ⟨g, 5, none⟩) (.inl rfl) (.int .i64 (deep + 1)))
            obtain ⟨gf, g5, g6⟩ := h5a.low
            clear h5a k5 hB5 hK5
            go_wp2_with fail
            refine (hcond'.out G hs'.out r _ hR6.out).mono ?_
            rintro e w7 ⟨cs, c, m, d, b, rfl, hC, hR7, k7, hm1, hm2, hcase⟩
            have hlt6 := hB6.out.lt
            have hB7 := hB6.out.keeps k7 (Nat.ne_of_gt hgl)
            have hK7 := hK6.out.trans k7
            have hC7 := hC.mono (Q := fun j => w.heap.size < j) fun j hj _ => Nat.lt_of_lt_of_le hlt6 hj
            clear hC k7 gf g5 g6 hlt6
            obtain ⟨pp, nn, cc, rfl, hpn⟩ := hC7.form
            obtain ⟨Q, eQ, dQ⟩ : ∃ Q : ByteArray, strV c.str = .string Q ∧ Q.data.toList = c.str := ⟨⟨c.str.toArray⟩, rfl, rfl⟩
            rw [eQ] at hC7 ⊢
            obtain ⟨w8, e8⟩ : ∃ w8, w7.alloc (.cells #[.int .i64 c.kind, .int .i64 c.num, .string Q, .slice pp nn cc] 28) = w8 := ⟨_, rfl⟩
            have x8 := Blk.new w7 28 #[.int .i64 c.kind, .int .i64 c.num, .string Q, .slice pp nn cc]
            have hR8 := hR7.alloc (.cells #[.int .i64 c.kind, .int .i64 c.num, .string Q, .slice pp nn cc] 28)
            have hB8 := hB7.alloc (.cells #[.int .i64 c.kind, .int .i64 c.num, .string Q, .slice pp nn cc] 28)
            have hK8 := hK7.alloc (.cells #[.int .i64 c.kind, .int .i64 c.num, .string Q, .slice pp nn cc] 28)
            have hC8 := hC7.later ((Below.refl w7.heap.size w7).alloc (Nat.le_refl _) (.cells #[.int .i64 c.kind, .int .i64 c.num, .string Q, .slice pp nn cc] 28))
            have hB7l := hB7.lt
            have hgl7 : g < w7.heap.size := by omega
            rw [e8] at x8 hR8 hB8 hK8 hC8
            obtain ⟨gf, g5, g6⟩ := hR8.low
            have hx8 := Lib.hid x8
            have hR8' := Lib.hid hR8
            have hB8' := Lib.hid hB8
            have hK8' := Lib.hid hK8
            have hC8' := Lib.hid hC8
            have hcase' := Lib.hid hcase
            have hpn' := Lib.hid hpn
            have dQ' := Lib.hid dQ
            have eQ' := Lib.hid eQ
            clear hR7 hB7 hK7 hC7 x8 hR8 hB8 hK8 hC8 hcase hpn dQ eQ hR6 hB6 hK6
            cases b with
            | false =>
              obtain ⟨rfl, hGr⟩ : d = deep + 1 ∧ G r = .ok (c, m) := by
                rcases hcase'.out with ⟨_, e1, e2⟩ | ⟨e1, _⟩
                · exact ⟨e1, e2⟩
                · cases e1
              have hGr' := Lib.hid hGr
              clear hGr hcase'
              have hR9 := Lib.hid (hR8'.out.at_deep deep)
              by_cases hcl : isT m closeL = true
              · have D := Lib.hid (need_yes ⟨#[41]⟩ hR9.out hcl)
                have hcl' := Lib.hid hcl
                clear hcl
                go_wp2_with fail
                refine D.out.mono ?_
                rintro e w10 ⟨rfl, hR, k10⟩
                have x10 := (hx8.out.far (p := ⟨g, 5, none⟩) (Nat.ne_of_gt hgl7) (.int .i64 (deep))).keeps k10 (Nat.ne_of_gt hgl7)
                have hB10 := Lib.hid ((hB8'.out.far (p := ⟨g, 5, none⟩) (Nat.ne_of_gt hgl) (.int .i64 (deep))).keeps k10 (Nat.ne_of_gt hgl))
                have hK10 := Lib.hid ((hK8'.out.setCell (p := ⟨g, 5, none⟩) (.inl rfl) (.int .i64 (deep))).trans k10)
                have hC10 := Lib.hid (hC8'.out.keeps (((Keeps.refl (fun j => j = g) w8).setCell (p := ⟨g, 5, none⟩) (.inl rfl) (.int .i64 (deep))).trans k10) fun j hj _ e => by omega)
                have hR10 := Lib.hid hR
                have x10c := x10.cell
                have x10f := x10.frozen
                have b10c := hB10.out.cell
                have b10f := hB10.out.frozen
                clear k10 hR x10 gf g5 g6 e8 D
                go_wp2_with fail
                obtain ⟨W, eW, hBW, hRW, hKW⟩ := put_cond rfl hB10.out hR10.out (Nat.ne_of_lt hgl) (Nat.ne_of_lt h5) (.int .i64 c.kind) (.int .i64 c.num) (.string Q) (.slice pp nn cc)
                rw [eW]
                have c5 := hBW.cell
                refine bodyPost_ret (v := .agg #[.int .i64 c.kind, .int .i64 c.num, .string Q, .slice pp nn cc]) (by simp [results, Tryz.results171, go_sem, c5]) rfl ?_
                exact ⟨_, c, m.tail, _, _, rfl, (hC10.out.keeps hKW fun j hj _ e => by omega).mono fun j hj _ => Nat.le_of_lt hj, hRW, hK10.out.step hKW (fun j e => .inr (by omega)), (by have : m.tail.length ≤ m.length := (by simp); show _ ≤ r.length + 1; omega), (by have : m.tail.length ≤ m.length := (by simp); show _ ≤ r.length + 1 + 1; omega), (.inl ⟨rfl, rfl, by rw [hG2.out]; exact br_ok hs'.out hx4'.out hGr'.out hcl'.out⟩)⟩
              · have D := Lib.hid (need_no ⟨#[41]⟩ hR9.out (.inr (Bool.eq_false_iff.2 hcl)))
                have hcl' := Lib.hid (Bool.eq_false_iff.2 hcl)
                clear hcl
                go_wp2_with fail
                refine D.out.mono ?_
                rintro e w10 ⟨rfl, hR, k10⟩
                have x10 := (hx8.out.far (p := ⟨g, 5, none⟩) (Nat.ne_of_gt hgl7) (.int .i64 (deep))).keeps k10 (Nat.ne_of_gt hgl7)
                have hB10 := Lib.hid ((hB8'.out.far (p := ⟨g, 5, none⟩) (Nat.ne_of_gt hgl) (.int .i64 (deep))).keeps k10 (Nat.ne_of_gt hgl))
                have hK10 := Lib.hid ((hK8'.out.setCell (p := ⟨g, 5, none⟩) (.inl rfl) (.int .i64 (deep))).trans k10)
                have hC10 := Lib.hid (hC8'.out.keeps (((Keeps.refl (fun j => j = g) w8).setCell (p := ⟨g, 5, none⟩) (.inl rfl) (.int .i64 (deep))).trans k10) fun j hj _ e => by omega)
                have hR10 := Lib.hid hR
                have x10c := x10.cell
                have x10f := x10.frozen
                have b10c := hB10.out.cell
                have b10f := hB10.out.frozen
                clear k10 hR x10 gf g5 g6 e8 D
                go_wp2_with fail
                obtain ⟨W, eW, hBW, hRW, hKW⟩ := put_cond rfl hB10.out hR10.out (Nat.ne_of_lt hgl) (Nat.ne_of_lt h5) (.int .i64 c.kind) (.int .i64 c.num) (.string Q) (.slice pp nn cc)
                rw [eW]
                have c5 := hBW.cell
                refine bodyPost_ret (v := .agg #[.int .i64 c.kind, .int .i64 c.num, .string Q, .slice pp nn cc]) (by simp [results, Tryz.results171, go_sem, c5]) rfl ?_
                exact ⟨_, c, m, _, _, rfl, (hC10.out.keeps hKW fun j hj _ e => by omega).mono fun j hj _ => Nat.le_of_lt hj, hRW, hK10.out.step hKW (fun j e => .inr (by omega)), (by show _ ≤ r.length + 1; omega), (by show _ ≤ r.length + 1 + 1; omega), (.inr ⟨rfl, by rw [hG2.out]; exact br_no hs'.out hx4'.out hGr'.out hcl'.out⟩)⟩
            | true =>
              have hGr : G r = .error (posT m) := by
                rcases hcase'.out with ⟨e1, _⟩ | ⟨_, e1⟩
                · cases e1
                · exact e1
              have hGr' := Lib.hid hGr
              clear hGr hcase'
              have hR9 := Lib.hid (hR8'.out.at_deep (wrap64 (d - 1)))
              have D := Lib.hid (need_no ⟨#[41]⟩ hR9.out (.inl rfl))
              go_wp2_with fail
              refine D.out.mono ?_
              rintro e w10 ⟨rfl, hR, k10⟩
              have x10 := (hx8.out.far (p := ⟨g, 5, none⟩) (Nat.ne_of_gt hgl7) (.int .i64 (wrap64 (d - 1)))).keeps k10 (Nat.ne_of_gt hgl7)
              have hB10 := Lib.hid ((hB8'.out.far (p := ⟨g, 5, none⟩) (Nat.ne_of_gt hgl) (.int .i64 (wrap64 (d - 1)))).keeps k10 (Nat.ne_of_gt hgl))
              have hK10 := Lib.hid ((hK8'.out.setCell (p := ⟨g, 5, none⟩) (.inl rfl) (.int .i64 (wrap64 (d - 1)))).trans k10)
              have hC10 := Lib.hid (hC8'.out.keeps (((Keeps.refl (fun j => j = g) w8).setCell (p := ⟨g, 5, none⟩) (.inl rfl) (.int .i64 (wrap64 (d - 1)))).trans k10) fun j hj _ e => by omega)
              have hR10 := Lib.hid hR
              have x10c := x10.cell
              have x10f := x10.frozen
              have b10c := hB10.out.cell
              have b10f := hB10.out.frozen
              clear k10 hR x10 gf g5 g6 e8 D
              go_wp2_with fail
              obtain ⟨W, eW, hBW, hRW, hKW⟩ := put_cond rfl hB10.out hR10.out (Nat.ne_of_lt hgl) (Nat.ne_of_lt h5) (.int .i64 c.kind) (.int .i64 c.num) (.string Q) (.slice pp nn cc)
              rw [eW]
              have c5 := hBW.cell
              refine bodyPost_ret (v := .agg #[.int .i64 c.kind, .int .i64 c.num, .string Q, .slice pp nn cc]) (by simp [results, Tryz.results171, go_sem, c5]) rfl ?_
              exact ⟨_, c, m, _, _, rfl, (hC10.out.keeps hKW fun j hj _ e => by omega).mono fun j hj _ => Nat.le_of_lt hj, hRW, hK10.out.step hKW (fun j e => .inr (by omega)), (by show _ ≤ r.length + 1; omega), (by show _ ≤ r.length + 1 + 1; omega), (.inr ⟨rfl, by rw [hG2.out]; exact br_err hs'.out hx4'.out hGr'.out⟩)⟩
          · have hx4' := Lib.hid (Bool.eq_false_iff.2 hx4)
            clear hx4
            obtain ⟨_, _, gf, _, g6, _, g5⟩ := hR3.out.lead
            have D := Lib.hid (take_no ⟨#[40]⟩ hR3.out (.inr hx4'.out))
            go_wp2_with fail
            refine D.out.mono ?_
            rintro e w' ⟨rfl, rfl⟩
            clear D
            clear gf g6 g5
            obtain ⟨_, _, gf, _, g6, _, g5⟩ := hR3.out.lead
            have c3 := Blk.cell hB3.out
            have cf3 := Blk.frozen hB3.out
            go_wp2_with fail
            obtain ⟨W, eW, hBW, hRW, hKW⟩ := put_cond rfl (Blk.far hB3.out (p := ⟨g, 6, none⟩) (Nat.ne_of_gt hgl) (.bool true)) hR3.out.worse (Nat.ne_of_lt hgl) (Nat.ne_of_lt h5) (.int .i64 0) (.int .i64 0) (.string ⟨#[]⟩) (.slice none 0 0)
            rw [eW]
            have c5 := hBW.cell
            refine bodyPost_ret (v := .agg #[.int .i64 0, .int .i64 0, .string ⟨#[]⟩, .slice none 0 0]) (by simp [results, Tryz.results171, go_sem, c5]) rfl ?_
            exact ⟨_, leaf 0 0 [], t :: r, _, _, rfl, CAt.leaf _ _ 0 0 [], hRW, (hK3.out.setCell (p := ⟨g, 6, none⟩) (.inl rfl) _).step hKW (fun j e => .inr (by omega)), Nat.le_refl _, (by show 0 + (r.length + 1) ≤ r.length + 1 + 1; omega), .inr ⟨rfl, (by rw [hG2.out]; exact sub_not hx4'.out)⟩⟩
        · have edp : decide (deep < 8) = false := decide_eq_false hdp
          have hsn := Lib.hid (hd'.out.2 (by omega))
          obtain ⟨_, _, gf, _, g6, _, g5⟩ := hR3.out.lead
          have c3 := Blk.cell hB3.out
          have cf3 := Blk.frozen hB3.out
          go_wp2_with fail
          obtain ⟨W, eW, hBW, hRW, hKW⟩ := put_cond rfl (Blk.far hB3.out (p := ⟨g, 6, none⟩) (Nat.ne_of_gt hgl) (.bool true)) hR3.out.worse (Nat.ne_of_lt hgl) (Nat.ne_of_lt h5) (.int .i64 0) (.int .i64 0) (.string ⟨#[]⟩) (.slice none 0 0)
          rw [eW]
          have c5 := hBW.cell
          refine bodyPost_ret (v := .agg #[.int .i64 0, .int .i64 0, .string ⟨#[]⟩, .slice none 0 0]) (by simp [results, Tryz.results171, go_sem, c5]) rfl ?_
          exact ⟨_, leaf 0 0 [], t :: r, _, _, rfl, CAt.leaf _ _ 0 0 [], hRW, (hK3.out.setCell (p := ⟨g, 6, none⟩) (.inl rfl) _).step hKW (fun j e => .inr (by omega)), Nat.le_refl _, (by show 0 + (r.length + 1) ≤ r.length + 1 + 1; omega), .inr ⟨rfl, (by rw [hG2.out, hsn.out]; rfl)⟩⟩
end Go.Proofs.YtdfgbkilaepolaaGreatDoor
