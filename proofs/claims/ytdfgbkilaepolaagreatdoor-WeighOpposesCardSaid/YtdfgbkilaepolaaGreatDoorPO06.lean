/- Walk: the document's unit of conditions: a digit or a name. Walks: the document's products of conditions. Walks: conditions: sums. -/
import Derived.Test.YtdfgbkilaepolaaGreatDoorPO05
import Derived.Test.YtdfgbkilaepolaaGreatDoorPW03
namespace Go.Proofs.YtdfgbkilaepolaaGreatDoor
open Go.RowKit
/-- a digit or a name -/
def uR : Toks → Res
  | [] => .error 0
  | t :: r => if t.sort = 4 then (match t.text with | [d] => if isDig d = true then .ok (leaf 3 ((d.toNat : Int) - 48) [], r) else .error 0 | _ => .error 0)
    else if t.sort = 3 ∧ isNameC t.text = true then .ok (leaf 5 0 t.text, r) else .error 0
/-- what the document's reader leaves where it reads something -/
def ToldG (c : CT) (r : Toks) (w : World) (g gs : Nat) (L : Toks) (e : Ending) (w' : World) : Prop := ∃ cs, e = .returned (.agg cs.toArray) ∧ CAt (fun j => w.heap.size ≤ j) w' cs c ∧ RgL w' g gs L r ∧ Keeps (fun j => j = g) w w'
def SaidG (F : Nat) (G : Toks → Res) (g gs : Nat) (L : Toks) : Prop := ∀ (w : World) (l : Toks) (c : CT) (r : Toks), RgL w g gs L l → G l = .ok (c, r) → Calls Tryz.prog F #[.pointer (some ⟨g, 0, none⟩)] w (ToldG c r w g gs L)
theorem rput_cond {V : World} {B g gs : Nat} {L l : Toks} {z : Array Value} (hz : z.size = 4) (hr : Blk V B 28 z) (h : RgL V g gs L l) (hg : g ≠ B) (h5 : gs ≠ B) (v0 v1 v2 v3 : Value) :
    ∃ W, ((((V.setCell ⟨B, 0, none⟩ v0).setCell ⟨B, 1, none⟩ v1).setCell ⟨B, 2, none⟩ v2).setCell ⟨B, 3, none⟩ v3) = W ∧ Blk W B 28 #[v0, v1, v2, v3] ∧ RgL W g gs L l ∧ Keeps (fun j => j = B) V W := by
  have hk : Keeps (fun j => j = B) V ((((V.setCell ⟨B, 0, none⟩ v0).setCell ⟨B, 1, none⟩ v1).setCell ⟨B, 2, none⟩ v2).setCell ⟨B, 3, none⟩ v3) :=
    ((((Keeps.refl (fun j => j = B) V).setCell (p := ⟨B, 0, none⟩) (.inl rfl) _).setCell (p := ⟨B, 1, none⟩) (.inl rfl) _).setCell (p := ⟨B, 2, none⟩) (.inl rfl) _).setCell (p := ⟨B, 3, none⟩) (.inl rfl) _
  refine ⟨_, rfl, ?_, h.keeps hk hg h5, hk⟩
  have := (((hr.set_ 0 v0).set_ 1 v1).set_ 2 v2).set_ 3 v3
  have e : (((z.setIfInBounds 0 v0).setIfInBounds 1 v1).setIfInBounds 2 v2).setIfInBounds 3 v3 = #[v0, v1, v2, v3] := by
    obtain ⟨l⟩ := z
    match l, hz with
    | [_, _, _, _], _ => rfl
  rw [e] at this; exact this
theorem strV_same (s : ByteArray) : strV s.data.toList = .string s := by unfold strV; rw [Array.toArray_toList]
/-- one sign on -/
theorem Rg.next {w : World} {g gs : Nat} {L : Toks} {p : Nat} {t : Tok} (h : Rg w g gs L p) (ht : L[p]? = some t) (h2 : 2 ≤ t.sort) : Rg (w.setCell ⟨g, 1, none⟩ (.int .i64 ((p : Int) + 1))) g gs L (p + 1) ∧ Keeps (fun j => j = g) w (w.setCell ⟨g, 1, none⟩ (.int .i64 ((p : Int) + 1))) := by
  have hn1 := (h.wf p t ht).2.2 h2
  have k1 : Keeps (fun j => j = g) w (w.setCell ⟨g, 1, none⟩ (.int .i64 ((p : Int) + 1))) := (Keeps.refl (fun j => j = g) w).setCell (p := ⟨g, 1, none⟩) (.inl rfl) _
  obtain ⟨⟨cap, g1, g2⟩, g3, g4, g5, g6, g7⟩ := h
  refine ⟨⟨⟨cap, g1.set_ 1 _, g2⟩, g3, Nat.lt_of_lt_of_le g4 k1.size, fun k t ht j u hu => ?_, g6, hn1⟩, k1⟩
  have hh := g5 k t ht j u hu
  unfold World.cell? at hh ⊢
  simp only at hh ⊢
  rw [k1.block gs g4 g3]; exact hh
set_option maxHeartbeats 8000000 in
set_option maxRecDepth 100000 in
theorem runit_calls (g gs : Nat) (L : Toks) : SaidG 131 uR g gs L := by
  intro w l c r h hU
  obtain ⟨p, rfl, h⟩ := h
  obtain ⟨t, y, cap, ht, hy, hc1, hc2, y0, y1, y2, y3, hB⟩ := h.cells
  rw [h.drop ht] at hU
  have hU : (if t.sort = 4 then (match t.text with | [d] => if isDig d = true then .ok (leaf 3 ((d.toNat : Int) - 48) [], L.drop (p + 1)) else .error 0 | _ => .error 0) else if t.sort = 3 ∧ isNameC t.text = true then .ok (leaf 5 0 t.text, L.drop (p + 1)) else .error 0 : Res) = .ok (c, r) := hU
  have lg := hB.lt
  have lgs := h.lt
  have gne := h.ne
  have hat := h.at_
  have ati : (p : Int) < (L.length : Int) := by omega
  have at0 : (0 : Int) ≤ (p : Int) := by omega
  have hlen : (p : Int) + 1 < 9223372036854775808 := by unfold maxLen at hc2; omega
  -- the result's block
  have b0 := Blk.new w 28 #[.int .i64 0, .int .i64 0, .string ⟨#[]⟩, .slice none 0 0]
  have B0 := (Below.refl w.heap.size w).alloc (Nat.le_refl _) (.cells #[.int .i64 0, .int .i64 0, .string ⟨#[]⟩, .slice none 0 0] 28)
  obtain ⟨w0, e0⟩ : ∃ w0, w.alloc (.cells #[.int .i64 0, .int .i64 0, .string ⟨#[]⟩, .slice none 0 0] 28) = w0 := ⟨_, rfl⟩
  obtain ⟨B, eB⟩ : ∃ B, w.heap.size = B := ⟨_, rfl⟩
  rw [e0] at b0 B0
  rw [eB] at b0 lg lgs
  have h0 := h.later B0
  obtain ⟨t', y', cap', ht', hy', hc1', hc2', z0, z1, z2, z3, hB0⟩ := h0.cells
  obtain rfl : t = t' := by rw [ht] at ht'; exact Option.some.inj ht'
  have bc := hB0.cell
  have h0' := Lib.hid h0
  have b0' := Lib.hid b0
  have B0' := Lib.hid B0
  have hc1i : L.length ≤ cap' := hc1'
  unfold maxLen at hc2'
  -- the sign's block
  have s1 := (Blk.new w0 50 #[.string y', .int .i64 t.pos, .bool (t.sort == 4), .bool (t.sort == 5)]).drew
  have b1 := (b0.alloc (.cells #[.string y', .int .i64 t.pos, .bool (t.sort == 4), .bool (t.sort == 5)] 50)).drew
  have B1 := (B0.alloc B0.size (.cells #[.string y', .int .i64 t.pos, .bool (t.sort == 4), .bool (t.sort == 5)] 50)).drew
  have h1 := h0.later ((Below.refl w0.heap.size w0).alloc (Nat.le_refl _) (.cells #[.string y', .int .i64 t.pos, .bool (t.sort == 4), .bool (t.sort == 5)] 50)).drew
  have r1 := (hB0.alloc (.cells #[.string y', .int .i64 t.pos, .bool (t.sort == 4), .bool (t.sort == 5)] 50)).drew
  have szw : B < w0.heap.size := b0.lt
  have lg0 : g < w0.heap.size := by omega
  have lgs0 : gs < w0.heap.size := by omega
  have s1' := Lib.hid s1
  have b1' := Lib.hid b1
  have B1' := Lib.hid B1
  have h1' := Lib.hid h1
  have r1' := Lib.hid r1
  have hcB : Hid (∀ (W : World) (V : World) (l' : Toks) (v0 v1 v2 v3 : Value), True) := Lib.hid fun _ _ _ _ _ _ _ => trivial
  have ht2 := Lib.hid ht
  have hB2 := Lib.hid hB
  clear h hB ht ht' b0 B0 h0 hB0 s1 b1 B1 h1 r1 hcB y0 y1 y2 y3 hc1 hc2 hy
  by_cases h4 : t.sort = 4
  · rw [if_pos h4] at hU
    obtain ⟨d, hd, hdig, rfl, rfl⟩ : ∃ d, t.text = [d] ∧ isDig d = true ∧ c = leaf 3 ((d.toNat : Int) - 48) [] ∧ r = L.drop (p + 1) := by
      match hX : t.text, hU with
      | [], hU => cases hU
      | [d], hU =>
        by_cases hg : isDig d = true
        · have hU : (if isDig d = true then Except.ok (leaf 3 ((d.toNat : Int) - 48) [], L.drop (p + 1)) else Except.error 0 : Res) = _ := hU
          rw [if_pos hg] at hU
          injection hU with hU
          injection hU with h1 h2
          exact ⟨d, rfl, hg, h1.symm, h2.symm⟩
        · have hU : (if isDig d = true then Except.ok (leaf 3 ((d.toNat : Int) - 48) [], L.drop (p + 1)) else Except.error 0 : Res) = _ := hU
          rw [if_neg hg] at hU; cases hU
      | _ :: _ :: _, hU => cases hU
    have hyd : y'.data.toList = [d] := by rw [hy', hd]
    have N := Lib.hid (fun W => rnumber_calls y' d W hyd hdig)
    have h45 : (t.sort == 4) = true ∧ (t.sort == 5) = false := by rw [h4]; exact ⟨rfl, rfl⟩
    obtain ⟨e4, e5⟩ := h45
    rw [e4, e5] at s1' b1' B1' h1' r1'
    rw [e4] at z2
    rw [e5] at z3
    have hs2 : 2 ≤ t.sort := by omega
    have hs2' := Lib.hid hs2
    clear hU hd hdig h4 e4 e5 hy' hyd hs2
    go_enter Tryz.func131, Tryz.ntmps131
    go_wp2
    go_region
    generalize (w0.alloc (.cells #[.string y', .int .i64 t.pos, .bool true, .bool false] 50)).drew = W1 at *
    have sc := s1'.out.cell
    clear bc z0 z1 z2 z3
    have bc := r1'.out.cell
    have bf := r1'.out.frozen
    go_wp2_with fail
    refine (N.out W1).mono ?_
    rintro e w' ⟨rfl, rfl⟩
    obtain ⟨hn, hk⟩ := h1'.out.next ht2.out hs2'.out
    have b2 := b1'.out.keeps hk (Nat.ne_of_gt lg)
    have hn' := Lib.hid hn
    have hk' := Lib.hid hk
    have b2c := b1'.out.cell
    have b2f := b1'.out.frozen
    have b2' := Lib.hid b2
    have neB : g ≠ B := Nat.ne_of_lt lg
    have neB2 : B ≠ g := Nat.ne_of_gt lg
    clear hn hk b2 sc
    go_wp2_with fail
    obtain ⟨W, eW, hBW, hRW, hKW⟩ := rput_cond rfl b2'.out ⟨p + 1, rfl, hn'.out⟩ (Nat.ne_of_lt lg) (Nat.ne_of_lt lgs) (.int .i64 3) (.int .i64 ((d.toNat : Int) - 48)) (.string ⟨#[]⟩) (.slice none 0 0)
    rw [eW]
    have c5 := hBW.cell
    refine bodyPost_ret (v := .agg #[.int .i64 3, .int .i64 ((d.toNat : Int) - 48), .string ⟨#[]⟩, .slice none 0 0]) (by simp [results, Tryz.results131, go_sem, c5]) rfl ?_
    exact ⟨_, rfl, CAt.leaf _ _ _ _ _, hRW, (((Keeps.of_below' (S := fun j => j = g ∨ B ≤ j) B1'.out (fun k h1 _ => .inr (by omega))).step hk'.out (fun k e => .inl (.inl e))).step hKW (fun k e => .inl (.inr (by omega)))).mono fun k hk hs => by rcases hs with h | h <;> omega⟩
  · rw [if_neg h4] at hU
    by_cases h3 : t.sort = 3 ∧ isNameC t.text = true
    case neg => rw [if_neg h3] at hU; cases hU
    rw [if_pos h3] at hU
    injection hU with hU
    injection hU with hU1 hU2
    subst hU1 hU2
    obtain ⟨h3, hnm⟩ := h3
    have hsz : y'.size ≤ 4096 := by
      rw [Lib.size_eq, hy']
      unfold isNameC isName at hnm
      simp at hnm
      omega
    have N := Lib.hid (fun W => rname_calls y' W hsz (by rw [hy']; exact hnm))
    have noT : ∀ x : List UInt8, isNameC x = false → isT (L.drop p) x = false := fun x hx => by
      rw [h0'.out.drop ht2.out, isT_cons]
      have : (t.text == x) = false := by
        apply beq_false_of_ne
        intro e; rw [e, hx] at hnm; cases hnm
      rw [this, Bool.and_false]
    have i1 := noT [45] (by decide)
    have i2 := noT [116, 114, 117, 101] (by decide)
    have i3 := noT [102, 97, 108, 115, 101] (by decide)
    have i4 := noT [40] (by decide)
    have h45 : (t.sort == 4) = false ∧ (t.sort == 5) = false := by rw [h3]; exact ⟨rfl, rfl⟩
    obtain ⟨e4, e5⟩ := h45
    rw [e4, e5] at s1' b1' B1' h1' r1'
    rw [e4] at z2
    rw [e5] at z3
    have hs2 : 2 ≤ t.sort := by omega
    have hs2' := Lib.hid hs2
    have hlf : Hid (leaf 5 0 t.text = leaf 5 0 y'.data.toList) := Lib.hid (by rw [hy'])
    have i1' := Lib.hid i1
    have i2' := Lib.hid i2
    have i3' := Lib.hid i3
    have i4' := Lib.hid i4
    clear h3 h4 e4 e5 hnm hy' hsz hs2 noT i1 i2 i3 i4
    go_enter Tryz.func131, Tryz.ntmps131
    go_wp2
    go_region
    generalize (w0.alloc (.cells #[.string y', .int .i64 t.pos, .bool false, .bool false] 50)).drew = W1 at *
    have sc := s1'.out.cell
    clear bc z0 z1 z2 z3
    have bc := r1'.out.cell
    have bf := r1'.out.frozen
    go_wp2_with fail
    have h2d := h1'.out.later (Below.refl _ W1).drew
    have s2d := s1'.out.drew
    have b2d := b1'.out.drew
    have B2d := B1'.out.drew
    clear sc bc bf
    have IS := Lib.hid (ris_calls h2d ⟨#[45]⟩ (by decide))
    rw [i1'.out] at IS
    have h2d' := Lib.hid h2d
    have s2d' := Lib.hid s2d
    have b2d' := Lib.hid b2d
    have B2d' := Lib.hid B2d
    clear h2d s2d b2d B2d
    refine wp_region_s (fun _ => True) [] [(true, 0), (false, 1), (true, 2), (true, 3), (true, 4), (true, 5), (true, 6), (true, 7), (true, 8), (true, 9), (true, 10), (true, 11), (true, 12), (true, 13), (true, 14), (true, 15), (true, 16), (true, 17), (true, 18), (true, 19), (true, 20), (true, 21), (true, 22), (true, 23), (true, 24), (true, 25), (true, 26), (true, 27), (true, 28), (true, 29), (true, 30), (true, 31), (true, 32), (true, 33)] (by kernel_rfl) (by kernel_rfl) (by kernel_rfl) (by kernel_rfl) (fun _ _ _ _ _ h => h) trivial ?_
    refine wpS_take (v := ?_) rfl (.inl ⟨by rfl, fun w' _ => ?_⟩) ?_
    rotate_left
    · go_simp; try with_reducible rfl
    simp only [Act.put, List.setIfInBounds_toArray, List.set_cons_zero, List.set_cons_succ]
    refine wpS_go rfl ?_
    go_wp2_with fail
    refine IS.out.mono ?_
    rintro e w3 ⟨rfl, hb3⟩
    go_wp2_with fail
    refine ⟨fun _ => trivial, ?_⟩
    refine wpS_take (v := ?_) rfl (.inl ⟨by rfl, fun w' _ => ?_⟩) ?_
    rotate_left
    · go_simp; try with_reducible rfl
    simp only [Act.put, List.setIfInBounds_toArray, List.set_cons_zero, List.set_cons_succ]
    refine wpS_take (v := undef) rfl (.inr ⟨by rfl, rfl⟩) ?_
    simp only [Act.put, List.setIfInBounds_toArray, List.set_cons_zero, List.set_cons_succ]
    refine wpS_take (v := undef) rfl (.inr ⟨by rfl, rfl⟩) ?_
    simp only [Act.put, List.setIfInBounds_toArray, List.set_cons_zero, List.set_cons_succ]
    refine wpS_take (v := undef) rfl (.inr ⟨by rfl, rfl⟩) ?_
    simp only [Act.put, List.setIfInBounds_toArray, List.set_cons_zero, List.set_cons_succ]
    refine wpS_take (v := undef) rfl (.inr ⟨by rfl, rfl⟩) ?_
    simp only [Act.put, List.setIfInBounds_toArray, List.set_cons_zero, List.set_cons_succ]
    refine wpS_take (v := undef) rfl (.inr ⟨by rfl, rfl⟩) ?_
    simp only [Act.put, List.setIfInBounds_toArray, List.set_cons_zero, List.set_cons_succ]
    refine wpS_take (v := undef) rfl (.inr ⟨by rfl, rfl⟩) ?_
    simp only [Act.put, List.setIfInBounds_toArray, List.set_cons_zero, List.set_cons_succ]
    refine wpS_take (v := undef) rfl (.inr ⟨by rfl, rfl⟩) ?_
    simp only [Act.put, List.setIfInBounds_toArray, List.set_cons_zero, List.set_cons_succ]
    refine wpS_take (v := undef) rfl (.inr ⟨by rfl, rfl⟩) ?_
    simp only [Act.put, List.setIfInBounds_toArray, List.set_cons_zero, List.set_cons_succ]
    refine wpS_take (v := undef) rfl (.inr ⟨by rfl, rfl⟩) ?_
    simp only [Act.put, List.setIfInBounds_toArray, List.set_cons_zero, List.set_cons_succ]
    refine wpS_take (v := undef) rfl (.inr ⟨by rfl, rfl⟩) ?_
    simp only [Act.put, List.setIfInBounds_toArray, List.set_cons_zero, List.set_cons_succ]
    refine wpS_take (v := undef) rfl (.inr ⟨by rfl, rfl⟩) ?_
    simp only [Act.put, List.setIfInBounds_toArray, List.set_cons_zero, List.set_cons_succ]
    refine wpS_take (v := undef) rfl (.inr ⟨by rfl, rfl⟩) ?_
    simp only [Act.put, List.setIfInBounds_toArray, List.set_cons_zero, List.set_cons_succ]
    refine wpS_take (v := ?_) rfl (.inl ⟨by rfl, fun w' _ => ?_⟩) ?_
    rotate_left
    · go_simp; try with_reducible rfl
    simp only [Act.put, List.setIfInBounds_toArray, List.set_cons_zero, List.set_cons_succ]
    refine wpS_take (v := ?_) rfl (.inl ⟨by rfl, fun w' _ => ?_⟩) ?_
    rotate_left
    · go_simp; try with_reducible rfl
    simp only [Act.put, List.setIfInBounds_toArray, List.set_cons_zero, List.set_cons_succ]
    refine wpS_take (v := undef) rfl (.inr ⟨by rfl, rfl⟩) ?_
    simp only [Act.put, List.setIfInBounds_toArray, List.set_cons_zero, List.set_cons_succ]
    refine wpS_take (v := undef) rfl (.inr ⟨by rfl, rfl⟩) ?_
    simp only [Act.put, List.setIfInBounds_toArray, List.set_cons_zero, List.set_cons_succ]
    refine wpS_take (v := undef) rfl (.inr ⟨by rfl, rfl⟩) ?_
    simp only [Act.put, List.setIfInBounds_toArray, List.set_cons_zero, List.set_cons_succ]
    refine wpS_take (v := undef) rfl (.inr ⟨by rfl, rfl⟩) ?_
    simp only [Act.put, List.setIfInBounds_toArray, List.set_cons_zero, List.set_cons_succ]
    refine wpS_take (v := undef) rfl (.inr ⟨by rfl, rfl⟩) ?_
    simp only [Act.put, List.setIfInBounds_toArray, List.set_cons_zero, List.set_cons_succ]
    refine wpS_take (v := undef) rfl (.inr ⟨by rfl, rfl⟩) ?_
    simp only [Act.put, List.setIfInBounds_toArray, List.set_cons_zero, List.set_cons_succ]
    refine wpS_take (v := undef) rfl (.inr ⟨by rfl, rfl⟩) ?_
    simp only [Act.put, List.setIfInBounds_toArray, List.set_cons_zero, List.set_cons_succ]
    refine wpS_take (v := undef) rfl (.inr ⟨by rfl, rfl⟩) ?_
    simp only [Act.put, List.setIfInBounds_toArray, List.set_cons_zero, List.set_cons_succ]
    refine wpS_take (v := undef) rfl (.inr ⟨by rfl, rfl⟩) ?_
    simp only [Act.put, List.setIfInBounds_toArray, List.set_cons_zero, List.set_cons_succ]
    refine wpS_take (v := undef) rfl (.inr ⟨by rfl, rfl⟩) ?_
    simp only [Act.put, List.setIfInBounds_toArray, List.set_cons_zero, List.set_cons_succ]
    refine wpS_take (v := undef) rfl (.inr ⟨by rfl, rfl⟩) ?_
    simp only [Act.put, List.setIfInBounds_toArray, List.set_cons_zero, List.set_cons_succ]
    refine wpS_take (v := undef) rfl (.inr ⟨by rfl, rfl⟩) ?_
    simp only [Act.put, List.setIfInBounds_toArray, List.set_cons_zero, List.set_cons_succ]
    refine wpS_take (v := undef) rfl (.inr ⟨by rfl, rfl⟩) ?_
    simp only [Act.put, List.setIfInBounds_toArray, List.set_cons_zero, List.set_cons_succ]
    refine wpS_take (v := undef) rfl (.inr ⟨by rfl, rfl⟩) ?_
    simp only [Act.put, List.setIfInBounds_toArray, List.set_cons_zero, List.set_cons_succ]
    refine wpS_take (v := undef) rfl (.inr ⟨by rfl, rfl⟩) ?_
    simp only [Act.put, List.setIfInBounds_toArray, List.set_cons_zero, List.set_cons_succ]
    refine wpS_take (v := undef) rfl (.inr ⟨by rfl, rfl⟩) ?_
    simp only [Act.put, List.setIfInBounds_toArray, List.set_cons_zero, List.set_cons_succ]
    refine wpS_take (v := ?_) rfl (.inl ⟨by rfl, fun w' _ => ?_⟩) ?_
    rotate_left
    · go_simp; try with_reducible rfl
    simp only [Act.put, List.setIfInBounds_toArray, List.set_cons_zero, List.set_cons_succ]
    refine wpS_end ?_
    have h3 := h2d'.out.later hb3
    have T1 := Lib.hid (rtake_no ⟨#[116, 114, 117, 101]⟩ ⟨p, rfl, h3⟩ (by decide) i2'.out)
    have s3 := s2d'.out.below hb3 s2d'.out.lt
    have b3 := b2d'.out.below hb3 b2d'.out.lt
    have B3 := B2d'.out.trans (hb3.mono B2d'.out.size)
    have h3' := Lib.hid h3
    have s3' := Lib.hid s3
    have b3' := Lib.hid b3
    have B3' := Lib.hid B3
    clear h3 s3 b3 B3 hb3 IS
    go_wp2_with fail
    refine T1.out.mono ?_
    rintro e w4 ⟨rfl, hb4⟩
    have h4 := h3'.out.later hb4
    have T2 := Lib.hid (rtake_no ⟨#[102, 97, 108, 115, 101]⟩ ⟨p, rfl, h4⟩ (by decide) i3'.out)
    have s4 := s3'.out.below hb4 s3'.out.lt
    have b4 := b3'.out.below hb4 b3'.out.lt
    have B4 := B3'.out.trans (hb4.mono B3'.out.size)
    have h4' := Lib.hid h4
    have s4' := Lib.hid s4
    have b4' := Lib.hid b4
    have B4' := Lib.hid B4
    clear h4 s4 b4 B4 hb4 T1
    go_wp2_with fail
    refine T2.out.mono ?_
    rintro e w5 ⟨rfl, hb5⟩
    have h5 := h4'.out.later hb5
    have I5 := ris_calls h5 ⟨#[40]⟩ (by decide)
    rw [i4'.out] at I5
    have I5' := Lib.hid I5
    have s5 := s4'.out.below hb5 s4'.out.lt
    have b5 := b4'.out.below hb5 b4'.out.lt
    have B5 := B4'.out.trans (hb5.mono B4'.out.size)
    have h5' := Lib.hid h5
    have s5' := Lib.hid s5
    have b5' := Lib.hid b5
    have B5' := Lib.hid B5
    clear h5 s5 b5 B5 hb5 T2 I5
    go_wp2_with fail
    refine I5'.out.mono ?_
    rintro e w6 ⟨rfl, hb6⟩
    have h6 := h5'.out.later hb6
    have s6 := s5'.out.below hb6 s5'.out.lt
    have b6 := b5'.out.below hb6 b5'.out.lt
    have B6 := B5'.out.trans (hb6.mono B5'.out.size)
    have h6' := Lib.hid h6
    have s6' := Lib.hid s6
    have b6' := Lib.hid b6
    have B6' := Lib.hid B6
    have sc := s6.cell
    clear h6 s6 b6 B6 hb6 I5'
    go_wp2_with fail
    refine (N.out w6).mono ?_
    rintro e w7 ⟨rfl, hb7⟩
    have h7 := h6'.out.later hb7
    have s7 := s6'.out.below hb7 s6'.out.lt
    have b7 := b6'.out.below hb7 b6'.out.lt
    have B7 := B6'.out.trans (hb7.mono B6'.out.size)
    obtain ⟨t7, y7, cap7, -, -, -, -, -, -, -, -, r7⟩ := h7.cells
    obtain ⟨hn, hk⟩ := h7.next ht2.out hs2'.out
    have b8 := b7.keeps hk (Nat.ne_of_gt lg)
    have hn' := Lib.hid hn
    have hk' := Lib.hid hk
    have b8' := Lib.hid b8
    have B7' := Lib.hid B7
    have sg : g ≠ w0.heap.size := Nat.ne_of_lt lg0
    have sc := s7.cell
    have bc := r7.cell
    have bf := r7.frozen
    have b2c := b7.cell
    have b2f := b7.frozen
    have neB : g ≠ B := Nat.ne_of_lt lg
    have neB2 : B ≠ g := Nat.ne_of_gt lg
    have sg2 : w0.heap.size ≠ g := Nat.ne_of_gt lg0
    clear h7 s7 b7 B7 hn hk b8 hb7 r7 N
    go_wp2_with fail
    obtain ⟨W, eW, hBW, hRW, hKW⟩ := rput_cond rfl b8'.out ⟨p + 1, rfl, hn'.out⟩ (Nat.ne_of_lt lg) (Nat.ne_of_lt lgs) (.int .i64 5) (.int .i64 0) (.string y') (.slice none 0 0)
    rw [eW]
    have c5 := hBW.cell
    refine bodyPost_ret (v := .agg #[.int .i64 5, .int .i64 0, .string y', .slice none 0 0]) (by simp [results, Tryz.results131, go_sem, c5]) rfl ?_
    rw [hlf.out]
    have cl := CAt.leaf (fun j => w.heap.size ≤ j) W 5 0 y'.data.toList
    rw [strV_same] at cl
    exact ⟨_, rfl, cl, hRW, (((Keeps.of_below' (S := fun j => j = g ∨ B ≤ j) B7'.out (fun k h1 _ => .inr (by omega))).step hk'.out (fun k e => .inl (.inl e))).step hKW (fun k e => .inl (.inr (by omega)))).mono fun k hk hs => by rcases hs with h | h <;> omega⟩
end Go.Proofs.YtdfgbkilaepolaaGreatDoor
namespace Go.Proofs.YtdfgbkilaepolaaGreatDoor
open Go.RowKit
/-- what stands at the head of a round of products -/
def TimesG (U : Toks → Res) (w : World) (g gs A : Nat) (L : Toks) (c : CT) (r : Toks) (k : Nat) (wr : World) : Prop :=
  ∃ a m, Var w A wr a ∧ RgL wr g gs L m ∧ Keeps (fun j => j = g) w wr ∧ Blk wr w.heap.size 28 condZ ∧ m.length ≤ k ∧ ∃ n, m.length < n ∧ timesL U n a m = .ok (c, r)
/-- what is left gets shorter -/
def Less (U : Toks → Res) : Prop := ∀ l c r, U l = .ok (c, r) → r.length ≤ l.length
set_option maxHeartbeats 4000000 in
set_option maxRecDepth 100000 in
theorem rtimes_calls (U : Toks → Res) (g gs : Nat) (L : Toks) (hU : SaidG 131 U g gs L) (hl : Less U) : SaidG 105 (gTimes U) g gs L := by
  intro w l c r h hT
  have hgl := h.lt
  have hsl := h.slt
  have hne := h.ne
  have hB := Lib.hid (Blk.new w 28 condZ)
  have hz0 := alloc_size w (.cells condZ 28)
  have h1 := Lib.hid (h.later ((Below.refl w.heap.size w).alloc (Nat.le_refl _) (.cells condZ 28)))
  have k1 := Lib.hid ((Keeps.refl (fun j => j = g) w).alloc (.cells condZ 28))
  have hz0' := Lib.hid hz0
  obtain ⟨a0, m0, hU0, hT0⟩ : ∃ a m, U l = .ok (a, m) ∧ timesL U (m.length + 1) a m = .ok (c, r) := by
    have hT : (match U l with | .error e => .error e | .ok (a, m) => timesL U (m.length + 1) a m : Res) = .ok (c, r) := hT
    cases hu : U l with
    | error e => rw [hu] at hT; cases hT
    | ok am => rw [hu] at hT; exact ⟨am.1, am.2, rfl, hT⟩
  have D0 := Lib.hid (hU _ l a0 m0 h1.out hU0)
  have hU' := Lib.hid hU
  have hT0' := Lib.hid hT0
  have hl' := Lib.hid hl
  clear hU h hz0 hT hT0 hU0 h1 hl
  go_enter Tryz.func105, Tryz.ntmps105
  go_wp2_with fail
  refine D0.out.mono ?_
  rintro e w2 ⟨cs, rfl, hC, hR2, k2⟩
  have hB2 := Lib.hid (hB.out.keeps k2 (Nat.ne_of_gt hgl))
  have hK2 := Lib.hid (k1.out.trans k2)
  have hC2 := Lib.hid (hC.mono (Q := fun j => w.heap.size < j) fun j hj _ => by rw [hz0'.out] at hj; exact hj)
  have hR2' := Lib.hid hR2
  clear hC k2 hR2 D0
  obtain ⟨Q, pp, nn, cc, rfl⟩ := hC2.out.open_
  have hA : w.heap.size < w2.heap.size := hB2.out.lt
  have hV := Lib.hid (Var.new hC2.out hA)
  have hR3 := Lib.hid (hR2'.out.later ((Below.refl w2.heap.size w2).alloc (Nat.le_refl _) (.cells #[.int .i64 a0.kind, .int .i64 a0.num, .string Q, .slice pp nn cc] 28)))
  have hB3 := Lib.hid (hB2.out.alloc (.cells #[.int .i64 a0.kind, .int .i64 a0.num, .string Q, .slice pp nn cc] 28))
  have hK3 := Lib.hid (hK2.out.alloc (.cells #[.int .i64 a0.kind, .int .i64 a0.num, .string Q, .slice pp nn cc] 28))
  obtain ⟨w3, e3⟩ : ∃ w3, w2.alloc (.cells #[.int .i64 a0.kind, .int .i64 a0.num, .string Q, .slice pp nn cc] 28) = w3 := ⟨_, rfl⟩
  obtain ⟨A, eA⟩ : ∃ A, w2.heap.size = A := ⟨_, rfl⟩
  have hA2 : w.heap.size < A := by omega
  have hV : Hid (Var w A w3 a0) := by
    rw [← e3, ← eA]; exact hV
  rw [e3] at hR3 hB3 hK3
  clear hB2 hK2 hC2 hR2' hB k1 hA
  go_wp2_with fail
  clear e3 eA
  go_loopg [6] (m0.length) (fun k _ wr => TimesG U w g gs A L c r k wr)
  case atStart => exact ⟨a0, m0, hV.out, hR3.out, hK3.out, hB3.out, Nat.le_refl _, _, Nat.lt_succ_self _, hT0'.out⟩
  case round =>
    clear hT0' hV hR3 hB3 hK3
    obtain ⟨a, m, hV, hR, hK, hB, hk, n, hn, hG⟩ := hrel
    obtain ⟨Q, pp, nn, cc, hV1, hV2⟩ := hV.open_
    have hV' := Lib.hid hV
    have hR' := Lib.hid hR
    have hK' := Lib.hid hK
    have hB' := Lib.hid hB
    have hV2' := Lib.hid hV2
    have hV1' := Lib.hid hV1
    have a0 := Blk.cell hV1
    have af := Blk.frozen hV1
    have b0 := Blk.cell hB
    have bf := Blk.frozen hB
    unfold condZ at b0
    have hG' := Lib.hid hG
    clear hV hR hK hV1 hV2 hB hG
    by_cases ht : isT m [42] = true
    · have D := Lib.hid (rtake_yes ⟨#[42]⟩ hR'.out (by decide) ht)
      have hm3 := isT_len ht
      obtain ⟨n, rfl⟩ : ∃ k, n = k + 1 := ⟨n - 1, by omega⟩
      obtain ⟨b, m', hU1, hG1⟩ : ∃ b m', U m.tail = .ok (b, m') ∧ timesL U n (pairC 14 a b) m' = .ok (c, r) := by
        have hG2 := hG'.out
        rw [timesL_yes ht] at hG2
        cases hu : U m.tail with
        | error e => rw [hu] at hG2; cases hG2
        | ok am => rw [hu] at hG2; exact ⟨am.1, am.2, rfl, hG2⟩
      have hm1 := hl'.out _ _ _ hU1
      have hU1' := Lib.hid hU1
      have hG1' := Lib.hid hG1
      clear hG' ht hU1 hG1
      go_wp2_with fail
      refine D.out.mono ?_
      rintro e w5 ⟨rfl, hR5, k5⟩
      have hV5 := Lib.hid (hV2'.out.keeps k5 fun j hj _ e => by omega)
      have hA5 := hV1'.out.keeps k5 (by omega)
      have a5 := Blk.cell hA5
      have af5 := Blk.frozen hA5
      have hK5 := Lib.hid (hK'.out.trans k5)
      have hB5 := Lib.hid (hB'.out.keeps k5 (Nat.ne_of_gt hgl))
      have hR5' := Lib.hid hR5
      clear a0 af b0 bf D hR5 k5
      have hR6 : Hid (RgL w5.drew g gs L m.tail) := Lib.hid (hR5'.out.later (Below.refl _ w5).drew)
      have hA6 := Lib.hid hA5.drew
      have hV6 := Lib.hid (hV5.out.keeps (S := fun _ => False) ((Keeps.refl _ w5).drew) fun _ _ _ => id)
      have hB6 := Lib.hid hB5.out.drew
      have hK6 := Lib.hid hK5.out.drew
      have D7 := Lib.hid (hU'.out _ m.tail b m' hR6.out hU1'.out)
      clear hR5' hA5 hV5 hB5 hK5
      go_wp2_with fail
      go_region_with (first | ((go_at_call 131); (with_reducible refine D7.out.mono ?_); (rintro e w7 ⟨cs, rfl, hC, hR7, k7⟩); (obtain ⟨Q2, p2, n2, c2, rfl⟩ := hC.open_); (have hA7 := hA6.out.keeps k7 (by omega)); (have hV7 := Lib.hid (hV6.out.keeps k7 fun j hj _ e => by omega)); (have hB7 := Lib.hid (hB6.out.keeps k7 (Nat.ne_of_gt hgl))); (have hK7 := Lib.hid (hK6.out.trans k7)); (have hC7 := Lib.hid (hC.mono (Q := fun j => w.heap.size < j ∧ j ≠ A) fun j hj _ => ⟨by have := hA6.out.lt; omega, by have := hA6.out.lt; omega⟩)); (have hR7' := Lib.hid hR7); (have a7 := Blk.cell hA7); (have af7 := Blk.frozen hA7); (clear hC hR7 k7)) | ((go_at_call 90); (with_reducible refine (rtwo_calls (fun j => w.heap.size < j ∧ j ≠ A) 14 a b _ _ w7 hV7.out hC7.out).mono ?_); (rintro e w8 ⟨cs8, rfl, hC8, hb8⟩); (obtain ⟨Q8, p8, n8, c8, rfl⟩ := hC8.open_); (have hA8 := hA7.below hb8 hA7.lt); (have a8 := Blk.cell hA8); (have af8 := Blk.frozen hA8)))
      all_goals
        have hA7l := hA7.lt
        have k8 := Keeps.of_below (S := fun _ => False) hb8
        obtain ⟨W, eW, hBW, hRW, hKW⟩ := rput_cond rfl hA8 (hR7'.out.later hb8) (Nat.ne_of_lt (by omega)) (Nat.ne_of_lt (by omega)) (.int .i64 (pairC 14 a b).kind) (.int .i64 (pairC 14 a b).num) (.string Q8) (.slice p8 n8 c8)
        have hVW : Hid (Var w A W (pairC 14 a b)) := Lib.hid ⟨⟨_, hBW, (hC8.mono (Q := fun j => w.heap.size < j ∧ j ≠ A) fun j hj _ => by rcases hj with h | h <;> omega).keeps hKW fun j hj _ e => hj.2 e⟩, hA2⟩
        have hBW2 := Lib.hid ((hB7.out.keeps k8 id).keeps hKW (by omega))
        have hKW2 := Lib.hid ((hK7.out.step k8 fun _ e => e.elim).step hKW (fun j e => .inr (by omega)))
        have hRW' := Lib.hid hRW
        rw [eW]
        clear hKW hBW eW hC8 hb8 hA8 a8 af8 hRW a7 af7 hA7 k8
        go_wp2_with fail
        go_roundg (m'.length)
        case measure => omega
        case rel => exact ⟨pairC 14 a b, m', hVW.out, hRW'.out, hKW2.out, hBW2.out, Nat.le_refl _, n, by omega, hG1'.out⟩
    · have ht : isT m [42] = false := by simpa using ht
      have D := Lib.hid (rtake_no ⟨#[42]⟩ hR'.out (by decide) ht)
      have hG2 := hG'.out
      rw [timesL_no hn ht] at hG2
      injection hG2 with hG2
      injection hG2 with hG3 hG4
      subst hG3 hG4
      clear ht hG'
      go_wp2_with fail
      refine D.out.mono ?_
      rintro e w5 ⟨rfl, hb5⟩
      have hR5 := Lib.hid (hR'.out.later hb5)
      have hV5 := Lib.hid (hV2'.out.later hb5)
      have hA5 := hV1'.out.below hb5 hV1'.out.lt
      have hB5 := hB'.out.below hb5 hB'.out.lt
      have hK5 := Lib.hid (hK'.out.step (Keeps.of_below (S := fun _ => False) hb5) fun _ e => e.elim)
      have a5 := Blk.cell hA5
      have b5 := Blk.cell hB5
      have f5 := Blk.frozen hB5
      have hB5' := Lib.hid hB5
      unfold condZ at b5
      clear D hb5 a0 af b0 bf hA5 hB5
      go_wp2_with fail
      obtain ⟨W, eW, hBW, hRW, hKW⟩ := rput_cond rfl hB5'.out hR5.out (Nat.ne_of_lt hgl) (Nat.ne_of_lt hsl) (.int .i64 a.kind) (.int .i64 a.num) (.string Q) (.slice pp nn cc)
      rw [eW]
      have c5 := hBW.cell
      refine bodyPost_ret (v := .agg #[.int .i64 a.kind, .int .i64 a.num, .string Q, .slice pp nn cc]) (by simp [results, Tryz.results105, go_sem, c5]) rfl ?_
      exact ⟨_, rfl, (hV5.out.keeps hKW fun j hj _ e => by omega).mono fun j hj _ => Nat.le_of_lt hj.1, hRW, hK5.out.step hKW (fun j e => .inr (by omega))⟩
end Go.Proofs.YtdfgbkilaepolaaGreatDoor
namespace Go.Proofs.YtdfgbkilaepolaaGreatDoor
open Go.RowKit
/-- what stands at the head of a round of sums -/
def SumI (U : Toks → Res) (w : World) (g A : Nat) (s : ByteArray) (l : Toks) (deep : Int) (k : Nat) (wr : World) : Prop :=
  ∃ a m d b, Var w A wr a ∧ Rd wr g s m d b ∧ Keeps (fun j => j = g) w wr ∧ Blk wr w.heap.size 28 condZ ∧ m.length ≤ k ∧ m.length ≤ l.length ∧ a.parts.length + m.length ≤ l.length + 1 ∧
    ((b = false ∧ d = deep ∧ ∃ n, m.length < n ∧ sumL U n a m = gSum U l) ∨ (b = true ∧ gSum U l = .error (posT m)))
theorem sumL_no {U : Toks → Res} {n : Nat} {a : CT} {m : Toks} (hn : m.length < n) (h : isT m [43] = false) (h2 : isT m [45] = false) : sumL U n a m = .ok (a, m) := by
  obtain ⟨n, rfl⟩ : ∃ k, n = k + 1 := ⟨n - 1, by omega⟩
  unfold sumL
  rw [if_neg (by rw [h]; decide), if_neg (by rw [h2]; decide)]
theorem sumL_plus {U : Toks → Res} {n : Nat} {a : CT} {m : Toks} (h : isT m [43] = true) : sumL U (n + 1) a m = match U m.tail with
      | .error e => .error e
      | .ok (b, m) => sumL U n (pairC 12 a b) m := by
  conv => lhs; unfold sumL
  rw [if_pos h]
  cases U m.tail <;> rfl
theorem sumL_minus {U : Toks → Res} {n : Nat} {a : CT} {m : Toks} (h : isT m [43] = false) (h2 : isT m [45] = true) : sumL U (n + 1) a m = match U m.tail with
      | .error e => .error e
      | .ok (b, m) => sumL U n (pairC 13 a b) m := by
  conv => lhs; unfold sumL
  rw [if_neg (by rw [h]; decide), if_pos h2]
  cases U m.tail <;> rfl
set_option maxHeartbeats 4000000 in
set_option maxRecDepth 100000 in
theorem sum_calls {w : World} {g : Nat} {s : ByteArray} {l : Toks} {deep : Int} (U : Toks → Res) (h : Rd w g s l deep false)
    (hU : ∀ m w, Rd w g s m deep false → Calls Tryz.prog 167 #[.pointer (some ⟨g, 0, none⟩)] w (Told U w g s m deep)) :
    Calls Tryz.prog 161 #[.pointer (some ⟨g, 0, none⟩)] w (Told (gSum U) w g s l deep) := by
  have hgl := h.lt
  have h5 := h.b5
  have hB := Lib.hid (Blk.new w 28 condZ)
  have hz0 := alloc_size w (.cells condZ 28)
  have h1 := Lib.hid (h.alloc (.cells condZ 28))
  have k1 := Lib.hid ((Keeps.refl (fun j => j = g) w).alloc (.cells condZ 28))
  have hU' := Lib.hid hU
  have hz0' := Lib.hid hz0
  clear hU h hz0
  go_enter Tryz.func161, Tryz.ntmps161
  go_wp2_with fail
  refine (hU'.out l _ h1.out).mono ?_
  rintro e w2 ⟨cs, c, m, d, b, rfl, hC, hR2, k2, hm1, hm2, hcase⟩
  have hB2 := Lib.hid (hB.out.keeps k2 (Nat.ne_of_gt hgl))
  have hK2 := Lib.hid (k1.out.trans k2)
  have hC2 := Lib.hid (hC.mono (Q := fun j => w.heap.size < j) fun j hj _ => by rw [hz0'.out] at hj; exact hj)
  have hR2' := Lib.hid hR2
  have hcase' := Lib.hid hcase
  clear hC k2 hR2 hcase
  obtain ⟨Q, pp, nn, cc, rfl⟩ := hC2.out.open_
  have hA : w.heap.size < w2.heap.size := hB2.out.lt
  have hV := Lib.hid (Var.new hC2.out hA)
  have hR3 := Lib.hid (hR2'.out.alloc (.cells #[.int .i64 c.kind, .int .i64 c.num, .string Q, .slice pp nn cc] 28))
  have hB3 := Lib.hid (hB2.out.alloc (.cells #[.int .i64 c.kind, .int .i64 c.num, .string Q, .slice pp nn cc] 28))
  have hK3 := Lib.hid (hK2.out.alloc (.cells #[.int .i64 c.kind, .int .i64 c.num, .string Q, .slice pp nn cc] 28))
  obtain ⟨w3, e3⟩ : ∃ w3, w2.alloc (.cells #[.int .i64 c.kind, .int .i64 c.num, .string Q, .slice pp nn cc] 28) = w3 := ⟨_, rfl⟩
  obtain ⟨A, eA⟩ : ∃ A, w2.heap.size = A := ⟨_, rfl⟩
  have hA2 : w.heap.size < A := by omega
  have hV : Hid (Var w A w3 c) := by
    rw [← e3, ← eA]; exact hV
  rw [e3] at hR3 hB3 hK3
  clear hB2 hK2 hC2 hR2' hB h1 k1 hA
  go_wp2_with fail
  clear e3 eA
  go_loopg [6] (m.length) (fun k _ wr => SumI U w g A s l deep k wr)
  case atStart =>
    refine ⟨c, m, d, b, hV.out, hR3.out, hK3.out, hB3.out, Nat.le_refl _, hm1, hm2, ?_⟩
    rcases hcase'.out with ⟨h1, h2, h3⟩ | ⟨h1, h2⟩
    · refine .inl ⟨h1, h2, m.length + 1, Nat.lt_succ_self _, ?_⟩
      show _ = (match U l with | .error e => _ | .ok (a, m) => _)
      rw [h3]
    · refine .inr ⟨h1, ?_⟩
      show (match U l with | .error e => _ | .ok (a, m) => _) = _
      rw [h2]
  case round =>
    clear hm1 hm2 hcase' hV hR3 hB3 hK3
    obtain ⟨a, m, d, b, hV, hR, hK, hB, hk, hml, hmp, hcase⟩ := hrel
    obtain ⟨Q, pp, nn, cc, hV1, hV2⟩ := hV.open_
    have hV' := Lib.hid hV
    have hR' := Lib.hid hR
    have hK' := Lib.hid hK
    have hB' := Lib.hid hB
    have hV2' := Lib.hid hV2
    have hV1' := Lib.hid hV1
    have a0 := Blk.cell hV1
    have af := Blk.frozen hV1
    have b0 := Blk.cell hB
    have bf := Blk.frozen hB
    unfold condZ at b0
    clear hV hR hK hV1 hV2 hB
    by_cases ht : b = false ∧ isT m [43] = true
    · obtain ⟨rfl, ht⟩ := ht
      obtain ⟨rfl, n, hn, hG⟩ : d = deep ∧ ∃ n, m.length < n ∧ sumL U n a m = gSum U l := by
        rcases hcase with ⟨_, e, h⟩ | ⟨e, _⟩
        · exact ⟨e, h⟩
        · cases e
      have hG' := Lib.hid hG
      have D := Lib.hid (take_yes ⟨#[43]⟩ hR'.out ht)
      have ht' := Lib.hid ht
      clear hG hcase ht
      go_wp2_with fail
      refine D.out.mono ?_
      rintro e w5 ⟨rfl, hR5, k5⟩
      have hV5 := Lib.hid (hV2'.out.keeps k5 fun j hj _ e => by omega)
      have hA5 := hV1'.out.keeps k5 (by omega)
      have a5 := Blk.cell hA5
      have af5 := Blk.frozen hA5
      have hK5 := Lib.hid (hK'.out.trans k5)
      have hB5 := Lib.hid (hB'.out.keeps k5 (Nat.ne_of_gt hgl))
      have hR5' := Lib.hid hR5
      clear a0 af b0 bf D hR5 k5
      have hR6 : Hid (Rd w5.drew g s m.tail d false) := Lib.hid (hR5'.out.same ((Keeps.refl _ w5).drew))
      have hA6 := Lib.hid hA5.drew
      have hV6 := Lib.hid (hV5.out.keeps (S := fun _ => False) ((Keeps.refl _ w5).drew) fun _ _ _ => id)
      have hB6 := Lib.hid hB5.out.drew
      have hK6 := Lib.hid hK5.out.drew
      clear hR5' hA5 hV5 hB5 hK5
      go_wp2_with fail
      go_region_with (first | ((go_at_call 167); (with_reducible refine (hU'.out m.tail _ hR6.out).mono ?_); (rintro e w7 ⟨cs, c7, m', d', b', rfl, hC, hR7, k7, hm1, hm2, hcase⟩); (obtain ⟨Q2, p2, n2, c2, rfl⟩ := hC.open_); (have hA7 := hA6.out.keeps k7 (by omega)); (have hV7 := Lib.hid (hV6.out.keeps k7 fun j hj _ e => by omega)); (have hB7 := Lib.hid (hB6.out.keeps k7 (Nat.ne_of_gt hgl))); (have hK7 := Lib.hid (hK6.out.trans k7)); (have hC7 := Lib.hid (hC.mono (Q := fun j => w.heap.size < j ∧ j ≠ A) fun j hj _ => ⟨by have := hA6.out.lt; omega, by have := hA6.out.lt; omega⟩)); (have hR7' := Lib.hid hR7); (have hcase' := Lib.hid hcase); (have a7 := Blk.cell hA7); (have af7 := Blk.frozen hA7); (clear hC hR7 k7 hcase)) | ((go_at_call 162); (with_reducible refine (pair_calls (fun j => w.heap.size < j ∧ j ≠ A) 12 a c7 _ _ w7 hV7.out hC7.out).mono ?_); (rintro e w8 ⟨cs8, rfl, hC8, hb8⟩); (obtain ⟨Q8, p8, n8, c8, rfl⟩ := hC8.open_); (have hA8 := hA7.below hb8 hA7.lt); (have a8 := Blk.cell hA8); (have af8 := Blk.frozen hA8)))
      all_goals
        have hA7l := hA7.lt
        have k8 := Keeps.of_below (S := fun _ => False) hb8
        have hm3 := isT_len ht'.out
        obtain ⟨W, eW, hBW, hRW, hKW⟩ := put_cond rfl hA8 (hR7'.out.same k8) (Nat.ne_of_lt (by omega)) (Nat.ne_of_lt (by omega)) (.int .i64 (pairC 12 a c7).kind) (.int .i64 (pairC 12 a c7).num) (.string Q8) (.slice p8 n8 c8)
        have hVW : Hid (Var w A W (pairC 12 a c7)) := Lib.hid ⟨⟨_, hBW, (hC8.mono (Q := fun j => w.heap.size < j ∧ j ≠ A) fun j hj _ => by rcases hj with h | h <;> omega).keeps hKW fun j hj _ e => hj.2 e⟩, hA2⟩
        have hBW2 := Lib.hid ((hB7.out.keeps k8 id).keeps hKW (by omega))
        have hKW2 := Lib.hid ((hK7.out.step k8 fun _ e => e.elim).step hKW (fun j e => .inr (by omega)))
        have hRW' := Lib.hid hRW
        rw [eW]
        clear hKW hBW eW hC8 hb8 hA8 a8 af8 hRW a7 af7 hA7 k8
        go_wp2_with fail
        go_roundg (m'.length)
        case measure => omega
        case rel =>
          refine ⟨pairC 12 a c7, m', d', b', hVW.out, hRW'.out, hKW2.out, hBW2.out, Nat.le_refl _, by omega, ?_, ?_⟩
          · show 2 + m'.length ≤ _
            omega
          · obtain ⟨n, rfl⟩ : ∃ k, n = k + 1 := ⟨n - 1, by omega⟩
            have hG2 := hG'.out
            rw [sumL_plus ht'.out] at hG2
            rcases hcase'.out with ⟨h1, h2, h3⟩ | ⟨h1, h2⟩
            · rw [h3] at hG2
              exact .inl ⟨h1, h2, n, by omega, hG2⟩
            · rw [h2] at hG2
              exact .inr ⟨h1, hG2.symm⟩
    · have D := Lib.hid (take_no (bad := b) ⟨#[43]⟩ hR'.out (by
        cases b with
        | true => exact .inl rfl
        | false => exact .inr (Bool.eq_false_iff.2 fun e => ht ⟨rfl, e⟩)))
      have hp : Hid (b = false → isT m [43] = false) := Lib.hid fun e => Bool.eq_false_iff.2 fun e2 => ht ⟨e, e2⟩
      clear ht
      go_wp2_with fail
      refine D.out.mono ?_
      rintro e w' ⟨rfl, rfl⟩
      clear D
      by_cases ht : b = false ∧ isT m [45] = true
      · obtain ⟨rfl, ht⟩ := ht
        obtain ⟨rfl, n, hn, hG⟩ : d = deep ∧ ∃ n, m.length < n ∧ sumL U n a m = gSum U l := by
          rcases hcase with ⟨_, e, h⟩ | ⟨e, _⟩
          · exact ⟨e, h⟩
          · cases e
        have hG' := Lib.hid hG
        have D := Lib.hid (take_yes ⟨#[45]⟩ hR'.out ht)
        have ht' := Lib.hid ht
        clear hG hcase ht
        go_wp2_with fail
        refine D.out.mono ?_
        rintro e w5 ⟨rfl, hR5, k5⟩
        have hV5 := Lib.hid (hV2'.out.keeps k5 fun j hj _ e => by omega)
        have hA5 := hV1'.out.keeps k5 (by omega)
        have a5 := Blk.cell hA5
        have af5 := Blk.frozen hA5
        have hK5 := Lib.hid (hK'.out.trans k5)
        have hB5 := Lib.hid (hB'.out.keeps k5 (Nat.ne_of_gt hgl))
        have hR5' := Lib.hid hR5
        clear a0 af b0 bf D hR5 k5
        have hR6 : Hid (Rd w5.drew g s m.tail d false) := Lib.hid (hR5'.out.same ((Keeps.refl _ w5).drew))
        have hA6 := Lib.hid hA5.drew
        have hV6 := Lib.hid (hV5.out.keeps (S := fun _ => False) ((Keeps.refl _ w5).drew) fun _ _ _ => id)
        have hB6 := Lib.hid hB5.out.drew
        have hK6 := Lib.hid hK5.out.drew
        clear hR5' hA5 hV5 hB5 hK5
        go_wp2_with fail
        go_region_with (first | ((go_at_call 167); (with_reducible refine (hU'.out m.tail _ hR6.out).mono ?_); (rintro e w7 ⟨cs, c7, m', d', b', rfl, hC, hR7, k7, hm1, hm2, hcase⟩); (obtain ⟨Q2, p2, n2, c2, rfl⟩ := hC.open_); (have hA7 := hA6.out.keeps k7 (by omega)); (have hV7 := Lib.hid (hV6.out.keeps k7 fun j hj _ e => by omega)); (have hB7 := Lib.hid (hB6.out.keeps k7 (Nat.ne_of_gt hgl))); (have hK7 := Lib.hid (hK6.out.trans k7)); (have hC7 := Lib.hid (hC.mono (Q := fun j => w.heap.size < j ∧ j ≠ A) fun j hj _ => ⟨by have := hA6.out.lt; omega, by have := hA6.out.lt; omega⟩)); (have hR7' := Lib.hid hR7); (have hcase' := Lib.hid hcase); (have a7 := Blk.cell hA7); (have af7 := Blk.frozen hA7); (clear hC hR7 k7 hcase)) | ((go_at_call 162); (with_reducible refine (pair_calls (fun j => w.heap.size < j ∧ j ≠ A) 13 a c7 _ _ w7 hV7.out hC7.out).mono ?_); (rintro e w8 ⟨cs8, rfl, hC8, hb8⟩); (obtain ⟨Q8, p8, n8, c8, rfl⟩ := hC8.open_); (have hA8 := hA7.below hb8 hA7.lt); (have a8 := Blk.cell hA8); (have af8 := Blk.frozen hA8)))
        all_goals
          have hA7l := hA7.lt
          have k8 := Keeps.of_below (S := fun _ => False) hb8
          have hm3 := isT_len ht'.out
          obtain ⟨W, eW, hBW, hRW, hKW⟩ := put_cond rfl hA8 (hR7'.out.same k8) (Nat.ne_of_lt (by omega)) (Nat.ne_of_lt (by omega)) (.int .i64 (pairC 13 a c7).kind) (.int .i64 (pairC 13 a c7).num) (.string Q8) (.slice p8 n8 c8)
          have hVW : Hid (Var w A W (pairC 13 a c7)) := Lib.hid ⟨⟨_, hBW, (hC8.mono (Q := fun j => w.heap.size < j ∧ j ≠ A) fun j hj _ => by rcases hj with h | h <;> omega).keeps hKW fun j hj _ e => hj.2 e⟩, hA2⟩
          have hBW2 := Lib.hid ((hB7.out.keeps k8 id).keeps hKW (by omega))
          have hKW2 := Lib.hid ((hK7.out.step k8 fun _ e => e.elim).step hKW (fun j e => .inr (by omega)))
          have hRW' := Lib.hid hRW
          rw [eW]
          clear hKW hBW eW hC8 hb8 hA8 a8 af8 hRW a7 af7 hA7 k8
          go_wp2_with fail
          go_roundg (m'.length)
          case measure => omega
          case rel =>
            refine ⟨pairC 13 a c7, m', d', b', hVW.out, hRW'.out, hKW2.out, hBW2.out, Nat.le_refl _, by omega, ?_, ?_⟩
            · show 2 + m'.length ≤ _
              omega
            · obtain ⟨n, rfl⟩ : ∃ k, n = k + 1 := ⟨n - 1, by omega⟩
              have hG2 := hG'.out
              rw [sumL_minus (hp.out (by first | trivial | rfl)) ht'.out] at hG2
              rcases hcase'.out with ⟨h1, h2, h3⟩ | ⟨h1, h2⟩
              · rw [h3] at hG2
                exact .inl ⟨h1, h2, n, by omega, hG2⟩
              · rw [h2] at hG2
                exact .inr ⟨h1, hG2.symm⟩
      · have D := Lib.hid (take_no (bad := b) ⟨#[45]⟩ hR'.out (by
          cases b with
          | true => exact .inl rfl
          | false => exact .inr (Bool.eq_false_iff.2 fun e => ht ⟨rfl, e⟩)))
        have hcase' := Lib.hid hcase
        have ht' := Lib.hid ht
        clear hcase ht
        go_wp2_with fail
        refine D.out.mono ?_
        rintro e w' ⟨rfl, rfl⟩
        go_wp2_with fail
        obtain ⟨W, eW, hBW, hRW, hKW⟩ := put_cond rfl hB'.out hR'.out (Nat.ne_of_lt hgl) (Nat.ne_of_lt h5) (.int .i64 a.kind) (.int .i64 a.num) (.string Q) (.slice pp nn cc)
        rw [eW]
        have c5 := hBW.cell
        refine bodyPost_ret (v := .agg #[.int .i64 a.kind, .int .i64 a.num, .string Q, .slice pp nn cc]) (by simp [results, Tryz.results161, go_sem, c5]) rfl ?_
        refine ⟨_, a, m, d, b, rfl, (hV2'.out.keeps hKW fun j hj _ e => by omega).mono fun j hj _ => Nat.le_of_lt hj.1, hRW, hK'.out.step hKW (fun j e => .inr (by omega)), hml, hmp, ?_⟩
        rcases hcase'.out with ⟨h1, h2, n, hn, hG⟩ | h
        · refine .inl ⟨h1, h2, ?_⟩
          rw [← hG]
          exact sumL_no hn (hp.out h1) (Bool.eq_false_iff.2 fun e => ht'.out ⟨h1, e⟩)
        · exact .inr h
end Go.Proofs.YtdfgbkilaepolaaGreatDoor
