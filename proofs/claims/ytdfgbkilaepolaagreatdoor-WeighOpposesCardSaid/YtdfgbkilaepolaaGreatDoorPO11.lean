/- Walk: conditions: not. Walk: conditions: a part is put behind the others. Walk: conditions: a row of parts with a word between. Walks: conditions: all, cond; the whole of a condition. Conditions as trees that are only read: their rows may lie anywhere. -/
import Derived.Test.YtdfgbkilaepolaaGreatDoorPO10
namespace Go.Proofs.YtdfgbkilaepolaaGreatDoor
open Go.RowKit
theorem gNo_yes {H : Toks → Res} {n : Nat} {l : Toks} (h : isT l notL = true) : gNo H (n + 1) l = match gNo H n l.tail with
      | .error e => .error e
      | .ok (c, m) => .ok (notC c, m) := by
  conv => lhs; unfold gNo
  rw [if_pos h]
  cases gNo H n l.tail <;> rfl
theorem gNo_no {H : Toks → Res} {n : Nat} {l : Toks} (h : isT l notL = false) : gNo H n l = H l := by
  cases n with
  | zero => rfl
  | succ n =>
    conv => lhs; unfold gNo
    rw [if_neg (by rw [h]; decide)]
set_option maxHeartbeats 2000000 in
theorem no_calls {g : Nat} {s : ByteArray} {deep : Int} (H : Toks → Res)
    (hH : ∀ m w, Rd w g s m deep false → Calls Tryz.prog 153 #[.pointer (some ⟨g, 0, none⟩)] w (Told H w g s m deep)) :
    ∀ (n : Nat) (l : Toks) (w : World), l.length = n → Rd w g s l deep false → Calls Tryz.prog 136 #[.pointer (some ⟨g, 0, none⟩)] w (Told (gNo H n) w g s l deep) := by
  intro n
  induction n with
  | zero =>
    intro l w hl h
    obtain ⟨t, r, rfl⟩ := h.ex
    cases hl
  | succ n ih =>
    intro l w hl h
    have hgl := h.lt
    have h5 := h.b5
    have hB := Lib.hid (Blk.new w 28 condZ)
    have hz0' := Lib.hid (alloc_size w (.cells condZ 28))
    have h1 := Lib.hid (h.alloc (.cells condZ 28))
    have k1 := Lib.hid ((Keeps.refl (fun j => j = g) w).alloc (.cells condZ 28))
    have ih' := Lib.hid ih
    have hH' := Lib.hid hH
    have hl' := Lib.hid hl
    clear ih hH h hl
    obtain ⟨w1, e1⟩ : ∃ w1, w.alloc (.cells condZ 28) = w1 := ⟨_, rfl⟩
    rw [e1] at hB hz0' h1 k1
    unfold condZ at e1
    by_cases hx : isT l notL = true
    · have D := Lib.hid (take_yes ⟨#[110, 111, 116]⟩ h1.out hx)
      have hx' := Lib.hid hx
      clear hx
      go_enter Tryz.func136, Tryz.ntmps136
      go_wp2_with fail
      clear e1
      refine D.out.mono ?_
      rintro e w2 ⟨rfl, hR2, k2⟩
      have hB2 := Lib.hid (hB.out.keeps k2 (Nat.ne_of_gt hgl))
      have hK2 := Lib.hid (k1.out.trans k2)
      have hm := isT_len hx'.out
      have hlt : Hid (l.tail.length = n) := Lib.hid (by rw [List.length_tail, hl'.out]; rfl)
      have D2 := Lib.hid (ih'.out l.tail w2 hlt.out hR2)
      clear hR2 k2 D
      go_wp2_with fail
      refine D2.out.mono ?_
      rintro e w3 ⟨cs, c, m, d, b, rfl, hC, hR3, k3, hm1, hm2, hcase⟩
      have hB3 := Lib.hid (hB2.out.keeps k3 (Nat.ne_of_gt hgl))
      have hK3 := Lib.hid (hK2.out.trans k3)
      have hBl := hB2.out.lt
      have hC3 := hC.mono (Q := fun j => w.heap.size < j) fun j hj _ => by omega
      have D3 := Lib.hid (not_calls _ c cs w3 hC3)
      obtain ⟨Q, pp, nn, cc, rfl⟩ := hC3.open_
      have hR3' := Lib.hid hR3
      have hcase' := Lib.hid hcase
      clear hC hC3 hR3 k3 hcase D2
      go_wp2_with fail
      refine D3.out.mono ?_
      rintro e w4 ⟨cs4, rfl, hC4, hb4⟩
      have hz4 := hb4.size
      have hBl3 := hB3.out.lt
      have k4 := Keeps.of_below (S := fun _ => False) hb4
      have hB4 := Lib.hid (hB3.out.keeps k4 id)
      have hK4 := Lib.hid (hK3.out.step k4 fun _ e => e.elim)
      have hR4 := Lib.hid (hR3'.out.same k4)
      have hC4' := Lib.hid (hC4.mono (Q := fun j => w.heap.size < j) fun j hj _ => by rcases hj with h | h <;> omega)
      obtain ⟨Q4, p4, n4, c4, rfl⟩ := hC4.open_
      have b4 := Blk.cell hB4.out
      have bf4 := Blk.frozen hB4.out
      unfold condZ at b4
      clear hC4 hb4 k4 D3
      go_wp2_with fail
      obtain ⟨W, eW, hBW, hRW, hKW⟩ := put_cond rfl hB4.out hR4.out (Nat.ne_of_lt hgl) (Nat.ne_of_lt h5) (.int .i64 (notC c).kind) (.int .i64 (notC c).num) (.string Q4) (.slice p4 n4 c4)
      rw [eW]
      have c5 := hBW.cell
      refine bodyPost_ret (v := .agg #[.int .i64 (notC c).kind, .int .i64 (notC c).num, .string Q4, .slice p4 n4 c4]) (by simp [results, Tryz.results136, go_sem, c5]) rfl ?_
      refine ⟨_, notC c, m, d, b, rfl, (hC4'.out.keeps hKW fun j hj _ e => by omega).mono fun j hj _ => Nat.le_of_lt hj, hRW, hK4.out.step hKW (fun j e => .inr (by omega)), by omega, ?_, ?_⟩
      · show 1 + m.length ≤ _
        omega
      · rw [gNo_yes hx'.out]
        rcases hcase'.out with ⟨h1, h2, h3⟩ | ⟨h1, h2⟩
        · exact .inl ⟨h1, h2, by rw [h3]⟩
        · exact .inr ⟨h1, by rw [h2]⟩
    · have D := Lib.hid (take_no ⟨#[110, 111, 116]⟩ h1.out (.inr (Bool.eq_false_iff.2 hx)))
      have hx' := Lib.hid (Bool.eq_false_iff.2 hx)
      clear hx
      go_enter Tryz.func136, Tryz.ntmps136
      go_wp2_with fail
      clear e1
      refine D.out.mono ?_
      rintro e w' ⟨rfl, rfl⟩
      clear D
      go_wp2_with fail
      refine (hH'.out l w1 h1.out).mono ?_
      rintro e w3 ⟨cs, c, m, d, b, rfl, hC, hR3, k3, hm1, hm2, hcase⟩
      have hB3 := Lib.hid (hB.out.keeps k3 (Nat.ne_of_gt hgl))
      have hK3 := Lib.hid (k1.out.trans k3)
      have hC3 := Lib.hid (hC.mono (Q := fun j => w.heap.size < j) fun j hj _ => by rw [hz0'.out] at hj; exact hj)
      obtain ⟨Q, pp, nn, cc, rfl⟩ := hC.open_
      have hR3' := Lib.hid hR3
      have hcase' := Lib.hid hcase
      have b4 := Blk.cell hB3.out
      have bf4 := Blk.frozen hB3.out
      unfold condZ at b4
      clear hC hR3 k3 hcase
      go_wp2_with fail
      obtain ⟨W, eW, hBW, hRW, hKW⟩ := put_cond rfl hB3.out hR3'.out (Nat.ne_of_lt hgl) (Nat.ne_of_lt h5) (.int .i64 c.kind) (.int .i64 c.num) (.string Q) (.slice pp nn cc)
      rw [eW]
      have c5 := hBW.cell
      refine bodyPost_ret (v := .agg #[.int .i64 c.kind, .int .i64 c.num, .string Q, .slice pp nn cc]) (by simp [results, Tryz.results136, go_sem, c5]) rfl ?_
      refine ⟨_, c, m, d, b, rfl, (hC3.out.keeps hKW fun j hj _ e => by omega).mono fun j hj _ => Nat.le_of_lt hj, hRW, hK3.out.step hKW (fun j e => .inr (by omega)), hm1, hm2, ?_⟩
      rw [gNo_no hx'.out]; exact hcase'.out
end Go.Proofs.YtdfgbkilaepolaaGreatDoor
namespace Go.Proofs.YtdfgbkilaepolaaGreatDoor
open Go.RowKit
attribute [local go_sem ↓] dapp_op
def PutPost (O B : Nat) (kind : Int) (w : World) (ps : List CT) (e : Ending) (w' : World) : Prop :=
  e = .returned (.tuple #[]) ∧ ∃ p c cs, Blk w' O 28 #[.int .i64 kind, .int .i64 0, .string ⟨#[]⟩, .slice p ps.length c] ∧ Own O B w' (.slice p ps.length c) ps cs ∧ Keeps (fun j => B ≤ j) w w'
set_option maxHeartbeats 2000000 in
theorem put_calls {w : World} {O B K : Nat} {kind : Int} {p : Option Addr} {c : Nat} {acc : List CT} {cs cc : List Value} {x : CT} (hBO : B ≤ O) (hK : Blk w K 3 #[.int .i64 kind]) (hO : Blk w O 28 #[.int .i64 kind, .int .i64 0, .string ⟨#[]⟩, .slice p acc.length c]) (hown : Own O B w (.slice p acc.length c) acc cs)
    (hx : CAt (fun j => B ≤ j ∧ j ≠ O ∧ (Value.slice p acc.length c).ownBlock ≠ some j) w cc x) (hn : acc.length + (flatC kind x).length ≤ 100000) :
    Calls Tryz.prog 134 #[.agg cc.toArray, .pointer (some ⟨K, 0, none⟩), .pointer (some ⟨O, 0, none⟩)] w (PutPost O B kind w (acc ++ flatC kind x)) := by
  have hOl := hO.lt
  have hKl := hK.lt
  have hBw : B ≤ w.heap.size := by omega
  obtain ⟨Q, pp, nn, c2, rfl⟩ := hx.open_
  obtain ⟨ds, hrow, _, hps, _⟩ := hx.parts_
  obtain ⟨w1, e1⟩ : ∃ w1, w.alloc (.cells #[.int .i64 x.kind, .int .i64 x.num, .string Q, .slice pp nn c2] 28) = w1 := ⟨_, rfl⟩
  have k1 := (Keeps.refl (fun _ => False) w).alloc (.cells #[.int .i64 x.kind, .int .i64 x.num, .string Q, .slice pp nn c2] 28)
  have hX1 := Blk.new w 28 #[.int .i64 x.kind, .int .i64 x.num, .string Q, .slice pp nn c2]
  have hz1 := alloc_size w (.cells #[.int .i64 x.kind, .int .i64 x.num, .string Q, .slice pp nn c2] 28)
  rw [e1] at k1 hX1 hz1
  have hK1 := hK.keeps k1 id
  have hO1 := hO.keeps k1 id
  have hown1 := Lib.hid (hown.keeps k1 fun _ _ _ _ => id)
  have hrow1 := Lib.hid (hrow.keeps k1 fun _ _ => id)
  have hps1 := Lib.hid (hps.keeps k1 fun _ _ _ => id)
  have hx1 := Lib.hid (hx.keeps k1 fun _ _ _ => id)
  have k1' := Lib.hid (Keeps.mono (T := fun j => B ≤ j) k1 fun _ _ e => e.elim)
  have c0 := Blk.cell hK1
  have cK := Blk.frozen hK1
  have o0 := Blk.cell hO1
  have oF := Blk.frozen hO1
  have x0 := Blk.cell hX1
  have xF := Blk.frozen hX1
  have hO1' := Lib.hid hO1
  have hX1' := Lib.hid hX1
  have hz1' := Lib.hid hz1
  clear hK hO hown hx hrow hps k1 hK1 hO1 hX1 hz1
  by_cases hk : x.kind = kind
  · have hfl : flatC kind x = x.parts := by unfold flatC; rw [if_pos hk]
    rw [hfl] at hn ⊢
    obtain ⟨p9, c9, w9, e9, own9, k9⟩ := hown1.out.app (by rw [hz1'.out]; omega) (by rw [hz1'.out]; omega) hrow1.out hps1.out (by omega)
    have hO9 := hO1'.out.keeps k9 (fun e => hown1.out.ne e.2.2)
    have o9 := Blk.cell hO9
    have of9 := Blk.frozen hO9
    have own9' := Lib.hid own9
    have k9' := Lib.hid k9
    have hO9' := Lib.hid hO9
    have hk2 : (x.kind == kind) = true := by rw [hk]; exact beq_self_eq_true _
    have hk' := Lib.hid hk
    clear own9 k9 hO9 hk hfl
    go_enter Tryz.func134, Tryz.ntmps134
    go_wp2_with fail
    go_end0
    refine ⟨rfl, p9, c9, _, by rw [List.length_append]; exact hO9'.out.set_ 3 _, own9'.out.keeps ((Keeps.refl (fun j => j = O) w9).setCell (p := ⟨O, 3, none⟩) (.inl rfl) _) (fun j _ hj _ e => hj e), ?_⟩
    exact ((k1'.out.trans (k9'.out.mono fun j _ hj => hj.1)).setCell (p := ⟨O, 3, none⟩) (.inl hBO) _)
  · have hfl : flatC kind x = [x] := by unfold flatC; rw [if_neg hk]
    rw [hfl] at hn ⊢
    have hk2 : (x.kind == kind) = false := beq_false_of_ne hk
    have hk' := Lib.hid hk
    clear hk hfl
    have kz := ((Keeps.refl (fun _ => False) w1).alloc (.cells #[.int .i64 0, .int .i64 0, .string ⟨#[]⟩, .slice none 0 0] 28)).drew
    have hZ : Blk (w1.alloc (.cells #[.int .i64 0, .int .i64 0, .string ⟨#[]⟩, .slice none 0 0] 28)).drew w1.heap.size 28 #[.int .i64 0, .int .i64 0, .string ⟨#[]⟩, .slice none 0 0] := (Blk.new w1 28 #[.int .i64 0, .int .i64 0, .string ⟨#[]⟩, .slice none 0 0]).drew
    have hzz : (w1.alloc (.cells #[.int .i64 0, .int .i64 0, .string ⟨#[]⟩, .slice none 0 0] 28)).drew.heap.size = w1.heap.size + 1 := alloc_size w1 _
    obtain ⟨p9, c9, w9, e9, own9, k9, hob⟩ := (hown1.out.keeps kz fun _ _ _ _ => id).app_ (u := .slice (some ⟨w1.heap.size, 0, none⟩) 1 1) (qs := [leaf 0 0 []]) (by rw [hzz, hz1'.out]; omega) (by rw [hzz, hz1'.out]; omega) (.inr ⟨_, _, _, rfl, Nat.le_refl _, hZ, fun i u hi => by simpa [strV] using hi⟩) (CAt.leaf _ _ 0 0 []).one (by show acc.length + 1 ≤ _; have hn' : acc.length + 1 ≤ 100000 := hn; omega)
    obtain ⟨q, c9', hv, hc9, hql, hcell⟩ := (RowAt.of_own own9.row).cell (by simp)
    obtain ⟨rfl, rfl⟩ : p9 = some ⟨q, 0, none⟩ ∧ c9 = c9' := by injection hv with h1 h2 h3; exact ⟨h1, h3⟩
    obtain ⟨cur, hq9⟩ := own_blk own9.row q rfl
    have qF := Blk.frozen hq9
    have hlen := hown1.out.parts.len
    have q0 : w9.cell? ⟨q, acc.length * 4, none⟩ = some (.int .i64 0) := hcell (acc.length * 4) _ (by rw [List.getElem?_append_right (by omega)]; simp [hlen, strV])
    have q1 : w9.cell? ⟨q, acc.length * 4 + 1, none⟩ = some (.int .i64 0) := hcell (acc.length * 4 + 1) _ (by rw [List.getElem?_append_right (by omega)]; simp [hlen, strV])
    have q2 : w9.cell? ⟨q, acc.length * 4 + 2, none⟩ = some (.string ⟨#[]⟩) := hcell (acc.length * 4 + 2) _ (by rw [List.getElem?_append_right (by omega)]; simp [hlen, strV])
    have q3 : w9.cell? ⟨q, acc.length * 4 + 3, none⟩ = some (.slice none 0 0) := hcell (acc.length * 4 + 3) _ (by rw [List.getElem?_append_right (by omega)]; simp [hlen, strV])
    have hO9 := (hO1'.out.keeps kz id).keeps k9 (fun e => hown1.out.ne e.2.2)
    have o9 := Blk.cell hO9
    have of9 := Blk.frozen hO9
    have xz := Blk.cell (hX1'.out.keeps kz id)
    have oz := Blk.cell (hO1'.out.keeps kz id)
    have hqO : q ≠ O := fun e => own9.ne (by rw [e]; rfl)
    have hOq : O ≠ q := Ne.symm hqO
    have hidx : (acc.length : Int) < (acc.length : Int) + 1 := by omega
    have own9' := Lib.hid own9
    have hob' := Lib.hid hob
    have k9' := Lib.hid k9
    have hO9' := Lib.hid hO9
    have kz' := Lib.hid kz
    have hq9' := Lib.hid hq9
    have hlen' := Lib.hid hlen
    have hzz' := Lib.hid hzz
    have hcell' := Lib.hid hcell
    clear own9 hob k9 hO9 kz hq9 hlen hzz hcell hv hZ hc9
    go_enter Tryz.func134, Tryz.ntmps134
    go_wp2_with fail
    go_region
    · skip
      go_end0
      have hsW : Hid (Blk w9 q 28 cur) := hq9'
      have hx9 := (hx1.out.keeps kz'.out fun _ _ _ => id).keeps k9'.out fun j hj _ e => hj.2.2 e.2.2
      have hx9' : CAt (fun j => B ≤ j ∧ j ≠ O ∧ j ≠ q) w9 [.int .i64 x.kind, .int .i64 x.num, .string Q, .slice pp nn c2] x := by
        have hxw := (hx1.out.mono (Q := fun j => (B ≤ j ∧ j ≠ O ∧ (Value.slice p acc.length c).ownBlock ≠ some j) ∧ j < w1.heap.size) fun j hj hl => ⟨hj, hl⟩)
        refine (((hxw.keeps kz'.out fun _ _ _ => id).keeps k9'.out fun j hj _ e => hj.1.2.2 e.2.2).mono fun j hj _ => ⟨hj.1.1, hj.1.2.1, ?_⟩)
        rintro rfl
        rcases hob'.out with e | e
        · exact hj.1.2.2 e.symm
        · have := Option.some.inj e
          have h2 := hzz'.out
          have h3 : (⟨j, 0, none⟩ : Addr).block = j := rfl
          omega
      refine ⟨rfl, some ⟨q, 0, none⟩, c9, cs ++ [.int .i64 x.kind, .int .i64 x.num, .string Q, .slice pp nn c2], ?_, Own.put (z := leaf 0 0 []) own9'.out rfl hlen'.out hq9'.out ?_ ?_ (hx9'.keeps (S := fun j => j = q ∨ j = O) ?_ fun j hj _ e => by rcases e with e | e; exact hj.2.2 e; exact hj.2.1 e), ?_⟩
      · rw [List.length_append]
        exact (((((hO9'.out.far (p := ⟨q, acc.length * 4, none⟩) hOq _).far (p := ⟨q, acc.length * 4 + 1, none⟩) hOq _).far (p := ⟨q, acc.length * 4 + 2, none⟩) hOq _).far (p := ⟨q, acc.length * 4 + 3, none⟩) hOq _).set_ 3 _)
      · exact (((((hq9'.out.set_ _ _).set_ _ _).set_ _ _).set_ _ _).far (p := ⟨O, 3, none⟩) hqO _)
      · exact ((((((Keeps.refl (fun j => j = q ∨ j = O) w9).setCell (p := ⟨q, acc.length * 4, none⟩) (.inl (.inl rfl)) _).setCell (p := ⟨q, acc.length * 4 + 1, none⟩) (.inl (.inl rfl)) _).setCell (p := ⟨q, acc.length * 4 + 2, none⟩) (.inl (.inl rfl)) _).setCell (p := ⟨q, acc.length * 4 + 3, none⟩) (.inl (.inl rfl)) _).setCell (p := ⟨O, 3, none⟩) (.inl (.inr rfl)) _)
      · exact ((((((Keeps.refl (fun j => j = q ∨ j = O) w9).setCell (p := ⟨q, acc.length * 4, none⟩) (.inl (.inl rfl)) _).setCell (p := ⟨q, acc.length * 4 + 1, none⟩) (.inl (.inl rfl)) _).setCell (p := ⟨q, acc.length * 4 + 2, none⟩) (.inl (.inl rfl)) _).setCell (p := ⟨q, acc.length * 4 + 3, none⟩) (.inl (.inl rfl)) _).setCell (p := ⟨O, 3, none⟩) (.inl (.inr rfl)) _)
      · have kk := (k1'.out.trans (kz'.out.mono fun _ _ e => e.elim)).trans (k9'.out.mono fun j _ hj => hj.1)
        have hqB := (own9'.out.row.lt q rfl).1
        exact (((((kk.setCell (p := ⟨q, acc.length * 4, none⟩) (.inl hqB) _).setCell (p := ⟨q, acc.length * 4 + 1, none⟩) (.inl hqB) _).setCell (p := ⟨q, acc.length * 4 + 2, none⟩) (.inl hqB) _).setCell (p := ⟨q, acc.length * 4 + 3, none⟩) (.inl hqB) _).setCell (p := ⟨O, 3, none⟩) (.inl hBO) _)
    · skip
      go_end0
      have hsW : Hid (Blk w9 q 28 cur) := hq9'
      have hx9 := (hx1.out.keeps kz'.out fun _ _ _ => id).keeps k9'.out fun j hj _ e => hj.2.2 e.2.2
      have hx9' : CAt (fun j => B ≤ j ∧ j ≠ O ∧ j ≠ q) w9 [.int .i64 x.kind, .int .i64 x.num, .string Q, .slice pp nn c2] x := by
        have hxw := (hx1.out.mono (Q := fun j => (B ≤ j ∧ j ≠ O ∧ (Value.slice p acc.length c).ownBlock ≠ some j) ∧ j < w1.heap.size) fun j hj hl => ⟨hj, hl⟩)
        refine (((hxw.keeps kz'.out fun _ _ _ => id).keeps k9'.out fun j hj _ e => hj.1.2.2 e.2.2).mono fun j hj _ => ⟨hj.1.1, hj.1.2.1, ?_⟩)
        rintro rfl
        rcases hob'.out with e | e
        · exact hj.1.2.2 e.symm
        · have := Option.some.inj e
          have h2 := hzz'.out
          have h3 : (⟨j, 0, none⟩ : Addr).block = j := rfl
          omega
      refine ⟨rfl, some ⟨q, 0, none⟩, c9, cs ++ [.int .i64 x.kind, .int .i64 x.num, .string Q, .slice pp nn c2], ?_, Own.put (z := leaf 0 0 []) own9'.out rfl hlen'.out hq9'.out ?_ ?_ (hx9'.keeps (S := fun j => j = q ∨ j = O) ?_ fun j hj _ e => by rcases e with e | e; exact hj.2.2 e; exact hj.2.1 e), ?_⟩
      · rw [List.length_append]
        exact (((((hO9'.out.set_ 3 _).far (p := ⟨q, acc.length * 4, none⟩) hOq _).far (p := ⟨q, acc.length * 4 + 1, none⟩) hOq _).far (p := ⟨q, acc.length * 4 + 2, none⟩) hOq _).far (p := ⟨q, acc.length * 4 + 3, none⟩) hOq _)
      · exact (((((hq9'.out.far (p := ⟨O, 3, none⟩) hqO _).set_ _ _).set_ _ _).set_ _ _).set_ _ _)
      · exact ((((((Keeps.refl (fun j => j = q ∨ j = O) w9).setCell (p := ⟨O, 3, none⟩) (.inl (.inr rfl)) _).setCell (p := ⟨q, acc.length * 4, none⟩) (.inl (.inl rfl)) _).setCell (p := ⟨q, acc.length * 4 + 1, none⟩) (.inl (.inl rfl)) _).setCell (p := ⟨q, acc.length * 4 + 2, none⟩) (.inl (.inl rfl)) _).setCell (p := ⟨q, acc.length * 4 + 3, none⟩) (.inl (.inl rfl)) _)
      · exact ((((((Keeps.refl (fun j => j = q ∨ j = O) w9).setCell (p := ⟨O, 3, none⟩) (.inl (.inr rfl)) _).setCell (p := ⟨q, acc.length * 4, none⟩) (.inl (.inl rfl)) _).setCell (p := ⟨q, acc.length * 4 + 1, none⟩) (.inl (.inl rfl)) _).setCell (p := ⟨q, acc.length * 4 + 2, none⟩) (.inl (.inl rfl)) _).setCell (p := ⟨q, acc.length * 4 + 3, none⟩) (.inl (.inl rfl)) _)
      · have kk := (k1'.out.trans (kz'.out.mono fun _ _ e => e.elim)).trans (k9'.out.mono fun j _ hj => hj.1)
        have hqB := (own9'.out.row.lt q rfl).1
        exact (((((kk.setCell (p := ⟨O, 3, none⟩) (.inl hBO) _).setCell (p := ⟨q, acc.length * 4, none⟩) (.inl hqB) _).setCell (p := ⟨q, acc.length * 4 + 1, none⟩) (.inl hqB) _).setCell (p := ⟨q, acc.length * 4 + 2, none⟩) (.inl hqB) _).setCell (p := ⟨q, acc.length * 4 + 3, none⟩) (.inl hqB) _)
end Go.Proofs.YtdfgbkilaepolaaGreatDoor
namespace Go.Proofs.YtdfgbkilaepolaaGreatDoor
open Go.RowKit
def RowI (G : Toks → Res) (x : List UInt8) (kind : Int) (w : World) (g O : Nat) (s : ByteArray) (l : Toks) (deep : Int) (k : Nat) (wr : World) : Prop :=
  ∃ acc p c cs m d b, Blk wr O 28 #[.int .i64 kind, .int .i64 0, .string ⟨#[]⟩, .slice p acc.length c] ∧ Own O (w.heap.size + 2) wr (.slice p acc.length c) acc cs ∧ Rd wr g s m d b ∧ Keeps (fun j => j = g) w wr ∧ Blk wr w.heap.size 3 #[.int .i64 kind] ∧ Blk wr (w.heap.size + 1) 28 condZ ∧ m.length ≤ k ∧ m.length ≤ l.length ∧ acc.length + m.length ≤ l.length + 1 ∧
    ((b = false ∧ d = deep ∧ ∃ n, m.length < n ∧ rowL G x kind n acc m = gRow G x kind l) ∨ (b = true ∧ gRow G x kind l = .error (posT m)))
theorem rowL_no {G : Toks → Res} {x : List UInt8} {kind : Int} {n : Nat} {acc : List CT} {m : Toks} (hn : m.length < n) (h : isT m x = false) : rowL G x kind n acc m = .ok (.node kind 0 [] acc, m) := by
  obtain ⟨n, rfl⟩ : ∃ k, n = k + 1 := ⟨n - 1, by omega⟩
  unfold rowL
  rw [if_neg (by rw [h]; decide)]
theorem rowL_ok {G : Toks → Res} {x : List UInt8} {kind : Int} {n : Nat} {acc : List CT} {m q : Toks} {c : CT} (h : isT m x = true) (hG : G m.tail = .ok (c, q)) : rowL G x kind (n + 1) acc m = rowL G x kind n (acc ++ flatC kind c) q := by
  conv => lhs; unfold rowL
  rw [if_pos h, hG]
theorem rowL_err {G : Toks → Res} {x : List UInt8} {kind : Int} {n : Nat} {acc : List CT} {m : Toks} {e : Nat} (h : isT m x = true) (hG : G m.tail = .error e) : rowL G x kind (n + 1) acc m = .error e := by
  conv => lhs; unfold rowL
  rw [if_pos h, hG]
theorem gRow_err {G : Toks → Res} {x : List UInt8} {kind : Int} {l : Toks} {e : Nat} (hG : G l = .error e) : gRow G x kind l = .error e := by unfold gRow; rw [hG]
theorem gRow_one {G : Toks → Res} {x : List UInt8} {kind : Int} {l m : Toks} {c : CT} (hG : G l = .ok (c, m)) (h : isW m x = false) : gRow G x kind l = .ok (c, m) := by
  unfold gRow; rw [hG]
  show (if isW m x then _ else _) = _
  rw [if_neg (by rw [h]; decide)]
theorem gRow_more {G : Toks → Res} {x : List UInt8} {kind : Int} {l m : Toks} {c : CT} (hG : G l = .ok (c, m)) (h : isW m x = true) : gRow G x kind l = rowL G x kind (m.length + 1) (flatC kind c) m := by
  unfold gRow; rw [hG]
  show (if isW m x then _ else _) = _
  rw [if_pos h]
theorem flat_len {kind : Int} {c : CT} {a b : Nat} (h1 : a ≤ b) (h2 : c.parts.length + a ≤ b + 1) : (flatC kind c).length + a ≤ b + 1 := by
  unfold flatC
  by_cases h : c.kind = kind
  · rw [if_pos h]; exact h2
  · rw [if_neg h]
    show 1 + a ≤ _
    omega
set_option maxHeartbeats 4000000 in
set_option maxRecDepth 100000 in
theorem row_calls {w : World} {g : Nat} {s : ByteArray} {l : Toks} {deep : Int} (F : Nat) (hE : ∀ args w, (callFunc F args).run Tryz.prog w = .ok (.enter F args) w) (x : ByteArray) (kind : Int) (G : Toks → Res) (h : Rd w g s l deep false)
    (hone : ∀ m w, Rd w g s m deep false → Calls Tryz.prog F #[.pointer (some ⟨g, 0, none⟩)] w (Told G w g s m deep)) :
    Calls Tryz.prog 113 #[.pointer (some ⟨g, 0, none⟩), .string x, .int .i64 kind, .func (.func F) #[.pointer (some ⟨g, 0, none⟩)] #[]] w (Told (gRow G x.data.toList kind) w g s l deep) := by
  have hgl := h.lt
  have h5 := h.b5
  have hlen := h.len
  have hz0 := alloc_size w (.cells #[.int .i64 kind] 3)
  have hK1 := (Blk.new w 3 #[.int .i64 kind]).alloc (.cells condZ 28)
  have hB1 := Blk.new (w.alloc (.cells #[.int .i64 kind] 3)) 28 condZ
  have hz1 := alloc_size (w.alloc (.cells #[.int .i64 kind] 3)) (.cells condZ 28)
  have hR1 := (h.alloc (.cells #[.int .i64 kind] 3)).alloc (.cells condZ 28)
  have k1 := ((Keeps.refl (fun j => j = g) w).alloc (.cells #[.int .i64 kind] 3)).alloc (.cells condZ 28)
  rw [hz0] at hB1 hz1
  obtain ⟨w1, e1⟩ : ∃ w1, (w.alloc (.cells #[.int .i64 kind] 3)).alloc (.cells condZ 28) = w1 := ⟨_, rfl⟩
  rw [e1] at hK1 hB1 hz1 hR1 k1
  unfold condZ at e1
  have hone' := Lib.hid hone
  have hK1' := Lib.hid hK1
  have hB1' := Lib.hid hB1
  have hz1' := Lib.hid hz1
  have hR1' := Lib.hid hR1
  have k1' := Lib.hid k1
  clear hone h hz0 hK1 hB1 hz1 hR1 k1
  go_enter Tryz.func113, Tryz.ntmps113
  go_wp2_with fail
  clear e1
  refine (hone'.out l w1 hR1'.out).mono ?_
  rintro e w2 ⟨cs, c, m, d, b, rfl, hC, hR2, k2, hml, hmp, hcase⟩
  have hB2 := Lib.hid (hB1'.out.keeps k2 (by omega))
  have hKb2 := Lib.hid (hK1'.out.keeps k2 (Nat.ne_of_gt hgl))
  have hK2 := Lib.hid (k1'.out.trans k2)
  have hC2 := Lib.hid (hC.mono (Q := fun j => w.heap.size + 2 ≤ j) fun j hj _ => by rw [hz1'.out] at hj; exact hj)
  have hR2' := Lib.hid hR2
  have hcase' := Lib.hid hcase
  clear hC k2 hR2 hcase hK1' hB1' hR1' k1'
  obtain ⟨Q, pp, nn, cc, rfl⟩ := hC2.out.open_
  have hA := hB2.out.lt
  have hX3 := Blk.new w2 28 #[.int .i64 c.kind, .int .i64 c.num, .string Q, .slice pp nn cc]
  have k3 := (Keeps.refl (fun _ => False) w2).alloc (.cells #[.int .i64 c.kind, .int .i64 c.num, .string Q, .slice pp nn cc] 28)
  have hz3 := alloc_size w2 (.cells #[.int .i64 c.kind, .int .i64 c.num, .string Q, .slice pp nn cc] 28)
  obtain ⟨w3, e3⟩ : ∃ w3, w2.alloc (.cells #[.int .i64 c.kind, .int .i64 c.num, .string Q, .slice pp nn cc] 28) = w3 := ⟨_, rfl⟩
  rw [e3] at hX3 k3 hz3
  have hR3 := Lib.hid (hR2'.out.same k3)
  have hB3 := Lib.hid (hB2.out.keeps k3 id)
  have hKb3 := Lib.hid (hKb2.out.keeps k3 id)
  have hK3 := Lib.hid (hK2.out.step k3 fun _ e => e.elim)
  have hC3 := Lib.hid ((hC2.out.mono (Q := fun j => w.heap.size + 2 ≤ j ∧ j < w2.heap.size) fun j hj hl => ⟨hj, hl⟩).keeps k3 fun _ _ _ => id)
  have hX3' := Lib.hid hX3
  have hz3' := Lib.hid hz3
  have x0 := Blk.cell hX3
  have xf := Blk.frozen hX3
  have b0 := Blk.cell hB3.out
  have bf := Blk.frozen hB3.out
  unfold condZ at b0
  have kk0 := Blk.cell hKb3.out
  obtain ⟨t, r, rfl⟩ := hR3.out.ex
  obtain ⟨X, hX, gf, gc3, gc6, gc2, gc5⟩ := hR3.out.lead
  have hX' := Lib.hid hX
  clear hB2 hKb2 hK2 hC2 hR2' k3 hz3 hX3 hX
  by_cases h3 : t.sort = 3
  · have s3 : ((t.sort : Int) == 3) = true := by rw [h3]; rfl
    have s3' : ((t.sort : Int) != 3) = false := by rw [h3]; rfl
    by_cases hx : t.text = x.data.toList
    · have t3 : (X.toList == x.toList) = true := by rw [Lib.toList_data, Lib.toList_data, hX'.out, hx]; exact beq_self_eq_true _
      have t3' : (X.toList != x.toList) = false := by rw [Lib.toList_data, Lib.toList_data, hX'.out, hx]; exact bne_self_eq_false _
      cases b with
      | true =>
        have h3' := Lib.hid h3
        have hx' := Lib.hid hx
        clear h3 hx
        go_wp2_with fail
        obtain ⟨W, eW, hBW, hRW, hKW⟩ := put_cond rfl hB3.out hR3.out (Nat.ne_of_lt (by omega)) (Nat.ne_of_lt (by omega)) (.int .i64 c.kind) (.int .i64 c.num) (.string Q) (.slice pp nn cc)
        rw [eW]
        have c5 := hBW.cell
        refine bodyPost_ret (v := .agg #[.int .i64 c.kind, .int .i64 c.num, .string Q, .slice pp nn cc]) (by simp [results, Tryz.results113, go_sem, c5]) rfl ?_
        refine ⟨_, c, t :: r, d, _, rfl, (hC3.out.keeps hKW fun j hj _ e => by omega).mono fun j hj _ => by omega, hRW, hK3.out.step hKW (fun j e => .inr (by omega)), hml, hmp, ?_⟩
        rcases hcase'.out with ⟨q1, q2, q3⟩ | ⟨q1, q2⟩
        · cases q1
        · exact .inr ⟨rfl, gRow_err q2⟩
      | false =>
        obtain ⟨hd, hG⟩ : d = deep ∧ Hid (G l = .ok (c, t :: r)) := by
          rcases hcase'.out with ⟨_, q2, q3⟩ | ⟨q, _⟩
          · exact ⟨q2, Lib.hid q3⟩
          · cases q
        have hd' := hd.symm
        clear hd hcase'
        subst hd'
        have hW : Hid (isW (t :: r) x.data.toList = true) := Lib.hid (by show (t.sort == 3 && t.text == x.data.toList) = true; rw [h3, hx]; simp)
        have h3' := Lib.hid h3
        have hx' := Lib.hid hx
        clear h3 hx
        have k4 := (Keeps.refl (fun _ => False) w3).alloc (.cells #[.int .i64 kind, .int .i64 0, .string ⟨#[]⟩, .slice none 0 0] 28)
        have hO4 := Blk.new w3 28 #[.int .i64 kind, .int .i64 0, .string ⟨#[]⟩, .slice none 0 0]
        have x4 := Blk.cell (hX3'.out.keeps k4 id)
        have x4f := Blk.frozen (hX3'.out.keeps k4 id)
        obtain ⟨w4, e4⟩ : ∃ w4, w3.alloc (.cells #[.int .i64 kind, .int .i64 0, .string ⟨#[]⟩, .slice none 0 0] 28) = w4 := ⟨_, rfl⟩
        rw [e4] at k4 hO4
        obtain ⟨O, eO⟩ : ∃ O, w3.heap.size = O := ⟨_, rfl⟩
        rw [eO] at hO4
        have hz3b := hz3'.out
        have hOB : w.heap.size + 2 ≤ O := by omega
        have hB4 := Lib.hid (hB3.out.keeps k4 id)
        have hKb4 := Lib.hid (hKb3.out.keeps k4 id)
        have hK4 := Lib.hid (hK3.out.step k4 fun _ e => e.elim)
        have hR4 := Lib.hid (hR3.out.same k4)
        have hC4 := Lib.hid ((hC3.out.keeps k4 fun _ _ _ => id).mono (Q := fun j => w.heap.size + 2 ≤ j ∧ j ≠ O ∧ (Value.slice none ([] : List CT).length 0).ownBlock ≠ some j) fun j hj _ => ⟨hj.1, by omega, by simp [Value.ownBlock]⟩)
        have hfl := flat_len (kind := kind) hml hmp
        have hpc : 1 ≤ (t :: r).length := Nat.succ_pos _
        have DP := Lib.hid (put_calls (acc := []) (p := none) (c := 0) hOB hKb4.out hO4 (Own.nil O (w.heap.size + 2) w4) hC4.out (by show 0 + _ ≤ _; omega))
        have e4' := Lib.hid e4
        have eO' := Lib.hid eO
        clear hB3 hKb3 hK3 hR3 hC3 k4 hO4 x0 xf hX3' hz3b e4 eO
        go_wp2_with fail
        rw [e4'.out, eO'.out]
        refine DP.out.mono ?_
        rintro e w5 ⟨rfl, p5, c5, cs5, hO5, own5, k5⟩
        have hR5 := hR4.out.keeps k5 (by omega) (by omega)
        have hB5 := hB4.out.keeps k5 (by omega)
        have hKb5 := hKb4.out.keeps k5 (by omega)
        have hK5 := hK4.out.step k5 fun j hj => .inr (by omega)
        have hstart : Hid (RowI G x.data.toList kind w g O s l deep (t :: r).length w5) := Lib.hid ⟨flatC kind c, p5, c5, cs5, t :: r, deep, false, hO5, own5, hR5, hK5, hKb5, hB5, Nat.le_refl _, hml, hfl, .inl ⟨rfl, rfl, (t :: r).length + 1, Nat.lt_succ_self _, (gRow_more hG.out hW.out).symm⟩⟩
        clear hB4 hKb4 hK4 hR4 hC4 DP hO5 own5 k5 hR5 hB5 hKb5 hK5 x4 x4f gf gc3 gc6 gc2 gc5 kk0 b0 bf
        go_wp2_with fail
        clear e3
        go_loopg [42] ((t :: r).length) (fun k _ wr => RowI G x.data.toList kind w g O s l deep k wr)
        case atStart => exact hstart.out
        case round =>
          clear hstart hml hmp hfl hpc hG hW
          obtain ⟨acc, p, c6, cs, m, d, b, hO, hown, hR, hK, hKb, hB, hk, hml, hmp, hst⟩ := hrel
          have hO' := Lib.hid hO
          have hown' := Lib.hid hown
          have hR' := Lib.hid hR
          have hK' := Lib.hid hK
          have hKb' := Lib.hid hKb
          have hB' := Lib.hid hB
          have hOl := hO.lt
          have o0 := Blk.cell hO
          have of0 := Blk.frozen hO
          have b0 := Blk.cell hB
          have bf0 := Blk.frozen hB
          unfold condZ at b0
          clear hO hown hR hK hKb hB
          by_cases ht : b = false ∧ isT m x.data.toList = true
          · obtain ⟨rfl, ht⟩ := ht
            obtain ⟨hd, n, hn, hG⟩ : d = deep ∧ ∃ n, m.length < n ∧ rowL G x.data.toList kind n acc m = gRow G x.data.toList kind l := by
              rcases hst with ⟨_, e, h⟩ | ⟨e, _⟩
              · exact ⟨e, h⟩
              · cases e
            have hd' := hd.symm
            have hG' := Lib.hid hG
            have D := Lib.hid (take_yes x hR'.out ht)
            have ht' := Lib.hid ht
            have hm3 := isT_len ht
            clear hd hst hG ht
            subst hd'
            go_wp2_with fail
            refine D.out.mono ?_
            rintro e w6 ⟨rfl, hR6, k6⟩
            have hO6 := Lib.hid (hO'.out.keeps k6 (by omega))
            have hown6 := Lib.hid (hown'.out.keeps k6 fun j hj _ _ e => by omega)
            have hK6 := Lib.hid (hK'.out.trans k6)
            have hKb6 := Lib.hid (hKb'.out.keeps k6 (by omega))
            have hB6 := Lib.hid (hB'.out.keeps k6 (by omega))
            have D6 := Lib.hid (hone'.out m.tail w6 hR6)
            have hz6 := k6.size
            clear D hR6 k6 o0 of0 b0 bf0
            go_wp2_with fail
            refine D6.out.mono ?_
            rintro e w7 ⟨cs7, c7, m', d', b', rfl, hC7, hR7, k7, hm1, hm2, hcase⟩
            have hO7 := hO6.out.keeps k7 (by omega)
            have hown7 := hown6.out.keeps k7 fun j hj _ _ e => by omega
            have hK7 := Lib.hid (hK6.out.trans k7)
            have hKb7 := hKb6.out.keeps k7 (by omega)
            have hB7 := Lib.hid (hB6.out.keeps k7 (by omega))
            have hR7' := Lib.hid hR7
            have hcase' := Lib.hid hcase
            have hC7' := hC7.mono (Q := fun j => w.heap.size + 2 ≤ j ∧ j ≠ O ∧ (Value.slice p acc.length c6).ownBlock ≠ some j) fun j hj _ => ⟨by omega, by omega, fun e => by have := (hown6.out.row.lt j e).2; omega⟩
            have hfl := flat_len (kind := kind) hm1 hm2
            have DP := Lib.hid (put_calls hOB hKb7 hO7 hown7 hC7' (by omega))
            obtain ⟨Q7, p7, n7, c77, rfl⟩ := hC7.open_
            have hKb7' := Lib.hid hKb7
            clear hC7 hR7 k7 hcase D6 hO7 hown7 hC7' hKb7 hO6 hown6 hK6 hKb6 hB6
            go_wp2_with fail
            refine DP.out.mono ?_
            rintro e w8 ⟨rfl, p8, c8, cs8, hO8, own8, k8⟩
            have hR8 := Lib.hid (hR7'.out.keeps k8 (by omega) (by omega))
            have hB8 := Lib.hid (hB7.out.keeps k8 (by omega))
            have hKb8 := Lib.hid (hKb7'.out.keeps k8 (by omega))
            have hK8 := Lib.hid (hK7.out.step k8 fun j hj => .inr (by omega))
            have hO8' := Lib.hid hO8
            have own8' := Lib.hid own8
            clear DP hO8 own8 k8
            go_wp2_with fail
            go_roundg (m'.length)
            case measure => omega
            case rel =>
              refine ⟨acc ++ flatC kind c7, p8, c8, cs8, m', d', b', hO8'.out, own8'.out, hR8.out, hK8.out, hKb8.out, hB8.out, Nat.le_refl _, by omega, by rw [List.length_append]; omega, ?_⟩
              obtain ⟨n, rfl⟩ : ∃ k, n = k + 1 := ⟨n - 1, by omega⟩
              have hG2 := hG'.out
              rcases hcase'.out with ⟨q1, q2, q3⟩ | ⟨q1, q2⟩
              · rw [rowL_ok ht'.out q3] at hG2
                exact .inl ⟨q1, q2, n, by omega, hG2⟩
              · rw [rowL_err ht'.out q2] at hG2
                exact .inr ⟨q1, hG2.symm⟩
          · have hcl : Hid (b = true ∨ isT m x.data.toList = false) := by
              cases b with
              | true => exact Lib.hid (.inl rfl)
              | false => exact Lib.hid (.inr (Bool.eq_false_iff.2 fun e => ht ⟨rfl, e⟩))
            have D := Lib.hid (take_no x hR'.out hcl.out)
            have hst' := Lib.hid hst
            clear hst ht
            go_wp2_with fail
            refine D.out.mono ?_
            rintro e w' ⟨rfl, rfl⟩
            go_wp2_with fail
            obtain ⟨W, eW, hBW, hRW, hKW⟩ := put_cond rfl hB'.out hR'.out (Nat.ne_of_lt (by omega)) (Nat.ne_of_lt (by omega)) (.int .i64 kind) (.int .i64 0) (.string ⟨#[]⟩) (.slice p acc.length c6)
            rw [eW]
            have cW := hBW.cell
            refine bodyPost_ret (v := .agg #[.int .i64 kind, .int .i64 0, .string ⟨#[]⟩, .slice p acc.length c6]) (by simp [results, Tryz.results113, go_sem, cW]) rfl ?_
            have hO9 := hown'.out.keeps hKW fun j hj _ _ e => by omega
            refine ⟨_, .node kind 0 [] acc, m, d, b, rfl, .mk (RowAt.of_own hO9.row) (fun j hj => by have := (hO9.row.lt j hj).1; omega) hO9.parts.len (fun i q hi => (hO9.parts.part i q hi).mono fun j hj _ => by omega), hRW, hK'.out.step hKW (fun j e => .inr (by omega)), hml, hmp, ?_⟩
            rcases hst'.out with ⟨q1, q2, n, hn, hG⟩ | q
            · rcases hcl.out with h | h
              · rw [q1] at h; cases h
              · exact .inl ⟨q1, q2, by rw [← hG]; exact rowL_no hn h⟩
            · exact .inr q
    · have t3 : (X.toList == x.toList) = false := by rw [Lib.toList_data, Lib.toList_data, hX'.out]; exact beq_false_of_ne hx
      have t3' : (X.toList != x.toList) = true := by rw [Lib.toList_data, Lib.toList_data, hX'.out]; exact bne_iff_ne.2 hx
      have h3' := Lib.hid h3
      have hx' := Lib.hid hx
      clear h3 hx
      go_wp2_with fail
      obtain ⟨W, eW, hBW, hRW, hKW⟩ := put_cond rfl hB3.out hR3.out (Nat.ne_of_lt (by omega)) (Nat.ne_of_lt (by omega)) (.int .i64 c.kind) (.int .i64 c.num) (.string Q) (.slice pp nn cc)
      rw [eW]
      have c5 := hBW.cell
      refine bodyPost_ret (v := .agg #[.int .i64 c.kind, .int .i64 c.num, .string Q, .slice pp nn cc]) (by simp [results, Tryz.results113, go_sem, c5]) rfl ?_
      refine ⟨_, c, t :: r, d, _, rfl, (hC3.out.keeps hKW fun j hj _ e => by omega).mono fun j hj _ => by omega, hRW, hK3.out.step hKW (fun j e => .inr (by omega)), hml, hmp, ?_⟩
      rcases hcase'.out with ⟨q1, q2, q3⟩ | ⟨q1, q2⟩
      · refine .inl ⟨q1, q2, gRow_one q3 ?_⟩
        show (t.sort == 3 && t.text == x.data.toList) = false
        rw [beq_false_of_ne hx'.out, Bool.and_false]
      · exact .inr ⟨q1, gRow_err q2⟩
  · have s3 : ((t.sort : Int) == 3) = false := by apply beq_false_of_ne; omega
    have s3' : ((t.sort : Int) != 3) = true := by rw [bne_iff_ne]; omega
    have h3' := Lib.hid h3
    clear h3
    go_wp2_with fail
    obtain ⟨W, eW, hBW, hRW, hKW⟩ := put_cond rfl hB3.out hR3.out (Nat.ne_of_lt (by omega)) (Nat.ne_of_lt (by omega)) (.int .i64 c.kind) (.int .i64 c.num) (.string Q) (.slice pp nn cc)
    rw [eW]
    have c5 := hBW.cell
    refine bodyPost_ret (v := .agg #[.int .i64 c.kind, .int .i64 c.num, .string Q, .slice pp nn cc]) (by simp [results, Tryz.results113, go_sem, c5]) rfl ?_
    refine ⟨_, c, t :: r, d, _, rfl, (hC3.out.keeps hKW fun j hj _ e => by omega).mono fun j hj _ => by omega, hRW, hK3.out.step hKW (fun j e => .inr (by omega)), hml, hmp, ?_⟩
    rcases hcase'.out with ⟨q1, q2, q3⟩ | ⟨q1, q2⟩
    · refine .inl ⟨q1, q2, gRow_one q3 ?_⟩
      show (t.sort == 3 && t.text == x.data.toList) = false
      rw [beq_false_of_ne h3'.out, Bool.false_and]
    · exact .inr ⟨q1, gRow_err q2⟩
end Go.Proofs.YtdfgbkilaepolaaGreatDoor
namespace Go.Proofs.YtdfgbkilaepolaaGreatDoor
open Go.RowKit
theorem Told.congr {G G' : Toks → Res} {w : World} {g : Nat} {s : ByteArray} {l : Toks} {deep : Int} {e : Ending} {w' : World} (h : Told G w g s l deep e w') (hG : G l = G' l) : Told G' w g s l deep e w' := by
  unfold Told at h ⊢
  rw [← hG]; exact h
set_option maxHeartbeats 1000000 in
theorem all_calls {w : World} {g : Nat} {s : ByteArray} {l : Toks} {deep : Int} (N : Toks → Res) (h : Rd w g s l deep false)
    (hN : ∀ m w, Rd w g s m deep false → Calls Tryz.prog 136 #[.pointer (some ⟨g, 0, none⟩)] w (Told N w g s m deep)) :
    Calls Tryz.prog 114 #[.pointer (some ⟨g, 0, none⟩)] w (Told (gRow N andL 7) w g s l deep) := by
  have hgl := h.lt
  have h5 := h.b5
  have hB := Lib.hid (Blk.new w 28 condZ)
  have hz0' := Lib.hid (alloc_size w (.cells condZ 28))
  have h1 := Lib.hid (h.alloc (.cells condZ 28))
  have k1 := Lib.hid ((Keeps.refl (fun j => j = g) w).alloc (.cells condZ 28))
  have D := Lib.hid (row_calls 136 (fun _ _ => by go_simp) ⟨#[97, 110, 100]⟩ 7 N h1.out hN)
  clear h hN
  go_enter Tryz.func114, Tryz.ntmps114
  go_wp2_with fail
  refine D.out.mono ?_
  rintro e w3 ⟨cs, c, m, d, b, rfl, hC, hR3, k3, hm1, hm2, hcase⟩
  have hB3 := Lib.hid (hB.out.keeps k3 (Nat.ne_of_gt hgl))
  have hK3 := Lib.hid (k1.out.trans k3)
  have hC3 := Lib.hid (hC.mono (Q := fun j => w.heap.size < j) fun j hj _ => by rw [hz0'.out] at hj; exact hj)
  obtain ⟨Q, pp, nn, cc, rfl⟩ := hC.open_
  have hR3' := Lib.hid hR3
  have hcase' := Lib.hid hcase
  have b4 := Blk.cell hB3.out
  have bf4 := Blk.frozen hB3.out
  unfold condZ at b4
  clear hC hR3 k3 hcase D
  go_wp2_with fail
  obtain ⟨W, eW, hBW, hRW, hKW⟩ := put_cond rfl hB3.out hR3'.out (Nat.ne_of_lt hgl) (Nat.ne_of_lt h5) (.int .i64 c.kind) (.int .i64 c.num) (.string Q) (.slice pp nn cc)
  rw [eW]
  have c5 := hBW.cell
  refine bodyPost_ret (v := .agg #[.int .i64 c.kind, .int .i64 c.num, .string Q, .slice pp nn cc]) (by simp [results, Tryz.results114, go_sem, c5]) rfl ?_
  exact ⟨_, c, m, d, b, rfl, (hC3.out.keeps hKW fun j hj _ e => by omega).mono fun j hj _ => Nat.le_of_lt hj, hRW, hK3.out.step hKW (fun j e => .inr (by omega)), hm1, hm2, hcase'.out⟩
set_option maxHeartbeats 1000000 in
theorem condr_calls {w : World} {g : Nat} {s : ByteArray} {l : Toks} {deep : Int} (N : Toks → Res) (h : Rd w g s l deep false)
    (hN : ∀ m w, Rd w g s m deep false → Calls Tryz.prog 114 #[.pointer (some ⟨g, 0, none⟩)] w (Told N w g s m deep)) :
    Calls Tryz.prog 92 #[.pointer (some ⟨g, 0, none⟩)] w (Told (gRow N orL 8) w g s l deep) := by
  have hgl := h.lt
  have h5 := h.b5
  have hB := Lib.hid (Blk.new w 28 condZ)
  have hz0' := Lib.hid (alloc_size w (.cells condZ 28))
  have h1 := Lib.hid (h.alloc (.cells condZ 28))
  have k1 := Lib.hid ((Keeps.refl (fun j => j = g) w).alloc (.cells condZ 28))
  have D := Lib.hid (row_calls 114 (fun _ _ => by go_simp) ⟨#[111, 114]⟩ 8 N h1.out hN)
  clear h hN
  go_enter Tryz.func92, Tryz.ntmps92
  go_wp2_with fail
  refine D.out.mono ?_
  rintro e w3 ⟨cs, c, m, d, b, rfl, hC, hR3, k3, hm1, hm2, hcase⟩
  have hB3 := Lib.hid (hB.out.keeps k3 (Nat.ne_of_gt hgl))
  have hK3 := Lib.hid (k1.out.trans k3)
  have hC3 := Lib.hid (hC.mono (Q := fun j => w.heap.size < j) fun j hj _ => by rw [hz0'.out] at hj; exact hj)
  obtain ⟨Q, pp, nn, cc, rfl⟩ := hC.open_
  have hR3' := Lib.hid hR3
  have hcase' := Lib.hid hcase
  have b4 := Blk.cell hB3.out
  have bf4 := Blk.frozen hB3.out
  unfold condZ at b4
  clear hC hR3 k3 hcase D
  go_wp2_with fail
  obtain ⟨W, eW, hBW, hRW, hKW⟩ := put_cond rfl hB3.out hR3'.out (Nat.ne_of_lt hgl) (Nat.ne_of_lt h5) (.int .i64 c.kind) (.int .i64 c.num) (.string Q) (.slice pp nn cc)
  rw [eW]
  have c5 := hBW.cell
  refine bodyPost_ret (v := .agg #[.int .i64 c.kind, .int .i64 c.num, .string Q, .slice pp nn cc]) (by simp [results, Tryz.results92, go_sem, c5]) rfl ?_
  exact ⟨_, c, m, d, b, rfl, (hC3.out.keeps hKW fun j hj _ e => by omega).mono fun j hj _ => Nat.le_of_lt hj, hRW, hK3.out.step hKW (fun j e => .inr (by omega)), hm1, hm2, hcase'.out⟩
theorem condOf_walk {g : Nat} {s : ByteArray} {deep : Int} (U : Toks → Res) (hU : ∀ m w, Rd w g s m deep false → Calls Tryz.prog 171 #[.pointer (some ⟨g, 0, none⟩)] w (Told U w g s m deep)) {w : World} {l : Toks} (h : Rd w g s l deep false) :
    Calls Tryz.prog 92 #[.pointer (some ⟨g, 0, none⟩)] w (Told (gCondOf U) w g s l deep) := by
  have h1 := fun m w (h : Rd w g s m deep false) => times_calls U h hU
  have h2 := fun m w (h : Rd w g s m deep false) => sum_calls (gTimes U) h h1
  have h3 := fun m w (h : Rd w g s m deep false) => held_calls (gSum (gTimes U)) h h2
  have h4 : ∀ m w, Rd w g s m deep false → Calls Tryz.prog 136 #[.pointer (some ⟨g, 0, none⟩)] w (Told (fun l => gNo (gHeld (gSum (gTimes U))) l.length l) w g s m deep) := fun m w h =>
    (no_calls (gHeld (gSum (gTimes U))) h3 m.length m w rfl h).mono fun e w' h => h.congr rfl
  have h5 := fun m w (h : Rd w g s m deep false) => all_calls _ h h4
  exact condr_calls _ h h5
theorem cond_walk {g : Nat} {s : ByteArray} : ∀ (d : Nat), d ≤ 8 → ∀ (l : Toks) (w : World) (deep : Int), deep = 8 - (d : Int) → Rd w g s l deep false → Calls Tryz.prog 92 #[.pointer (some ⟨g, 0, none⟩)] w (Told (gCond d) w g s l deep)
  | 0, _, l, w, deep, hdp, h => by
    refine condOf_walk (gUnitD 0) (fun m w h => ?_) h
    exact unit_calls none h ⟨fun _ => by omega, fun _ => rfl⟩ ⟨by omega, by omega⟩ (fun G hG => by cases hG)
  | d + 1, hd, l, w, deep, hdp, h => by
    refine condOf_walk (gUnitD (d + 1)) (fun m w h => ?_) h
    refine unit_calls (some (gCond d)) h ⟨fun e => (by cases e), fun e => absurd (show deep < 8 by omega) e⟩ ⟨by omega, by omega⟩ ?_
    intro G hG m w hR
    obtain rfl := Option.some.inj hG
    exact cond_walk d (by omega) m w (deep + 1) (by omega) hR
end Go.Proofs.YtdfgbkilaepolaaGreatDoor
namespace Go.Proofs.YtdfgbkilaepolaaGreatDoor
open Go.RowKit
/-- a row that is only read -/
def RowV (w : World) (v : Value) (n : Nat) (cs : List Value) : Prop := n ≤ maxLen ∧ ((∃ p c, v = .slice p 0 c ∧ n = 0) ∨ ∃ (g o c : Nat), v = .slice (some ⟨g, o, none⟩) n c ∧ n ≤ c ∧ ∀ (i : Nat) (u : Value), cs[i]? = some u → g < w.heap.size ∧ w.cell? ⟨g, o + i, none⟩ = some u)
theorem RowV.below {w w' : World} {v : Value} {n : Nat} {cs : List Value} (h : RowV w v n cs) (hb : Below w.heap.size w w') : RowV w' v n cs := by
  refine ⟨h.1, h.2.imp id ?_⟩
  rintro ⟨g, o, c, rfl, hc, hcell⟩
  refine ⟨g, o, c, rfl, hc, fun i u hu => ?_⟩
  obtain ⟨h1, h2⟩ := hcell i u hu
  exact ⟨Nat.lt_of_lt_of_le h1 hb.size, by rw [hb.cell (p := ⟨g, o + i, none⟩) h1]; exact h2⟩
theorem RowV.form {w : World} {v : Value} {n : Nat} {cs : List Value} (h : RowV w v n cs) : ∃ p c, v = .slice p n c := by
  rcases h.2 with ⟨p, c, rfl, rfl⟩ | ⟨g, o, c, rfl, _⟩
  · exact ⟨_, _, rfl⟩
  · exact ⟨_, _, rfl⟩
theorem RowV.cell {w : World} {p : Option Addr} {n c : Nat} {cs : List Value} (h : RowV w (.slice p n c) n cs) (hn : 0 < n) : ∃ g o, p = some ⟨g, o, none⟩ ∧ n ≤ c ∧ ∀ (i : Nat) (u : Value), cs[i]? = some u → g < w.heap.size ∧ w.cell? ⟨g, o + i, none⟩ = some u := by
  rcases h.2 with ⟨p, c, _, rfl⟩ | ⟨g, o, c', e, hc, hcell⟩
  · omega
  · injection e with e1 _ e3
    subst e1 e3
    exact ⟨g, o, rfl, hc, hcell⟩
theorem RowV.of_row {w : World} {T : TypeId} {v : Value} {n : Nat} {cs : List Value} (h : RowAt w T v n cs) (hn : n ≤ maxLen) : RowV w v n cs := by
  refine ⟨hn, ?_⟩
  rcases h with ⟨rfl, rfl⟩ | ⟨g, c, cur, rfl, hc, hl, hcell⟩
  · exact .inl ⟨_, _, rfl, rfl⟩
  · exact .inr ⟨g, 0, c, rfl, hc, fun i u hu => ⟨hl.lt, by rw [hl.cell, Nat.zero_add]; exact hcell i u hu⟩⟩
/-- a condition's cells, only read -/
inductive CV (w : World) : List Value → CT → Prop
  | mk {k n : Int} {s : List UInt8} {v : Value} {ps : List CT} {cs : List Value} (hrow : RowV w v ps.length cs) (hlen : cs.length = ps.length * 4) (hparts : ∀ (i : Nat) (p : CT), ps[i]? = some p → CV w ((cs.drop (i * 4)).take 4) p) : CV w [.int .i64 k, .int .i64 n, strV s, v] (.node k n s ps)
theorem CV.later {w w' : World} {cs : List Value} {r : CT} (h : CV w cs r) (hb : Below w.heap.size w w') : CV w' cs r := by
  induction h with
  | mk hrow hlen _ ih => exact .mk (hrow.below hb) hlen ih
theorem CV.of {P : Nat → Prop} {w : World} {cs : List Value} {r : CT} (h : CAt P w cs r) (hs : r.size ≤ 1000000000) : CV w cs r := by
  induction h with
  | @mk k n s v ps cs hrow hp hlen hparts ih =>
    rw [size_eq] at hs
    have hl : ∀ ps : List CT, ps.length ≤ sizeLc ps := by
      intro ps
      induction ps with
      | nil => exact Nat.zero_le _
      | cons p ps ih =>
        rw [sizeL_cons, List.length_cons]
        have : 1 ≤ p.size := by cases p; rw [size_eq]; omega
        omega
    have hm : ∀ (ps : List CT) (p : CT), p ∈ ps → p.size ≤ sizeLc ps := by
      intro ps
      induction ps with
      | nil => intro p hp; cases hp
      | cons q ps ih =>
        intro p hp
        rw [sizeL_cons]
        rcases List.mem_cons.1 hp with rfl | hp
        · omega
        · have := ih p hp; omega
    have h1 := hl ps
    exact .mk (.of_row hrow (by unfold maxLen; omega)) hlen fun i p hi => ih i p hi (by have := hm ps p (List.mem_of_getElem? hi); omega)
theorem CV.form {w : World} {cs : List Value} {r : CT} (h : CV w cs r) : ∃ (k n : Int) (a : ByteArray) (p : Option Addr) (c : Nat) (ds : List Value), cs = [.int .i64 k, .int .i64 n, .string a, .slice p r.parts.length c] ∧ r = .node k n a.data.toList r.parts ∧ RowV w (.slice p r.parts.length c) r.parts.length ds ∧ ds.length = r.parts.length * 4 ∧ ∀ (i : Nat) (q : CT), r.parts[i]? = some q → CV w ((ds.drop (i * 4)).take 4) q := by
  cases h with
  | mk hrow hlen hparts =>
    obtain ⟨p, c, rfl⟩ := hrow.form
    exact ⟨_, _, _, p, c, _, rfl, rfl, hrow, hlen, hparts⟩
/-- the four cells of one part -/
theorem CV.part {w : World} {g o i : Nat} {ds : List Value} {ps : List CT} {q : CT} (hcell : ∀ (i : Nat) (u : Value), ds[i]? = some u → g < w.heap.size ∧ w.cell? ⟨g, o + i, none⟩ = some u) (hq : ps[i]? = some q) (h : CV w ((ds.drop (i * 4)).take 4) q) :
    ∃ (k n : Int) (a : ByteArray) (p : Option Addr) (c : Nat), CV w [.int .i64 k, .int .i64 n, .string a, .slice p q.parts.length c] q ∧ q = .node k n a.data.toList q.parts ∧ g < w.heap.size ∧ w.cell? ⟨g, o + i * 4, none⟩ = some (.int .i64 k) ∧ w.cell? ⟨g, o + i * 4 + 1, none⟩ = some (.int .i64 n) ∧ w.cell? ⟨g, o + i * 4 + 2, none⟩ = some (.string a) ∧ w.cell? ⟨g, o + i * 4 + 3, none⟩ = some (.slice p q.parts.length c) := by
  obtain ⟨k, n, a, p, c, _, e, hr, _⟩ := h.form
  have hi := (List.getElem?_eq_some_iff.1 hq).1
  have hu : ∀ j u, j < 4 → [Value.int .i64 k, .int .i64 n, .string a, .slice p q.parts.length c][j]? = some u → g < w.heap.size ∧ w.cell? ⟨g, o + (i * 4 + j), none⟩ = some u := fun j u hj hu => by
    rw [← e, List.getElem?_take, if_pos hj, List.getElem?_drop] at hu
    exact hcell _ u hu
  rw [e] at h
  refine ⟨k, n, a, p, c, h, hr, (hu 0 _ (by decide) rfl).1, (hu 0 _ (by decide) rfl).2, ?_, ?_, ?_⟩
  · have := (hu 1 _ (by decide) rfl).2; rw [← Nat.add_assoc] at this; exact this
  · have := (hu 2 _ (by decide) rfl).2; rw [← Nat.add_assoc] at this; exact this
  · have := (hu 3 _ (by decide) rfl).2; rw [← Nat.add_assoc] at this; exact this
theorem partc_lt {r q : CT} (h : q ∈ r.parts) : SizeOf.sizeOf q < SizeOf.sizeOf r := by
  cases r with
  | node k n s ps =>
    have := List.sizeOf_lt_of_mem (show q ∈ ps from h)
    simp only [CT.node.sizeOf_spec]
    omega
theorem sizeL_take {ps : List CT} {j : Nat} {q : CT} (h : ps[j]? = some q) : sizeLc (ps.take (j + 1)) = sizeLc (ps.take j) + q.size := by
  rw [List.take_add_one, h, sizeL_app]
  show _ + sizeLc [q] = _
  rw [sizeL_cons, sizeL_nil, Nat.add_zero]
theorem sizeL_le {ps : List CT} (j : Nat) : sizeLc (ps.take j) ≤ sizeLc ps := by
  have h := sizeL_app (ps.take j) (ps.drop j)
  rw [List.take_append_drop] at h
  omega
theorem size_node (r : CT) : r.size = 1 + sizeLc r.parts := by cases r; rw [size_eq]; rfl
end Go.Proofs.YtdfgbkilaepolaaGreatDoor
