/- Walk: conditions: a part is put behind the others. -/
import Derived.Test.YtfhdecdlkmibmaaDoorCAs
namespace Go.Proofs.YtfhdecdlkmibmaaDoor
open Go.RowKit
attribute [local go_sem ↓] dapp_op
def PutPost (O B : Nat) (kind : Int) (w : World) (ps : List CT) (e : Ending) (w' : World) : Prop :=
  e = .returned (.tuple #[]) ∧ ∃ p c cs, Blk w' O 25 #[.int .i64 kind, .int .i64 0, .string ⟨#[]⟩, .slice p ps.length c] ∧ Own O B w' (.slice p ps.length c) ps cs ∧ Keeps (fun j => B ≤ j) w w'
set_option maxHeartbeats 2000000 in
theorem put_calls {w : World} {O B K : Nat} {kind : Int} {p : Option Addr} {c : Nat} {acc : List CT} {cs cc : List Value} {x : CT} (hBO : B ≤ O) (hK : Blk w K 3 #[.int .i64 kind]) (hO : Blk w O 25 #[.int .i64 kind, .int .i64 0, .string ⟨#[]⟩, .slice p acc.length c]) (hown : Own O B w (.slice p acc.length c) acc cs)
    (hx : CAt (fun j => B ≤ j ∧ j ≠ O ∧ (Value.slice p acc.length c).ownBlock ≠ some j) w cc x) (hn : acc.length + (flatC kind x).length ≤ 100000) :
    Calls Tryd.prog 31 #[.agg cc.toArray, .pointer (some ⟨K, 0, none⟩), .pointer (some ⟨O, 0, none⟩)] w (PutPost O B kind w (acc ++ flatC kind x)) := by
  have hOl := hO.lt
  have hKl := hK.lt
  have hBw : B ≤ w.heap.size := by omega
  obtain ⟨Q, pp, nn, c2, rfl⟩ := hx.open_
  obtain ⟨ds, hrow, _, hps, _⟩ := hx.parts_
  obtain ⟨w1, e1⟩ : ∃ w1, w.alloc (.cells #[.int .i64 x.kind, .int .i64 x.num, .string Q, .slice pp nn c2] 25) = w1 := ⟨_, rfl⟩
  have k1 := (Keeps.refl (fun _ => False) w).alloc (.cells #[.int .i64 x.kind, .int .i64 x.num, .string Q, .slice pp nn c2] 25)
  have hX1 := Blk.new w 25 #[.int .i64 x.kind, .int .i64 x.num, .string Q, .slice pp nn c2]
  have hz1 := alloc_size w (.cells #[.int .i64 x.kind, .int .i64 x.num, .string Q, .slice pp nn c2] 25)
  rw [e1] at k1 hX1 hz1
  have hK1 := hK.keeps k1 id
  have hO1 := hO.keeps k1 id
  have hown1 := Lib.hid (hown.keeps k1 fun _ _ _ _ => id)
  have hrow1 := Lib.hid (hrow.keeps k1 fun _ _ => id)
  have hps1 := Lib.hid (hps.keeps k1 fun _ _ _ => id)
  have hx1 := Lib.hid (hx.keeps k1 fun _ _ _ => id)
  have k1' := Lib.hid (Keeps.mono (T := fun j => B ≤ j) k1 fun _ _ e => e.elim)
  have c0 := Blk.cell hK1
  have cK := Blk.frozen hK1
  have o0 := Blk.cell hO1
  have oF := Blk.frozen hO1
  have x0 := Blk.cell hX1
  have xF := Blk.frozen hX1
  have hO1' := Lib.hid hO1
  have hX1' := Lib.hid hX1
  have hz1' := Lib.hid hz1
  clear hK hO hown hx hrow hps k1 hK1 hO1 hX1 hz1
  by_cases hk : x.kind = kind
  · have hfl : flatC kind x = x.parts := by unfold flatC; rw [if_pos hk]
    rw [hfl] at hn ⊢
    obtain ⟨p9, c9, w9, e9, own9, k9⟩ := hown1.out.app (by rw [hz1'.out]; omega) (by rw [hz1'.out]; omega) hrow1.out hps1.out (by omega)
    have hO9 := hO1'.out.keeps k9 (fun e => hown1.out.ne e.2.2)
    have o9 := Blk.cell hO9
    have of9 := Blk.frozen hO9
    have own9' := Lib.hid own9
    have k9' := Lib.hid k9
    have hO9' := Lib.hid hO9
    have hk2 : (x.kind == kind) = true := by rw [hk]; exact beq_self_eq_true _
    have hk' := Lib.hid hk
    clear own9 k9 hO9 hk hfl
    go_enter Tryd.func31, Tryd.ntmps31
    go_wp2_with fail
    go_end0
    refine ⟨rfl, p9, c9, _, by rw [List.length_append]; exact hO9'.out.set_ 3 _, own9'.out.keeps ((Keeps.refl (fun j => j = O) w9).setCell (p := ⟨O, 3, none⟩) (.inl rfl) _) (fun j _ hj _ e => hj e), ?_⟩
    exact ((k1'.out.trans (k9'.out.mono fun j _ hj => hj.1)).setCell (p := ⟨O, 3, none⟩) (.inl hBO) _)
  · have hfl : flatC kind x = [x] := by unfold flatC; rw [if_neg hk]
    rw [hfl] at hn ⊢
    have hk2 : (x.kind == kind) = false := beq_false_of_ne hk
    have hk' := Lib.hid hk
    clear hk hfl
    have kz := ((Keeps.refl (fun _ => False) w1).alloc (.cells #[.int .i64 0, .int .i64 0, .string ⟨#[]⟩, .slice none 0 0] 25)).drew
    have hZ : Blk (w1.alloc (.cells #[.int .i64 0, .int .i64 0, .string ⟨#[]⟩, .slice none 0 0] 25)).drew w1.heap.size 25 #[.int .i64 0, .int .i64 0, .string ⟨#[]⟩, .slice none 0 0] := (Blk.new w1 25 #[.int .i64 0, .int .i64 0, .string ⟨#[]⟩, .slice none 0 0]).drew
    have hzz : (w1.alloc (.cells #[.int .i64 0, .int .i64 0, .string ⟨#[]⟩, .slice none 0 0] 25)).drew.heap.size = w1.heap.size + 1 := alloc_size w1 _
    obtain ⟨p9, c9, w9, e9, own9, k9, hob⟩ := (hown1.out.keeps kz fun _ _ _ _ => id).app_ (u := .slice (some ⟨w1.heap.size, 0, none⟩) 1 1) (qs := [leaf 0 0 []]) (by rw [hzz, hz1'.out]; omega) (by rw [hzz, hz1'.out]; omega) (.inr ⟨_, _, _, rfl, Nat.le_refl _, hZ, fun i u hi => by simpa [strV] using hi⟩) (CAt.leaf _ _ 0 0 []).one (by show acc.length + 1 ≤ _; have hn' : acc.length + 1 ≤ 100000 := hn; omega)
    obtain ⟨q, c9', hv, hc9, hql, hcell⟩ := (RowAt.of_own own9.row).cell (by simp)
    obtain ⟨rfl, rfl⟩ : p9 = some ⟨q, 0, none⟩ ∧ c9 = c9' := by injection hv with h1 h2 h3; exact ⟨h1, h3⟩
    obtain ⟨cur, hq9⟩ := own_blk own9.row q rfl
    have qF := Blk.frozen hq9
    have hlen := hown1.out.parts.len
    have q0 : w9.cell? ⟨q, acc.length * 4, none⟩ = some (.int .i64 0) := hcell (acc.length * 4) _ (by rw [List.getElem?_append_right (by omega)]; simp [hlen, strV])
    have q1 : w9.cell? ⟨q, acc.length * 4 + 1, none⟩ = some (.int .i64 0) := hcell (acc.length * 4 + 1) _ (by rw [List.getElem?_append_right (by omega)]; simp [hlen, strV])
    have q2 : w9.cell? ⟨q, acc.length * 4 + 2, none⟩ = some (.string ⟨#[]⟩) := hcell (acc.length * 4 + 2) _ (by rw [List.getElem?_append_right (by omega)]; simp [hlen, strV])
    have q3 : w9.cell? ⟨q, acc.length * 4 + 3, none⟩ = some (.slice none 0 0) := hcell (acc.length * 4 + 3) _ (by rw [List.getElem?_append_right (by omega)]; simp [hlen, strV])
    have hO9 := (hO1'.out.keeps kz id).keeps k9 (fun e => hown1.out.ne e.2.2)
    have o9 := Blk.cell hO9
    have of9 := Blk.frozen hO9
    have xz := Blk.cell (hX1'.out.keeps kz id)
    have oz := Blk.cell (hO1'.out.keeps kz id)
    have hqO : q ≠ O := fun e => own9.ne (by rw [e]; rfl)
    have hOq : O ≠ q := Ne.symm hqO
    have hidx : (acc.length : Int) < (acc.length : Int) + 1 := by omega
    have own9' := Lib.hid own9
    have hob' := Lib.hid hob
    have k9' := Lib.hid k9
    have hO9' := Lib.hid hO9
    have kz' := Lib.hid kz
    have hq9' := Lib.hid hq9
    have hlen' := Lib.hid hlen
    have hzz' := Lib.hid hzz
    have hcell' := Lib.hid hcell
    clear own9 hob k9 hO9 kz hq9 hlen hzz hcell hv hZ hc9
    go_enter Tryd.func31, Tryd.ntmps31
    go_wp2_with fail
    go_region
    · skip
      go_end0
      have hsW : Hid (Blk w9 q 25 cur) := hq9'
      have hx9 := (hx1.out.keeps kz'.out fun _ _ _ => id).keeps k9'.out fun j hj _ e => hj.2.2 e.2.2
      have hx9' : CAt (fun j => B ≤ j ∧ j ≠ O ∧ j ≠ q) w9 [.int .i64 x.kind, .int .i64 x.num, .string Q, .slice pp nn c2] x := by
        have hxw := (hx1.out.mono (Q := fun j => (B ≤ j ∧ j ≠ O ∧ (Value.slice p acc.length c).ownBlock ≠ some j) ∧ j < w1.heap.size) fun j hj hl => ⟨hj, hl⟩)
        refine (((hxw.keeps kz'.out fun _ _ _ => id).keeps k9'.out fun j hj _ e => hj.1.2.2 e.2.2).mono fun j hj _ => ⟨hj.1.1, hj.1.2.1, ?_⟩)
        rintro rfl
        rcases hob'.out with e | e
        · exact hj.1.2.2 e.symm
        · have := Option.some.inj e
          have h2 := hzz'.out
          have h3 : (⟨j, 0, none⟩ : Addr).block = j := rfl
          omega
      refine ⟨rfl, some ⟨q, 0, none⟩, c9, cs ++ [.int .i64 x.kind, .int .i64 x.num, .string Q, .slice pp nn c2], ?_, Own.put (z := leaf 0 0 []) own9'.out rfl hlen'.out hq9'.out ?_ ?_ (hx9'.keeps (S := fun j => j = q ∨ j = O) ?_ fun j hj _ e => by rcases e with e | e; exact hj.2.2 e; exact hj.2.1 e), ?_⟩
      · rw [List.length_append]
        exact (((((hO9'.out.far (p := ⟨q, acc.length * 4, none⟩) hOq _).far (p := ⟨q, acc.length * 4 + 1, none⟩) hOq _).far (p := ⟨q, acc.length * 4 + 2, none⟩) hOq _).far (p := ⟨q, acc.length * 4 + 3, none⟩) hOq _).set_ 3 _)
      · exact (((((hq9'.out.set_ _ _).set_ _ _).set_ _ _).set_ _ _).far (p := ⟨O, 3, none⟩) hqO _)
      · exact ((((((Keeps.refl (fun j => j = q ∨ j = O) w9).setCell (p := ⟨q, acc.length * 4, none⟩) (.inl (.inl rfl)) _).setCell (p := ⟨q, acc.length * 4 + 1, none⟩) (.inl (.inl rfl)) _).setCell (p := ⟨q, acc.length * 4 + 2, none⟩) (.inl (.inl rfl)) _).setCell (p := ⟨q, acc.length * 4 + 3, none⟩) (.inl (.inl rfl)) _).setCell (p := ⟨O, 3, none⟩) (.inl (.inr rfl)) _)
      · exact ((((((Keeps.refl (fun j => j = q ∨ j = O) w9).setCell (p := ⟨q, acc.length * 4, none⟩) (.inl (.inl rfl)) _).setCell (p := ⟨q, acc.length * 4 + 1, none⟩) (.inl (.inl rfl)) _).setCell (p := ⟨q, acc.length * 4 + 2, none⟩) (.inl (.inl rfl)) _).setCell (p := ⟨q, acc.length * 4 + 3, none⟩) (.inl (.inl rfl)) _).setCell (p := ⟨O, 3, none⟩) (.inl (.inr rfl)) _)
      · have kk := (k1'.out.trans (kz'.out.mono fun _ _ e => e.elim)).trans (k9'.out.mono fun j _ hj => hj.1)
        have hqB := (own9'.out.row.lt q rfl).1
        exact (((((kk.setCell (p := ⟨q, acc.length * 4, none⟩) (.inl hqB) _).setCell (p := ⟨q, acc.length * 4 + 1, none⟩) (.inl hqB) _).setCell (p := ⟨q, acc.length * 4 + 2, none⟩) (.inl hqB) _).setCell (p := ⟨q, acc.length * 4 + 3, none⟩) (.inl hqB) _).setCell (p := ⟨O, 3, none⟩) (.inl hBO) _)
    · skip
      go_end0
      have hsW : Hid (Blk w9 q 25 cur) := hq9'
      have hx9 := (hx1.out.keeps kz'.out fun _ _ _ => id).keeps k9'.out fun j hj _ e => hj.2.2 e.2.2
      have hx9' : CAt (fun j => B ≤ j ∧ j ≠ O ∧ j ≠ q) w9 [.int .i64 x.kind, .int .i64 x.num, .string Q, .slice pp nn c2] x := by
        have hxw := (hx1.out.mono (Q := fun j => (B ≤ j ∧ j ≠ O ∧ (Value.slice p acc.length c).ownBlock ≠ some j) ∧ j < w1.heap.size) fun j hj hl => ⟨hj, hl⟩)
        refine (((hxw.keeps kz'.out fun _ _ _ => id).keeps k9'.out fun j hj _ e => hj.1.2.2 e.2.2).mono fun j hj _ => ⟨hj.1.1, hj.1.2.1, ?_⟩)
        rintro rfl
        rcases hob'.out with e | e
        · exact hj.1.2.2 e.symm
        · have := Option.some.inj e
          have h2 := hzz'.out
          have h3 : (⟨j, 0, none⟩ : Addr).block = j := rfl
          omega
      refine ⟨rfl, some ⟨q, 0, none⟩, c9, cs ++ [.int .i64 x.kind, .int .i64 x.num, .string Q, .slice pp nn c2], ?_, Own.put (z := leaf 0 0 []) own9'.out rfl hlen'.out hq9'.out ?_ ?_ (hx9'.keeps (S := fun j => j = q ∨ j = O) ?_ fun j hj _ e => by rcases e with e | e; exact hj.2.2 e; exact hj.2.1 e), ?_⟩
      · rw [List.length_append]
        exact (((((hO9'.out.set_ 3 _).far (p := ⟨q, acc.length * 4, none⟩) hOq _).far (p := ⟨q, acc.length * 4 + 1, none⟩) hOq _).far (p := ⟨q, acc.length * 4 + 2, none⟩) hOq _).far (p := ⟨q, acc.length * 4 + 3, none⟩) hOq _)
      · exact (((((hq9'.out.far (p := ⟨O, 3, none⟩) hqO _).set_ _ _).set_ _ _).set_ _ _).set_ _ _)
      · exact ((((((Keeps.refl (fun j => j = q ∨ j = O) w9).setCell (p := ⟨O, 3, none⟩) (.inl (.inr rfl)) _).setCell (p := ⟨q, acc.length * 4, none⟩) (.inl (.inl rfl)) _).setCell (p := ⟨q, acc.length * 4 + 1, none⟩) (.inl (.inl rfl)) _).setCell (p := ⟨q, acc.length * 4 + 2, none⟩) (.inl (.inl rfl)) _).setCell (p := ⟨q, acc.length * 4 + 3, none⟩) (.inl (.inl rfl)) _)
      · exact ((((((Keeps.refl (fun j => j = q ∨ j = O) w9).setCell (p := ⟨O, 3, none⟩) (.inl (.inr rfl)) _).setCell (p := ⟨q, acc.length * 4, none⟩) (.inl (.inl rfl)) _).setCell (p := ⟨q, acc.length * 4 + 1, none⟩) (.inl (.inl rfl)) _).setCell (p := ⟨q, acc.length * 4 + 2, none⟩) (.inl (.inl rfl)) _).setCell (p := ⟨q, acc.length * 4 + 3, none⟩) (.inl (.inl rfl)) _)
      · have kk := (k1'.out.trans (kz'.out.mono fun _ _ e => e.elim)).trans (k9'.out.mono fun j _ hj => hj.1)
        have hqB := (own9'.out.row.lt q rfl).1
        exact (((((kk.setCell (p := ⟨O, 3, none⟩) (.inl hBO) _).setCell (p := ⟨q, acc.length * 4, none⟩) (.inl hqB) _).setCell (p := ⟨q, acc.length * 4 + 1, none⟩) (.inl hqB) _).setCell (p := ⟨q, acc.length * 4 + 2, none⟩) (.inl hqB) _).setCell (p := ⟨q, acc.length * 4 + 3, none⟩) (.inl hqB) _)
end Go.Proofs.YtfhdecdlkmibmaaDoor
