/- Walks: what a book tells: subjects, points, objects. Walks: the document's Points; few. Walks: the calls whose answers are fixed. Walk: fixed. -/
import Derived.Test.YtaikedlkkjnffaaGreatDoorFW5
import Derived.WalkSpells
import Derived.Test.YtaikedlkkjnffaaGreatDoorFR2
import Derived.Test.YtaikedlkkjnffaaGreatDoorW5
import Derived.Test.YtaikedlkkjnffaaGreatDoorW14
import Derived.BigQuiet
namespace Go.Proofs.YtaikedlkkjnffaaGreatDoor
open Go.RowKit Go.Maps
attribute [local go_sem ↓] dapp_op
theorem eqlS0 (W : World) : (binOp .eql 33 (.slice none 0 0) (.slice none 0 0)).run Tryz.prog W = .ok (.bool true) W := by kernel_rfl
theorem eqlS1 (a : Addr) (n c : Nat) (W : World) : (binOp .eql 33 (.slice (some a) n c) (.slice none 0 0)).run Tryz.prog W = .ok (.bool false) W := by kernel_rfl
theorem eqlP0 (W : World) : (binOp .eql 37 (.slice none 0 0) (.slice none 0 0)).run Tryz.prog W = .ok (.bool true) W := by kernel_rfl
theorem eqlP1 (a : Addr) (n c : Nat) (W : World) : (binOp .eql 37 (.slice (some a) n c) (.slice none 0 0)).run Tryz.prog W = .ok (.bool false) W := by kernel_rfl
set_option maxHeartbeats 1000000 in
theorem cloneS_calls {B : Nat} {w : World} {p : Option Addr} {c : Nat} {l : List Tri} (h : rkS.Own B w (.slice p l.length c) l) (hl : l.length ≤ 100000) :
    Calls Tryz.prog 31 #[.slice p l.length c] w fun e w' => ∃ v, e = .returned v ∧ rkS.Own w.heap.size w' v l ∧ Below w.heap.size w w' := by
  cases p with
  | none =>
    obtain ⟨h0, rfl⟩ := h.none_cap
    obtain rfl : l = [] := List.eq_nil_of_length_eq_zero h0
    have e0 := eqlS0
    clear h
    go_enter Tryz.func31, Tryz.ntmps31
    go_wp2_with fail
    go_ret
    exact ⟨_, rfl, RowK.Own.nil _ _ _, Below.refl _ _⟩
  | some a =>
    have bE := (Below.refl w.heap.size w).alloc (Nat.le_refl _) (.cells #[] 27)
    have oE : rkS.Own w.heap.size (w.alloc (.cells #[] 27)) (.slice (some ⟨w.heap.size, 0, none⟩) 0 0) [] := World.ownsRow_lit w #[] 0 (Nat.le_refl _) (by unfold maxLen; omega) rfl
    obtain ⟨p', c', w', e1, o1, k1, b1⟩ := (RowK.can_low rkS_ok h (Nat.le_refl _) (by omega)).go bE (by simp) oE
    rw [List.nil_append, List.take_length] at o1
    rw [show ([] : List Tri).length + l.length = l.length by simp] at e1 o1
    change (dappOp #[33, 33] 33 _).run Tryz.prog _ = _ at e1
    have o1' := Lib.hid o1
    have b1' := Lib.hid b1
    obtain ⟨n, hn⟩ : ∃ n, l.length = n := ⟨_, rfl⟩
    rw [hn] at e1 o1' ⊢
    have e2 := eqlS1 a n c
    clear h o1 b1 k1 oE bE hn hl
    go_enter Tryz.func31, Tryz.ntmps31
    go_wp2_with fail
    go_ret
    exact ⟨_, rfl, o1'.out, b1'.out⟩
set_option maxHeartbeats 1000000 in
theorem cloneP_calls {B : Nat} {w : World} {p : Option Addr} {c : Nat} {l : List Tri} (h : rkP.Own B w (.slice p l.length c) l) (hl : l.length ≤ 100000) :
    Calls Tryz.prog 32 #[.slice p l.length c] w fun e w' => ∃ v, e = .returned v ∧ rkP.Own w.heap.size w' v l ∧ Below w.heap.size w w' := by
  cases p with
  | none =>
    obtain ⟨h0, rfl⟩ := h.none_cap
    obtain rfl : l = [] := List.eq_nil_of_length_eq_zero h0
    have e0 := eqlP0
    clear h
    go_enter Tryz.func32, Tryz.ntmps32
    go_wp2_with fail
    go_ret
    exact ⟨_, rfl, RowK.Own.nil _ _ _, Below.refl _ _⟩
  | some a =>
    have bE := (Below.refl w.heap.size w).alloc (Nat.le_refl _) (.cells #[] 26)
    have oE : rkP.Own w.heap.size (w.alloc (.cells #[] 26)) (.slice (some ⟨w.heap.size, 0, none⟩) 0 0) [] := World.ownsRow_lit w #[] 0 (Nat.le_refl _) (by unfold maxLen; omega) rfl
    obtain ⟨p', c', w', e1, o1, k1, b1⟩ := (RowK.can_low rkP_ok h (Nat.le_refl _) (by omega)).go bE (by simp) oE
    rw [List.nil_append, List.take_length] at o1
    rw [show ([] : List Tri).length + l.length = l.length by simp] at e1 o1
    change (dappOp #[37, 37] 37 _).run Tryz.prog _ = _ at e1
    have o1' := Lib.hid o1
    have b1' := Lib.hid b1
    obtain ⟨n, hn⟩ : ∃ n, l.length = n := ⟨_, rfl⟩
    rw [hn] at e1 o1' ⊢
    have e2 := eqlP1 a n c
    clear h o1 b1 k1 oE bE hn hl
    go_enter Tryz.func32, Tryz.ntmps32
    go_wp2_with fail
    go_ret
    exact ⟨_, rfl, o1'.out, b1'.out⟩
section
variable {w : World} {B g bs bp bo N : Nat} {f : Value → Option Value} {SD PD : Tri → List Tri} {O : List Ob}
set_option maxHeartbeats 2000000 in
theorem bookSubs_calls (h : BookAt w B g bs bp bo N f SD PD O) (q : Tri) (hq : q.x.size ≤ maxLen ∧ q.y.size ≤ maxLen ∧ q.z.size ≤ maxLen) (hl : (SD q).length ≤ 100000) :
    Calls Tryz.prog 9 #[.pointer (some ⟨g, 0, none⟩), .agg #[.string q.x, .string q.y, .string q.z]] w fun e w' => ∃ v, e = .returned (.tuple #[v, .int .i64 0]) ∧ rkS.Own w.heap.size w' v (SD q) ∧ Below w.heap.size w w' := by
  have bA := (Below.refl w.heap.size w).alloc (Nat.le_refl _) (.cells #[.string q.x, .string q.y, .string q.z] 26)
  have X := Blk.new w 26 #[.string q.x, .string q.y, .string q.z]
  have h1 := h.below bA
  obtain ⟨b, hb⟩ : ∃ b, w.heap.size = b := ⟨_, rfl⟩
  obtain ⟨w1, e1⟩ : ∃ w1, w.alloc (.cells #[.string q.x, .string q.y, .string q.z] 26) = w1 := ⟨_, rfl⟩
  rw [e1] at bA X h1
  rw [hb] at X
  obtain ⟨v, hv, ho⟩ := (h1.below (Below.refl w1.heap.size w1).drew).subs.look lawP Tryz.underlying72 zeroRow33 (keyP q hq.1 hq.2.1 hq.2.2)
  obtain ⟨p, c, rfl⟩ := ho.slice
  have hC := Lib.hid (cloneS_calls ho hl)
  change (Instr.lookup _ _ (.agg #[.string q.x, .string q.y, .string q.z]) _).run _ _ = _ at hv
  obtain ⟨n, hn⟩ : ∃ n, (SD q).length = n := ⟨_, rfl⟩
  rw [hn] at hv hC
  have cg := h1.blk.drew.cell
  have cX := X.drew.cell
  have bA' := Lib.hid bA
  have hg' := Lib.hid (And.intro h1.blk X)
  have hb' := Lib.hid hb
  clear h h1 bA X ho hn hl hb
  go_enter Tryz.func9, Tryz.ntmps9
  go_wp2_with fail
  rw [hb'.out]
  go_region_held3 (fun w' => (∀ i, w'.cell? ⟨g, i, none⟩ = (#[.map (some bs), .map (some bp), .map (some bo)] : Array Value)[i]?) ∧ (∀ i, w'.cell? ⟨b, i, none⟩ = (#[.string q.x, .string q.y, .string q.z] : Array Value)[i]?)) (first | exact ⟨cg, cX⟩ | exact ⟨kg.out, kx.out⟩ | go_keep) ((go_at_call 31; (with_reducible refine hC.out.mono ?_); rintro e w3 ⟨v3, rfl, ho3, hb3⟩; (have kg := Lib.hid ((hg'.out.1.drew.below hb3 hg'.out.1.drew.lt).cell)); (have kx := Lib.hid ((hg'.out.2.drew.below hb3 hg'.out.2.drew.lt).cell)); (have ho3' := Lib.hid ho3); (have hb3' := Lib.hid hb3); clear ho3 hb3))
  go_wp2_with fail
  go_ret2
  exact ⟨_, rfl, ho3'.out.mono (by show w.heap.size ≤ w1.heap.size; exact bA'.out.size), bA'.out.drew.trans (hb3'.out.mono bA'.out.size)⟩
set_option maxHeartbeats 2000000 in
theorem bookPoints_calls (h : BookAt w B g bs bp bo N f SD PD O) (q : Tri) (hq : q.x.size ≤ maxLen ∧ q.y.size ≤ maxLen ∧ q.z.size ≤ maxLen) (hl : (PD q).length ≤ 100000) :
    Calls Tryz.prog 10 #[.pointer (some ⟨g, 0, none⟩), .agg #[.string q.x, .string q.y, .string q.z]] w fun e w' => ∃ v, e = .returned (.tuple #[v, .int .i64 0]) ∧ rkP.Own w.heap.size w' v (PD q) ∧ Below w.heap.size w w' := by
  have bA := (Below.refl w.heap.size w).alloc (Nat.le_refl _) (.cells #[.string q.x, .string q.y, .string q.z] 27)
  have X := Blk.new w 27 #[.string q.x, .string q.y, .string q.z]
  have h1 := h.below bA
  obtain ⟨b, hb⟩ : ∃ b, w.heap.size = b := ⟨_, rfl⟩
  obtain ⟨w1, e1⟩ : ∃ w1, w.alloc (.cells #[.string q.x, .string q.y, .string q.z] 27) = w1 := ⟨_, rfl⟩
  rw [e1] at bA X h1
  rw [hb] at X
  obtain ⟨v, hv, ho⟩ := (h1.below (Below.refl w1.heap.size w1).drew).points.look lawS Tryz.underlying73 zeroRow37 (keyS q hq.1 hq.2.1 hq.2.2)
  obtain ⟨p, c, rfl⟩ := ho.slice
  have hC := Lib.hid (cloneP_calls ho hl)
  change (Instr.lookup _ _ (.agg #[.string q.x, .string q.y, .string q.z]) _).run _ _ = _ at hv
  obtain ⟨n, hn⟩ : ∃ n, (PD q).length = n := ⟨_, rfl⟩
  rw [hn] at hv hC
  have cg := h1.blk.drew.cell
  have cX := X.drew.cell
  have bA' := Lib.hid bA
  have hg' := Lib.hid (And.intro h1.blk X)
  have hb' := Lib.hid hb
  clear h h1 bA X ho hn hl hb
  go_enter Tryz.func10, Tryz.ntmps10
  go_wp2_with fail
  rw [hb'.out]
  go_region_held3 (fun w' => (∀ i, w'.cell? ⟨g, i, none⟩ = (#[.map (some bs), .map (some bp), .map (some bo)] : Array Value)[i]?) ∧ (∀ i, w'.cell? ⟨b, i, none⟩ = (#[.string q.x, .string q.y, .string q.z] : Array Value)[i]?)) (first | exact ⟨cg, cX⟩ | exact ⟨kg.out, kx.out⟩ | go_keep) ((go_at_call 32; (with_reducible refine hC.out.mono ?_); rintro e w3 ⟨v3, rfl, ho3, hb3⟩; (have kg := Lib.hid ((hg'.out.1.drew.below hb3 hg'.out.1.drew.lt).cell)); (have kx := Lib.hid ((hg'.out.2.drew.below hb3 hg'.out.2.drew.lt).cell)); (have ho3' := Lib.hid ho3); (have hb3' := Lib.hid hb3); clear ho3 hb3))
  go_wp2_with fail
  go_ret2
  exact ⟨_, rfl, ho3'.out.mono (by show w.heap.size ≤ w1.heap.size; exact bA'.out.size), bA'.out.drew.trans (hb3'.out.mono bA'.out.size)⟩
set_option maxHeartbeats 2000000 in
theorem bookObjects_calls (h : BookAt w B g bs bp bo N f SD PD O) (hN : N ≤ 900000) (typ : ByteArray) (ht : typ.size ≤ maxLen) :
    Calls Tryz.prog 11 #[.pointer (some ⟨g, 0, none⟩), .string typ] w fun e w' => ∃ v s, e = .returned (.tuple #[v, .int .i64 0]) ∧ (SortedG cmpO s ∧ ∀ o, o ∈ s ↔ o ∈ O ∧ o.t = typ) ∧ rkO.Own w.heap.size w' v s ∧ Below w.heap.size w w' := by
  have hlk := h.objs.look ht
  have cg := h.blk.cell
  have lg := h.blk.lt
  have hO := h.objs
  obtain ⟨n, h1, h2, h3, h4, h5⟩ := hO
  cases hf : f (.string typ) with
  | none =>
    rw [hf] at hlk
    change (Instr.lookup _ _ _ _).run _ _ = .ok (.map none) _ at hlk
    have bK := (Below.refl w.heap.size w).alloc (Nat.le_refl _) (.cells #[.map none] 84)
    have hS := sortedN_calls w.heap.size (w.alloc (.cells #[.map none] 84)) (by simp) ((Blk.new w 84 #[.map none]).cell 0)
    have hS' := Lib.hid hS
    have bK' := Lib.hid bK
    have hno := Lib.hid (h3 typ hf)
    clear h h1 h2 h3 h4 h5 hf hS bK
    go_enter Tryz.func11, Tryz.ntmps11
    go_wp2_with fail
    refine (keysO_calls none w).mono ?_
    rintro e w1 ⟨rfl, hw1⟩
    rw [hw1] at hS' bK'
    clear hw1
    go_wp2_with fail
    refine hS'.out.mono ?_
    rintro e w2 ⟨v, s, rfl, hs, ho, hb⟩
    have hs' := Lib.hid hs
    have ho' := Lib.hid ho
    have hb' := Lib.hid hb
    clear hs ho hb hlk cg lg
    go_wp2_with fail
    go_ret2
    refine ⟨_, s, rfl, ⟨hs'.out.1, fun o => ⟨fun h => ?_, fun h => absurd h.2 (hno.out o h.1)⟩⟩, ho'.out.mono bK'.out.size, bK'.out.trans (hb'.out.mono bK'.out.size)⟩
    have := (hs'.out.2 o).1 h
    cases this
  | some v =>
    obtain ⟨bi, m, fi, rfl, hlt, hm, hmN, hd⟩ := h4 _ _ hf
    rw [hf] at hlk
    change (Instr.lookup _ _ _ _).run _ _ = .ok (.map (some bi)) _ at hlk
    have bK := (Below.refl w.heap.size w).alloc (Nat.le_refl _) (.cells #[.map (some bi)] 84)
    have hS := sortedM_calls w.heap.size bi m (by omega) fi (O.filter fun o => decide (o.t = typ)) (fun kv => by
      rw [hd kv]
      constructor
      · rintro ⟨o, ho, e1, e2⟩; exact ⟨o, List.mem_filter.2 ⟨ho, by simpa using e1⟩, e2⟩
      · rintro ⟨o, ho, e2⟩
        obtain ⟨h6, h7⟩ := List.mem_filter.1 ho
        exact ⟨o, h6, by simpa using h7, e2⟩) (w.alloc (.cells #[.map (some bi)] 84)) (by simp) ((Blk.new w 84 #[.map (some bi)]).cell 0) (hm.later bK)
    have hS' := Lib.hid hS
    have bK' := Lib.hid bK
    clear h h1 h2 h3 h4 h5 hf hm hd hmN hlt hS bK
    go_enter Tryz.func11, Tryz.ntmps11
    go_wp2_with fail
    refine (keysO_calls (some bi) w).mono ?_
    rintro e w1 ⟨rfl, hw1⟩
    rw [hw1] at hS' bK'
    clear hw1
    go_wp2_with fail
    refine hS'.out.mono ?_
    rintro e w2 ⟨v, s, rfl, hs, ho, hb⟩
    have hs' := Lib.hid hs
    have ho' := Lib.hid ho
    have hb' := Lib.hid hb
    clear hs ho hb hlk cg lg
    go_wp2_with fail
    go_ret2
    refine ⟨_, s, rfl, ⟨hs'.out.1, fun o => by rw [hs'.out.2 o, List.mem_filter]; simp⟩, ho'.out.mono bK'.out.size, bK'.out.trans (hb'.out.mono bK'.out.size)⟩
end
end Go.Proofs.YtaikedlkkjnffaaGreatDoor
namespace Go.Proofs.YtaikedlkkjnffaaGreatDoor
open Go.RowKit
attribute [local go_sem ↓] eql_sub
attribute [local go_sem ↓] dapp_op
set_option maxHeartbeats 4000000 in
set_option maxRecDepth 100000 in
theorem refPoints_calls (l : List Tup) (a : Option Addr) (c : Nat) (q : Tri) (w : World) (hl : l.length ≤ 1000) (hT : holdsT w a l) :
    Calls Tryz.prog 15 #[.slice a l.length c, .agg #[.string q.x, .string q.y, .string q.z]] w fun e w' => ∃ v, e = .returned v ∧ rkP.Own w.heap.size w' v (pointsD l q) ∧ Below w.heap.size w w' := by
  obtain ⟨n, hN⟩ : ∃ n, l.length = n := ⟨_, rfl⟩
  rw [hN] at hl ⊢
  have hN' := Lib.hid hN
  have hT' := Lib.hid hT
  have B0 := (Below.refl w.heap.size w).alloc (Nat.le_refl _) (.cells #[.string q.x, .string q.y, .string q.z] 27)
  have Q0 := Blk.new w 27 #[.string q.x, .string q.y, .string q.z]
  have B0' := Lib.hid B0
  have Q0' := Lib.hid Q0
  clear hN hT B0 Q0
  go_enter Tryz.func15, Tryz.ntmps15
  go_wp2_with fail
  go_loopw [5, 10] (fun v i wr => ∃ k : Nat, k ≤ n ∧ i = .int .i64 k ∧ rkP.Own w.heap.size wr v (pointsD (l.take k) q) ∧ Blk wr w.heap.size 27 #[.string q.x, .string q.y, .string q.z] ∧ Below w.heap.size w wr) (fun _ i _ => n - (intOf i).toNat)
  case atStart => exact ⟨0, Nat.zero_le _, rfl, RowK.Own.nil _ _ _, Q0'.out, B0'.out⟩
  case round =>
    obtain ⟨k, hk, rfl, hS, hQ, hB⟩ := hrel
    obtain ⟨ps, cs, rfl⟩ := hS.slice
    by_cases hlt : k < n
    · obtain ⟨t, ht⟩ : ∃ t, l[k]? = some t := ⟨_, List.getElem?_eq_getElem (by rw [hN'.out]; exact hlt)⟩
      obtain ⟨a1, b1, rfl, ha, hbl, x0, x1, x2, x3, x4, x5⟩ := (hT'.out.below hB) k t ht
      have A5 := (Below.refl wr.heap.size wr).alloc (Nat.le_refl _) (.cells #[.string t.a, .string t.b, .string t.c, .string t.d, .string t.e, .string t.f] 60)
      have hz5 := hB.size
      have S5 := hS.later A5
      have Q5 := hQ.below A5 hQ.lt
      have B5 := hB.trans (A5.mono hz5)
      have hxt := Blk.new wr 60 #[.string t.a, .string t.b, .string t.c, .string t.d, .string t.e, .string t.f]
      have hlen := pointsD_len (l.take k) q
      rw [List.length_take] at hlen
      have hqc := Q5.cell
      have hxc := hxt.cell
      obtain ⟨M, hM⟩ : ∃ M, (pointsD (l.take k) q).length = M := ⟨_, rfl⟩
      rw [hM] at hS S5 hlen ⊢
      by_cases hpt : t.sb = q
      · have hst := Lib.hid ((congrArg (pointsD · q) (take_snocT ht)).trans (pointsD_yes hpt))
        have A6 := (Below.refl (wr.alloc (.cells #[.string t.a, .string t.b, .string t.c, .string t.d, .string t.e, .string t.f] 60)).heap.size _).alloc (Nat.le_refl _) (.cells #[.string t.a, .string t.b, .string t.c] 26)
        have S6a := S5.later A6
        have Q6 := Q5.below A6 Q5.lt
        have B6 := B5.alloc (by simp; omega) (.cells #[.string t.a, .string t.b, .string t.c] 26)
        have hsz6 : w.heap.size ≤ ((wr.alloc (.cells #[.string t.a, .string t.b, .string t.c, .string t.d, .string t.e, .string t.f] 60)).alloc (.cells #[.string t.a, .string t.b, .string t.c] 26)).heap.size := by simp; omega
        obtain ⟨p6, c6, w6, e6, S6, K6, _⟩ := S6a.app rkP_ok (t := t.pt) hsz6 (g := (wr.alloc (.cells #[.string t.a, .string t.b, .string t.c, .string t.d, .string t.e, .string t.f] 60)).heap.size) (fun j u hj => by rw [(Blk.new _ 26 #[.string t.a, .string t.b, .string t.c]).cell]; simpa [rkP, triL, Tup.pt] using hj) (by rw [hM]; omega)
        have hown : (Value.slice ps M cs).ownBlock ≠ some w.heap.size := fun e => RowK.Own.blk_ne (r := rkP) S6a Q6 (by decide) e
        have Q7 := Lib.hid (Q6.keeps K6 fun e => hown e)
        have hlow := fun j (e : (Value.slice ps M cs).ownBlock = some j) => (S6a.lt j e).1
        have B7 := Lib.hid (Keeps.below_step B6 hsz6 K6 hlow)
        rw [← hst.out] at S6
        have S7 := Lib.hid S6
        rw [hM, World.size_alloc] at e6
        have e7 : (dappOp #[37, 37] 37 #[.slice ps M cs, .slice (some ⟨wr.heap.size + 1, 0, none⟩) 1 1]).run Tryz.prog ((wr.alloc (.cells #[.string t.a, .string t.b, .string t.c, .string t.d, .string t.e, .string t.f] 60)).alloc (.cells #[.string t.a, .string t.b, .string t.c] 26)) = .ok (.slice p6 (M + 1) c6) w6 := e6
        have hs3 : same3 t.d t.e t.f q.x q.y q.z = true := by
          rw [← hpt]; exact same3_self _ _ _
        rw [hM] at S7
        clear hst A6 S6a Q6 B6 hsz6 S6 K6 hown hlow e6 hS hQ hB A5 S5 Q5 B5 hxt ht hpt
        go_wp2_with fail
        go_roundw
        case rel => exact ⟨k + 1, by omega, by go_num, S7.out, Q7.out, B7.out⟩
        case measure => simp [intOf]; omega
      · have hst := Lib.hid ((congrArg (pointsD · q) (take_snocT ht)).trans (pointsD_no hpt))
        have S5' := Lib.hid S5
        have Q5' := Lib.hid Q5
        have B5' := Lib.hid B5
        have hpt' := Lib.hid hpt
        clear hS hQ hB A5 S5 Q5 B5 hxt ht hpt
        have hs3 : same3 t.d t.e t.f q.x q.y q.z = false := Tri.same_no (p := t.sb) (q := q) hpt'.out
        clear hpt'
        go_wp2_with fail
        go_roundw
        case rel => exact ⟨k + 1, by omega, by go_num, by rw [hst.out]; exact S5'.out, Q5'.out, B5'.out⟩
        case measure => simp [intOf]; omega
    · obtain rfl : k = n := by omega
      rw [List.take_of_length_le (by rw [hN'.out]; exact Nat.le_refl _)] at hS ⊢
      go_wp2_with fail
      go_ret
      exact ⟨_, rfl, hS, hB⟩
def FewPost (n : Nat) (w : World) (e : Ending) (w' : World) : Prop := (∃ b, e = .returned (.bool b) ∧ (b = true → n ≤ 60)) ∧ Below w.heap.size w w'
set_option maxHeartbeats 2000000 in
set_option maxRecDepth 100000 in
theorem few_calls (l : List Tup) (p : Option Addr) (c : Nat) (w : World) (hl : l.length ≤ maxLen) (hT : holdsT w p l) (hf : ∀ t ∈ l, t.fits) :
    Calls Tryz.prog 6 #[.slice p l.length c] w (FewPost l.length w) := by
  unfold maxLen at hl
  obtain ⟨n, hN⟩ : ∃ n, l.length = n := ⟨_, rfl⟩
  rw [hN] at hl ⊢
  have hN' := Lib.hid hN
  have hT' := Lib.hid hT
  have hf' := Lib.hid hf
  clear hN hT hf
  go_enter Tryz.func6, Tryz.ntmps6
  go_wp2_with fail
  go_loopw [9] (fun i wr => ∃ k : Nat, k ≤ n ∧ i = .int .i64 k ∧ Below w.heap.size w wr) (fun i _ => n - (intOf i).toNat)
  case atStart => exact ⟨0, Nat.zero_le _, rfl, Below.refl _ _⟩
  case round =>
    obtain ⟨k, hk, rfl, hB⟩ := hrel
    by_cases hlt : k < n
    · obtain ⟨t, ht⟩ : ∃ t, l[k]? = some t := ⟨_, List.getElem?_eq_getElem (by rw [hN'.out]; exact hlt)⟩
      obtain ⟨a1, b1, rfl, ha, hbl, x0, x1, x2, x3, x4, x5⟩ := (hT'.out.below hB) k t ht
      have htf := hf'.out t (List.mem_of_getElem? ht)
      have A5 := (Below.refl wr.heap.size wr).alloc (Nat.le_refl _) (.cells #[.string t.a, .string t.b, .string t.c, .string t.d, .string t.e, .string t.f] 60)
      have hxc := (Blk.new wr 60 #[.string t.a, .string t.b, .string t.c, .string t.d, .string t.e, .string t.f]).cell
      have hz5 := hB.size
      have B5 := Lib.hid (hB.trans (A5.mono hz5))
      have hP := Lib.hid (parts_below t (wr.alloc (.cells #[.string t.a, .string t.b, .string t.c, .string t.d, .string t.e, .string t.f] 60)))
      clear hB A5 ht
      go_wp2_with fail
      refine hP.out.mono ?_
      rintro e w6 ⟨g, rfl, hg, hgz, hb6⟩
      have B6 := Lib.hid (B5.out.trans (hb6.mono (by simp; omega)))
      have hg' := Lib.hid hg
      have hgl := hg.lt
      clear hg hb6 B5 hP x0 x1 x2 x3 x4 x5 hxc hgz
      go_wp2_with fail
      obtain ⟨wo, rfl⟩ : ∃ wo : World, wo = wr := ⟨_, rfl⟩
      go_loopw [16] (fun i wx => ∃ q : Nat, q ≤ 6 ∧ i = .int .i64 q ∧ wx = w6) (fun i _ => 6 - (intOf i).toNat)
      case atStart => exact ⟨0, by omega, rfl, rfl⟩
      case round =>
        obtain ⟨q, hq, rfl, rfl⟩ := hrel
        by_cases hq6 : q < 6
        · have hc : wr.cell? ⟨g, q, none⟩ = some (.string (t.part q)) := (hg'.out.cell q).trans (cells_part t q hq6)
          have hps := htf (t.part q) (t.part_mem q hq6)
          unfold maxLen at hps
          have hq7 : (q : Int) < 6 := by omega
          by_cases hbig : ((t.part q).size : Int) ≤ 100
          · go_wp2_with fail
            go_roundw
            case rel => exact ⟨q + 1, by omega, by go_num, trivial⟩
            case measure => simp [intOf]; omega
          · have hbig2 : (100 : Int) < ((t.part q).size : Int) := by omega
            go_wp2_with fail
            go_ret
            exact ⟨⟨false, rfl, fun h => by cases h⟩, B6.out⟩
        · obtain rfl : q = 6 := by omega
          go_wp2_with fail
          go_roundw
          case rel => exact ⟨k + 1, by omega, by go_num, B6.out⟩
          case measure => simp [intOf]; omega
    · obtain rfl : k = n := by omega
      by_cases h60 : k ≤ 60
      · have h6 : decide ((k : Int) ≤ 60) = true := by simp; omega
        go_wp2_with fail
        go_ret
        exact ⟨⟨true, rfl, fun _ => h60⟩, hB⟩
      · have h6 : decide ((k : Int) ≤ 60) = false := by simp; omega
        go_wp2_with fail
        go_ret
        exact ⟨⟨false, rfl, fun h => by cases h⟩, hB⟩
end Go.Proofs.YtaikedlkkjnffaaGreatDoor
namespace Go.Proofs.YtaikedlkkjnffaaGreatDoor
open Go.RowKit Go.Maps
attribute [local go_sem ↓] eql_sub
def tup1 : Tup := ⟨⟨#[100, 111, 99]⟩, ⟨#[49]⟩, ⟨#[118, 105, 101, 119, 101, 114]⟩, ⟨#[117, 115, 101, 114]⟩, ⟨#[50]⟩, ⟨#[]⟩⟩
theorem tup1_ok : tup1.ok = true := by decide +kernel
theorem tup1_fits : tup1.fits := by
  intro p hp
  have : p.size ≤ 32 := by simp [Tup.l, tup1] at hp; rcases hp with rfl | rfl | rfl | rfl | rfl | rfl <;> decide
  unfold maxLen; omega
theorem tup1_subs : subsD (setT [tup1, tup1]) tup1.pt = [tup1.sb] := by decide +kernel
set_option maxHeartbeats 1000000 in
theorem one_calls (w : World) :
    Calls Tryz.prog 20 #[] w fun e w' => e = .returned tup1.v ∧ Below w.heap.size w w' := by
  go_enter Tryz.func20, Tryz.ntmps20
  go_wp2_with fail
  refine bodyPost_ret (v := tup1.v) (by simp [results, Tryz.results20, go_sem, Tup.v, tup1]) rfl ⟨rfl, ?_⟩
  exact (Below.refl _ _).alloc (Nat.le_refl _) _
theorem at_calls (w : World) :
    Calls Tryz.prog 21 #[.pointer none, .int .u64 0] w fun e w' => e = .returned (.agg #[.pointer none, .int .u64 0]) ∧ Below w.heap.size w w' := by
  go_enter Tryz.func21, Tryz.ntmps21
  go_wp2_with fail
  refine bodyPost_ret (v := .agg #[.pointer none, .int .u64 0]) (by simp [results, Tryz.results21, go_sem]) rfl ⟨rfl, ?_⟩
  exact (Below.refl _ _).alloc (Nat.le_refl _) _
theorem within_calls (r : Nat) (w : World) :
    Calls Tryz.prog 61 #[.pointer none, .int .u64 r] w fun e w' => e = .returned (.bool false) ∧ w = w' := by
  go_enter Tryz.func61, Tryz.ntmps61
  go_wp2_with fail
  go_ret
  exact ⟨rfl, rfl⟩
theorem getN_calls (s : ByteArray) (r : Nat) (w : World) :
    Calls Tryz.prog 43 #[.pointer none, .string s, .int .u64 r] w fun e w' => e = .returned (.tuple #[.bool false, .int .i64 12]) ∧ w = w' := by
  have hW := fun w => within_calls r w
  go_enter Tryz.func43, Tryz.ntmps43
  go_wp2_with fail
  refine (hW _).mono ?_
  rintro e w1 ⟨rfl, rfl⟩
  go_wp2_with fail
  go_ret2
  exact ⟨rfl, rfl⟩
set_option maxHeartbeats 2000000 in
theorem has_calls (t : Tup) (w : World) (ht : t.fits) (hc : t.ok = true) :
    Calls Tryz.prog 22 #[.agg #[.pointer none, .int .u64 0], t.v] w fun e w' => e = .returned (.tuple #[.bool false, .int .i64 12]) ∧ Below w.heap.size w w' := by
  have hK := Lib.hid (fun w => keys_yes t w ht hc)
  have hG := Lib.hid (fun s w => getN_calls s 0 w)
  have X := Blk.new w 67 #[.pointer none, .int .u64 0]
  have B1 := (Below.refl w.heap.size w).alloc (Nat.le_refl _) (.cells #[.pointer none, .int .u64 0] 67)
  have X2 := X.below ((Below.refl _ _).alloc (Nat.le_refl _) (.cells #[.string t.a, .string t.b, .string t.c, .string t.d, .string t.e, .string t.f] 60)) X.lt
  have B2 := B1.alloc (by simp) (.cells #[.string t.a, .string t.b, .string t.c, .string t.d, .string t.e, .string t.f] 60)
  unfold Tup.v at hK ⊢
  have X2' := Lib.hid X2
  have B2' := Lib.hid B2
  clear X B1 X2 B2 ht hc
  go_enter Tryz.func22, Tryz.ntmps22
  go_wp2_with fail
  refine (hK.out _).mono ?_
  rintro e w1 ⟨g, rfl, hg, hgz, hb1⟩
  have X3 := X2'.out.below hb1 X2'.out.lt
  have B3 := Lib.hid (B2'.out.trans (hb1.mono (by simp; omega)))
  have cX := X3.cell
  have cg := hg.cell
  clear hb1 X2' B2' hg hgz X3
  go_wp2_with fail
  go_quiet ((go_at_call 43; exact Calls.quiet_of_same ((hG.out _ _).mono fun _ _ h => ⟨h.1, h.2.symm⟩)))
  go_wp2_with fail
  go_ret2
  exact ⟨rfl, bdrewN B3.out nq⟩
theorem holds_lit (w : World) (t u : Tup) : holdsT (w.alloc (.cells #[.string t.a, .string t.b, .string t.c, .string t.d, .string t.e, .string t.f, .string u.a, .string u.b, .string u.c, .string u.d, .string u.e, .string u.f] 60)) (some ⟨w.heap.size, 0, none⟩) [t, u] := by
  have hc := (Blk.new w 60 #[.string t.a, .string t.b, .string t.c, .string t.d, .string t.e, .string t.f, .string u.a, .string u.b, .string u.c, .string u.d, .string u.e, .string u.f]).cell
  intro k x hx
  rcases k with _ | _ | k
  · obtain rfl : t = x := by simpa using hx
    exact ⟨_, _, rfl, rfl, by simp [Addr.add], hc 0, hc 1, hc 2, hc 3, hc 4, hc 5⟩
  · obtain rfl : u = x := by simpa using hx
    exact ⟨_, _, rfl, rfl, by simp [Addr.add], hc 6, hc 7, hc 8, hc 9, hc 10, hc 11⟩
  · simp at hx
end Go.Proofs.YtaikedlkkjnffaaGreatDoor
namespace Go.Proofs.YtaikedlkkjnffaaGreatDoor
open Go.RowKit Go.Maps
attribute [local go_sem ↓] eql_sub
theorem field_obj (a b c d e f : ByteArray) (w : World) : (Instr.field 60 (.agg #[.string a, .string b, .string c, .string d, .string e, .string f]) 0).run Tryz.prog w = .ok (.agg #[.string a, .string b]) w := by kernel_rfl
theorem field_sub (a b c d e f : ByteArray) (w : World) : (Instr.field 60 (.agg #[.string a, .string b, .string c, .string d, .string e, .string f]) 2).run Tryz.prog w = .ok (.agg #[.string d, .string e, .string f]) w := by kernel_rfl
attribute [local go_sem ↓] field_obj field_sub
set_option maxHeartbeats 4000000 in
set_option maxRecDepth 100000 in
theorem fixed_calls (w : World) :
    Calls Tryz.prog 5 #[] w fun e w' => e = .returned (.bool true) ∧ Below w.heap.size w w' := by
  have hO := Lib.hid (fun w => one_calls w)
  have hA := Lib.hid (fun w => at_calls w)
  have hH := Lib.hid (fun w => has_calls tup1 w tup1_fits tup1_ok)
  have hN := Lib.hid (fun (w : World) p c hT => newBook_calls [tup1, tup1] p c w (by simp) hT (by intro t ht; simp at ht; rw [ht]; exact tup1_fits))
  unfold Tup.v at hO hH
  go_enter Tryz.func5, Tryz.ntmps5
  go_wp2_with fail
  refine (hO.out _).mono ?_
  rintro e w1 ⟨rfl, B1⟩
  go_wp2_with fail
  refine (hO.out _).mono ?_
  rintro e w2 ⟨rfl, hb2⟩
  have B2 := B1.trans (hb2.mono B1.size)
  clear hb2 B1
  have hT := Lib.hid (holds_lit w2 tup1 tup1)
  have B3 := Lib.hid (B2.alloc B2.size (.cells #[.string tup1.a, .string tup1.b, .string tup1.c, .string tup1.d, .string tup1.e, .string tup1.f, .string tup1.a, .string tup1.b, .string tup1.c, .string tup1.d, .string tup1.e, .string tup1.f] 60))
  clear B2
  go_wp2_with fail
  refine (hN.out _ _ _ hT.out).mono ?_
  rintro e w3 ⟨g, bs, bp, bo, N, f, rfl, hbk, hN1, hb3⟩
  have B4 := B3.out.trans (hb3.mono (by simpa using B3.out.size))
  have hbk' := Lib.hid hbk
  have B4' := Lib.hid B4
  clear hbk hb3 B3 hT hN hN1 B4
  go_wp2_with fail
  refine (hO.out _).mono ?_
  rintro e w4 ⟨rfl, hb4⟩
  have hbk := hbk'.out.below hb4
  have hS := Lib.hid (bookSubs_calls hbk tup1.pt (by decide +kernel) (by rw [tup1_subs]; simp))
  have B5 := Lib.hid (B4'.out.trans (hb4.mono B4'.out.size))
  clear hb4 hbk hbk' B4'
  go_wp2_with fail
  refine (hS.out).mono ?_
  rintro e w5 ⟨v, rfl, hv, hb5⟩
  rw [tup1_subs] at hv
  have B6 := Lib.hid (B5.out.trans (hb5.mono B5.out.size))
  clear hb5 hS B5
  obtain ⟨gr, cr, rfl, _, _, hlt, _⟩ := hv.cells (by simp)
  have hv' := Lib.hid hv
  clear hv
  go_wp2_with fail
  refine (hA.out _).mono ?_
  rintro e w6 ⟨rfl, hb6⟩
  have hv6 := hv'.out.later hb6
  have B7 := Lib.hid (B6.out.trans (hb6.mono B6.out.size))
  clear hb6 B6 hv'
  have hv6' := Lib.hid hv6
  clear hv6
  go_wp2_with fail
  refine (hO.out _).mono ?_
  rintro e w7 ⟨rfl, hb7⟩
  have hv7 := Lib.hid (hv6'.out.later hb7)
  have B8 := Lib.hid (B7.out.trans (hb7.mono B7.out.size))
  clear hb7 B7 hv6'
  go_wp2_with fail
  refine (hH.out _).mono ?_
  rintro e w8 ⟨rfl, hb8⟩
  have hv8 := Lib.hid (hv7.out.later hb8)
  have B9 := Lib.hid (B8.out.trans (hb8.mono B8.out.size))
  clear hb8 B8 hv7
  go_wp2_with fail
  have hs3 : same3 tup1.d tup1.e tup1.f tup1.d tup1.e tup1.f = true := same3_self _ _ _
  have hrow : ∀ w', Below w8.heap.size w8 w' → w'.cell? ⟨gr, 0, none⟩ = some (.string tup1.d) ∧ w'.cell? ⟨gr, 1, none⟩ = some (.string tup1.e) ∧ w'.cell? ⟨gr, 2, none⟩ = some (.string tup1.f) := by
    intro w' hb
    obtain ⟨a1, b1, e1, e2, _, x0, x1, x2⟩ := ((hv8.out.later hb).at_ rkS_ok).three rfl rfl (show [tup1.sb][0]? = some tup1.sb from rfl)
    obtain rfl := Option.some.inj e1
    subst e2
    exact ⟨x0, x1, x2⟩
  have hrow' := Lib.hid hrow
  clear hrow hA hH hv8
  go_region_held3 (fun w' => w'.cell? ⟨gr, 0, none⟩ = some (.string tup1.d) ∧ w'.cell? ⟨gr, 1, none⟩ = some (.string tup1.e) ∧ w'.cell? ⟨gr, 2, none⟩ = some (.string tup1.f)) (first | exact hrow'.out _ (Below.refl _ _).drew | exact hrow'.out _ ((Below.refl _ _).drew.trans hb9)) (first | (go_at_call 20; refine (hO.out _).mono ?_; rintro e w9 ⟨rfl, hb9⟩))
  go_wp2_with fail
  go_ret
  exact ⟨rfl, B9.out.trans (((Below.refl _ _).drew.trans hb9).mono B9.out.size)⟩
end Go.Proofs.YtaikedlkkjnffaaGreatDoor
