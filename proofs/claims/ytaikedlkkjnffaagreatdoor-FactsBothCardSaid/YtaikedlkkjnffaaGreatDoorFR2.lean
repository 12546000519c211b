/- Walks: the document's order of objects; rows held against each other; subjects and points out of a set. -/
import Derived.Test.YtaikedlkkjnffaaGreatDoorFR1
import Derived.Test.YtaikedlkkjnffaaGreatDoorUS1
import Derived.IntWalk
namespace Go.Proofs.YtaikedlkkjnffaaGreatDoor
open Go.RowKit
attribute [local go_sem ↓] eql_ob
attribute [local go_sem ↓] eql_sub
attribute [local go_sem ↓] dapp_op
theorem cmpO_lt_t {a b : Ob} (h : Lib.compareBytes a.t.data.toList b.t.data.toList ≠ 0) : decide (cmpO a b < 0) = Op.bytesLess a.t.toList b.t.toList := by
  rw [Lib.toList_data, Lib.toList_data, cb_less]
  unfold cmpO
  rw [if_neg h]
  have := cb_three a.t.data.toList b.t.data.toList
  rw [Bool.eq_iff_iff]; simp; omega
theorem cmpO_lt_i {a b : Ob} (h : Lib.compareBytes a.t.data.toList b.t.data.toList = 0) : decide (cmpO a b < 0) = Op.bytesLess a.i.toList b.i.toList := by
  rw [Lib.toList_data, Lib.toList_data, cb_less]
  unfold cmpO
  rw [if_pos h]
  have := cb_three a.i.data.toList b.i.data.toList
  rw [Bool.eq_iff_iff]; simp; omega
theorem less_calls (a b : Ob) (w : World) :
    Calls Tryz.prog 36 #[.agg #[.string a.t, .string a.i], .agg #[.string b.t, .string b.i]] w fun e w' => e = .returned (.bool (decide (cmpO a b < 0))) ∧ Below w.heap.size w w' := by
  by_cases h0 : Lib.compareBytes a.t.data.toList b.t.data.toList = 0
  · have hy : (a.t.toList == b.t.toList) = true := eq_y h0
    have hn : (a.t.toList != b.t.toList) = false := by simp [bne, hy]
    obtain ⟨d, hd⟩ : ∃ d, decide (cmpO a b < 0) = d := ⟨_, rfl⟩
    have hL := cmpO_lt_i h0
    rw [hd] at hL ⊢
    have hL' := hL.symm
    clear h0 hd hL
    go_enter Tryz.func36, Tryz.ntmps36
    go_wp2_with fail
    go_ret
    exact ⟨rfl, ((Below.refl _ _).alloc (Nat.le_refl _) _).alloc (by simp) _⟩
  · have hy : (a.t.toList == b.t.toList) = false := eq_n h0
    have hn : (a.t.toList != b.t.toList) = true := by simp [bne, hy]
    obtain ⟨d, hd⟩ : ∃ d, decide (cmpO a b < 0) = d := ⟨_, rfl⟩
    have hL := cmpO_lt_t h0
    rw [hd] at hL ⊢
    have hL' := hL.symm
    clear h0 hd hL
    go_enter Tryz.func36, Tryz.ntmps36
    go_wp2_with fail
    go_ret
    exact ⟨rfl, ((Below.refl _ _).alloc (Nat.le_refl _) _).alloc (by simp) _⟩
theorem same3_self (a b c : ByteArray) : same3 a b c a b c = true := by simp [same3]
theorem same2_self (a b : ByteArray) : same2 a b a b = true := by simp [same2]
theorem neqS_self (x : Tri) (w : World) : (binOp .neq 27 (.agg #[.string x.x, .string x.y, .string x.z]) (.agg #[.string x.x, .string x.y, .string x.z])).run Tryz.prog w = .ok (.bool false) w := by
  rw [neq_sub, same3_self]; rfl
theorem neqP_self (x : Tri) (w : World) : (binOp .neq 26 (.agg #[.string x.x, .string x.y, .string x.z]) (.agg #[.string x.x, .string x.y, .string x.z])).run Tryz.prog w = .ok (.bool false) w := by
  rw [neq_pt, same3_self]; rfl
theorem neqO_self (x : Ob) (w : World) : (binOp .neq 24 (.agg #[.string x.t, .string x.i]) (.agg #[.string x.t, .string x.i])).run Tryz.prog w = .ok (.bool false) w := by
  rw [neq_ob, same2_self]; rfl
set_option maxHeartbeats 2000000 in
set_option maxRecDepth 100000 in
theorem sameSubs_calls (l : List Tri) (p q : Option Addr) (c1 c2 : Nat) (w : World) (hn : l.length ≤ 1000000) (h1 : rkS.At w p l) (h2 : rkS.At w q l) :
    Calls Tryz.prog 12 #[.slice p l.length c1, .slice q l.length c2] w fun e w' => e = .returned (.bool true) ∧ Below w.heap.size w w' := by
  have h1' := Lib.hid h1
  have h2' := Lib.hid h2
  clear h1 h2
  generalize hl : l.length = n at *
  have hl' := Lib.hid hl
  clear hl
  go_enter Tryz.func12, Tryz.ntmps12
  go_wp2_with fail
  go_loopw [13] (fun i wr => ∃ k : Nat, k ≤ n ∧ i = .int .i64 k ∧ Below w.heap.size w wr) (fun i _ => n - (intOf i).toNat)
  case atStart => exact ⟨0, Nat.zero_le _, rfl, Below.refl _ _⟩
  case round =>
    obtain ⟨k, hk, rfl, hB⟩ := hrel
    by_cases hlt : k < n
    · obtain ⟨x, hx⟩ : ∃ x, l[k]? = some x := ⟨_, List.getElem?_eq_getElem (by rw [hl'.out]; exact hlt)⟩
      obtain ⟨a1, b1, rfl, ha, _, x0, x1, x2⟩ := (h1'.out.below hB).three rfl rfl hx
      obtain ⟨a2, b2, rfl, hb, _, y0, y1, y2⟩ := (h2'.out.below hB).three rfl rfl hx
      have hnq := neqS_self x
      have hB' := Lib.hid hB
      clear hx hB
      go_wp2_with fail
      go_quiet (fail)
      have hB4 := bdrewN hB'.out nq
      clear x0 x1 x2 y0 y1 y2 ha hb
      go_wp2_with fail
      go_roundw
      case rel => exact ⟨k + 1, by omega, by go_num, hB4⟩
      case measure => simp [intOf]; omega
    · go_wp2_with fail
      go_ret
      exact ⟨rfl, hB⟩
set_option maxHeartbeats 2000000 in
set_option maxRecDepth 100000 in
theorem samePoints_calls (l : List Tri) (p q : Option Addr) (c1 c2 : Nat) (w : World) (hn : l.length ≤ 1000000) (h1 : rkP.At w p l) (h2 : rkP.At w q l) :
    Calls Tryz.prog 14 #[.slice p l.length c1, .slice q l.length c2] w fun e w' => e = .returned (.bool true) ∧ Below w.heap.size w w' := by
  have h1' := Lib.hid h1
  have h2' := Lib.hid h2
  clear h1 h2
  generalize hl : l.length = n at *
  have hl' := Lib.hid hl
  clear hl
  go_enter Tryz.func14, Tryz.ntmps14
  go_wp2_with fail
  go_loopw [13] (fun i wr => ∃ k : Nat, k ≤ n ∧ i = .int .i64 k ∧ Below w.heap.size w wr) (fun i _ => n - (intOf i).toNat)
  case atStart => exact ⟨0, Nat.zero_le _, rfl, Below.refl _ _⟩
  case round =>
    obtain ⟨k, hk, rfl, hB⟩ := hrel
    by_cases hlt : k < n
    · obtain ⟨x, hx⟩ : ∃ x, l[k]? = some x := ⟨_, List.getElem?_eq_getElem (by rw [hl'.out]; exact hlt)⟩
      obtain ⟨a1, b1, rfl, ha, _, x0, x1, x2⟩ := (h1'.out.below hB).three rfl rfl hx
      obtain ⟨a2, b2, rfl, hb, _, y0, y1, y2⟩ := (h2'.out.below hB).three rfl rfl hx
      have hnq := neqP_self x
      have hB' := Lib.hid hB
      clear hx hB
      go_wp2_with fail
      go_quiet (fail)
      have hB4 := bdrewN hB'.out nq
      clear x0 x1 x2 y0 y1 y2 ha hb
      go_wp2_with fail
      go_roundw
      case rel => exact ⟨k + 1, by omega, by go_num, hB4⟩
      case measure => simp [intOf]; omega
    · go_wp2_with fail
      go_ret
      exact ⟨rfl, hB⟩
set_option maxHeartbeats 2000000 in
set_option maxRecDepth 100000 in
theorem sameObjs_calls (l : List Ob) (p q : Option Addr) (c1 c2 : Nat) (w : World) (hn : l.length ≤ 1000000) (h1 : rkO.At w p l) (h2 : rkO.At w q l) :
    Calls Tryz.prog 16 #[.slice p l.length c1, .slice q l.length c2] w fun e w' => e = .returned (.bool true) ∧ Below w.heap.size w w' := by
  have h1' := Lib.hid h1
  have h2' := Lib.hid h2
  clear h1 h2
  generalize hl : l.length = n at *
  have hl' := Lib.hid hl
  clear hl
  go_enter Tryz.func16, Tryz.ntmps16
  go_wp2_with fail
  go_loopw [13] (fun i wr => ∃ k : Nat, k ≤ n ∧ i = .int .i64 k ∧ Below w.heap.size w wr) (fun i _ => n - (intOf i).toNat)
  case atStart => exact ⟨0, Nat.zero_le _, rfl, Below.refl _ _⟩
  case round =>
    obtain ⟨k, hk, rfl, hB⟩ := hrel
    by_cases hlt : k < n
    · obtain ⟨x, hx⟩ : ∃ x, l[k]? = some x := ⟨_, List.getElem?_eq_getElem (by rw [hl'.out]; exact hlt)⟩
      obtain ⟨a1, b1, rfl, ha, _, x0, x1⟩ := (h1'.out.below hB).two rfl rfl hx
      obtain ⟨a2, b2, rfl, hb, _, y0, y1⟩ := (h2'.out.below hB).two rfl rfl hx
      have hnq := neqO_self x
      have hB' := Lib.hid hB
      clear hx hB
      go_wp2_with fail
      go_quiet (fail)
      have hB4 := bdrewN hB'.out nq
      clear x0 x1 y0 y1 ha hb
      go_wp2_with fail
      go_roundw
      case rel => exact ⟨k + 1, by omega, by go_num, hB4⟩
      case measure => simp [intOf]; omega
    · go_wp2_with fail
      go_ret
      exact ⟨rfl, hB⟩
theorem take_snocT {α : Type} {l : List α} {k : Nat} {t : α} (h : l[k]? = some t) : l.take (k + 1) = l.take k ++ [t] := by
  obtain ⟨hlt, he⟩ := List.getElem?_eq_some_iff.1 h
  rw [List.take_succ_eq_append_getElem hlt, he]
set_option maxHeartbeats 4000000 in
set_option maxRecDepth 100000 in
theorem refSubs_calls (l : List Tup) (a : Option Addr) (c : Nat) (q : Tri) (w : World) (hl : l.length ≤ 1000) (hT : holdsT w a l) :
    Calls Tryz.prog 13 #[.slice a l.length c, .agg #[.string q.x, .string q.y, .string q.z]] w fun e w' => ∃ v, e = .returned v ∧ rkS.Own w.heap.size w' v (subsD l q) ∧ Below w.heap.size w w' := by
  obtain ⟨n, hN⟩ : ∃ n, l.length = n := ⟨_, rfl⟩
  rw [hN] at hl ⊢
  have hN' := Lib.hid hN
  have hT' := Lib.hid hT
  have B0 := (Below.refl w.heap.size w).alloc (Nat.le_refl _) (.cells #[.string q.x, .string q.y, .string q.z] 26)
  have Q0 := Blk.new w 26 #[.string q.x, .string q.y, .string q.z]
  have B0' := Lib.hid B0
  have Q0' := Lib.hid Q0
  clear hN hT B0 Q0
  go_enter Tryz.func13, Tryz.ntmps13
  go_wp2_with fail
  go_loopw [5, 10] (fun v i wr => ∃ k : Nat, k ≤ n ∧ i = .int .i64 k ∧ rkS.Own w.heap.size wr v (subsD (l.take k) q) ∧ Blk wr w.heap.size 26 #[.string q.x, .string q.y, .string q.z] ∧ Below w.heap.size w wr) (fun _ i _ => n - (intOf i).toNat)
  case atStart => exact ⟨0, Nat.zero_le _, rfl, RowK.Own.nil _ _ _, Q0'.out, B0'.out⟩
  case round =>
    obtain ⟨k, hk, rfl, hS, hQ, hB⟩ := hrel
    obtain ⟨ps, cs, rfl⟩ := hS.slice
    by_cases hlt : k < n
    · obtain ⟨t, ht⟩ : ∃ t, l[k]? = some t := ⟨_, List.getElem?_eq_getElem (by rw [hN'.out]; exact hlt)⟩
      obtain ⟨a1, b1, rfl, ha, hbl, x0, x1, x2, x3, x4, x5⟩ := (hT'.out.below hB) k t ht
      have A5 := (Below.refl wr.heap.size wr).alloc (Nat.le_refl _) (.cells #[.string t.a, .string t.b, .string t.c, .string t.d, .string t.e, .string t.f] 60)
      have hz5 := hB.size
      have S5 := hS.later A5
      have Q5 := hQ.below A5 hQ.lt
      have B5 := hB.trans (A5.mono hz5)
      have hxt := Blk.new wr 60 #[.string t.a, .string t.b, .string t.c, .string t.d, .string t.e, .string t.f]
      have hlen := subsD_len (l.take k) q
      rw [List.length_take] at hlen
      have hqc := Q5.cell
      have hxc := hxt.cell
      obtain ⟨M, hM⟩ : ∃ M, (subsD (l.take k) q).length = M := ⟨_, rfl⟩
      rw [hM] at hS S5 hlen ⊢
      by_cases hpt : t.pt = q
      · have hst := Lib.hid ((congrArg (subsD · q) (take_snocT ht)).trans (subsD_yes hpt))
        have A6 := (Below.refl (wr.alloc (.cells #[.string t.a, .string t.b, .string t.c, .string t.d, .string t.e, .string t.f] 60)).heap.size _).alloc (Nat.le_refl _) (.cells #[.string t.d, .string t.e, .string t.f] 27)
        have S6a := S5.later A6
        have Q6 := Q5.below A6 Q5.lt
        have B6 := B5.alloc (by simp; omega) (.cells #[.string t.d, .string t.e, .string t.f] 27)
        have hsz6 : w.heap.size ≤ ((wr.alloc (.cells #[.string t.a, .string t.b, .string t.c, .string t.d, .string t.e, .string t.f] 60)).alloc (.cells #[.string t.d, .string t.e, .string t.f] 27)).heap.size := by simp; omega
        obtain ⟨p6, c6, w6, e6, S6, K6, _⟩ := S6a.app rkS_ok (t := t.sb) hsz6 (g := (wr.alloc (.cells #[.string t.a, .string t.b, .string t.c, .string t.d, .string t.e, .string t.f] 60)).heap.size) (fun j u hj => by rw [(Blk.new _ 27 #[.string t.d, .string t.e, .string t.f]).cell]; simpa [rkS, triL, Tup.sb] using hj) (by rw [hM]; omega)
        have hown : (Value.slice ps M cs).ownBlock ≠ some w.heap.size := fun e => RowK.Own.blk_ne (r := rkS) S6a Q6 (by decide) e
        have Q7 := Lib.hid (Q6.keeps K6 fun e => hown e)
        have hlow := fun j (e : (Value.slice ps M cs).ownBlock = some j) => (S6a.lt j e).1
        have B7 := Lib.hid (Keeps.below_step B6 hsz6 K6 hlow)
        rw [← hst.out] at S6
        have S7 := Lib.hid S6
        rw [hM, World.size_alloc] at e6
        have e7 : (dappOp #[33, 33] 33 #[.slice ps M cs, .slice (some ⟨wr.heap.size + 1, 0, none⟩) 1 1]).run Tryz.prog ((wr.alloc (.cells #[.string t.a, .string t.b, .string t.c, .string t.d, .string t.e, .string t.f] 60)).alloc (.cells #[.string t.d, .string t.e, .string t.f] 27)) = .ok (.slice p6 (M + 1) c6) w6 := e6
        have hs2 : same2 t.a t.b q.x q.y = true := by
          rw [← hpt]; exact same2_self _ _
        have hs3 : (t.c.toList == q.z.toList) = true := by rw [← hpt]; simp [Tup.pt]
        rw [hM] at S7
        clear hst A6 S6a Q6 B6 hsz6 S6 K6 hown hlow e6 hS hQ hB A5 S5 Q5 B5 hxt ht hpt
        go_wp2_with fail
        go_roundw
        case rel => exact ⟨k + 1, by omega, by go_num, S7.out, Q7.out, B7.out⟩
        case measure => simp [intOf]; omega
      · have hst := Lib.hid ((congrArg (subsD · q) (take_snocT ht)).trans (subsD_no hpt))
        have S5' := Lib.hid S5
        have Q5' := Lib.hid Q5
        have B5' := Lib.hid B5
        have hpt' := Lib.hid hpt
        clear hS hQ hB A5 S5 Q5 B5 hxt ht hpt
        cases hs2 : same2 t.a t.b q.x q.y
        · clear hpt'
          go_wp2_with fail
          go_roundw
          case rel => exact ⟨k + 1, by omega, by go_num, by rw [hst.out]; exact S5'.out, Q5'.out, B5'.out⟩
          case measure => simp [intOf]; omega
        · have hs3 : (t.c.toList == q.z.toList) = false := by
            rw [Bool.eq_false_iff]
            intro e
            simp only [same2, Bool.and_eq_true, beq_iff_eq, Lib.toList_data] at hs2
            rw [beq_iff_eq, Lib.toList_data, Lib.toList_data] at e
            refine hpt'.out ?_
            cases q
            simp only at hs2 e
            unfold Tup.pt
            rw [bytes_ext hs2.1, bytes_ext hs2.2, bytes_ext e]
          clear hpt'
          go_wp2_with fail
          go_roundw
          case rel => exact ⟨k + 1, by omega, by go_num, by rw [hst.out]; exact S5'.out, Q5'.out, B5'.out⟩
          case measure => simp [intOf]; omega
    · obtain rfl : k = n := by omega
      rw [List.take_of_length_le (by rw [hN'.out]; exact Nat.le_refl _)] at hS ⊢
      go_wp2_with fail
      go_ret
      exact ⟨_, rfl, hS, hB⟩
end Go.Proofs.YtaikedlkkjnffaaGreatDoor
