/- Walks: few. Walks: whether all numbers of an edit are written, the document's way. Walks: the document's way to put a number, a text behind bytes. Walks: Right; a frame, the document's way. Walks: the document's order of tables. -/
import Derived.Test.YtabcdodjkfknlaaGreatDoorPN16
import Derived.Test.YtabcdodjkfknlaaGreatDoorPN12
import Derived.Test.YtabcdodjkfknlaaGreatDoorPN20
import Derived.Test.YtabcdodjkfknlaaGreatDoorPN15
import Derived.WalkLawsBesides
namespace Go.Proofs.YtabcdodjkfknlaaGreatDoor
open Go.RowKit
attribute [local go_sem] Oper.semAt_some
def Tbl.few (t : Tbl) : Bool := decide (t.first.size + t.last.size ≤ 300)
/-- has an edit few tables, few drops, short keys? -/
def Edt.few (e : Edt) : Bool := e.add.all Tbl.few && (decide (e.add.length ≤ 40) && decide (e.drop.length ≤ 40))
/-- texts that are no longer than a machine has them -/
def slim (l : List Tbl) : Prop := ∀ t ∈ l, t.first.size ≤ 2000000 ∧ t.last.size ≤ 2000000
set_option maxHeartbeats 4000000 in
set_option maxRecDepth 100000 in
theorem few16_calls (p q : Option Addr) (c d : Nat) (x : Edt) (w : World) (hA : rkT.At w p x.add) (hl : x.add.length ≤ 1000000) (hd : x.drop.length ≤ 2000000) (hs : slim x.add) : Calls Tryz.prog 14 #[.agg #[.slice p x.add.length c, .slice q x.drop.length d, .int .u64 x.floor, .int .u64 x.head, .int .i64 x.log, .int .i64 x.next]] w fun e w' => e = .returned (.bool x.few) ∧ Below w.heap.size w w' := by
  obtain ⟨F, hF⟩ : ∃ F, x.few = F := ⟨_, rfl⟩
  unfold Edt.few at hF
  obtain ⟨l, hx⟩ : ∃ l, x.add = l := ⟨_, rfl⟩
  obtain ⟨M, hM⟩ : ∃ M, x.drop.length = M := ⟨_, rfl⟩
  have hF2 : x.few = F := hF
  rw [hF2]
  rw [hM] at hd hF ⊢
  rw [hx] at hA hl hF hs ⊢
  obtain ⟨L, hL⟩ : ∃ L, l.length = L := ⟨_, rfl⟩
  rw [hL] at hl hF ⊢
  obtain ⟨W1, hW1⟩ : ∃ W1, w.alloc (.cells #[.slice p L c, .slice q M d, .int .u64 x.floor, .int .u64 x.head, .int .i64 x.log, .int .i64 x.next] 33) = W1 := ⟨_, rfl⟩
  have b1 : Blk W1 w.heap.size 33 #[.slice p L c, .slice q M d, .int .u64 x.floor, .int .u64 x.head, .int .i64 x.log, .int .i64 x.next] := by rw [← hW1]; exact Blk.new w _ _
  have hB1 : Below w.heap.size w W1 := by rw [← hW1]; exact (Below.refl _ w).alloc (Nat.le_refl _) _
  have c1 := b1.cell
  have b1' := Lib.hid b1
  have hB1' := Lib.hid hB1
  have hA' := Lib.hid (hA.below hB1)
  have hs' := Lib.hid hs
  have hF' := Lib.hid hF
  have hL' := Lib.hid hL
  clear hF hF2 hx hM hL hA hs b1 hB1
  go_enter Tryz.func14, Tryz.ntmps14
  go_wp2
  have hlt1 := Lib.hid b1'.out.lt
  go_loopw [4, 8] (fun _ i wr => ∃ k : Nat, i = .int .i64 k ∧ k ≤ L ∧ (l.take k).all Tbl.few = true ∧ Below W1.heap.size W1 wr) (fun _ i _ => L - (intOf i).toNat)
  case atStart => exact ⟨0, rfl, by omega, rfl, Below.refl _ _⟩
  case round =>
    obtain ⟨wo, rfl⟩ : ∃ wo : World, wo = wr := ⟨_, rfl⟩
    obtain ⟨k, rfl, hk, hall, hb⟩ := hrel
    have hall' := Lib.hid hall
    clear hall c1
    by_cases hlt : k < L
    · obtain ⟨t, ht⟩ : ∃ t, l[k]? = some t := ⟨_, List.getElem?_eq_getElem (by rw [hL'.out]; exact hlt)⟩
      obtain ⟨a, b, rfl, hab, hbl, q0, q1, q2, q3, q4⟩ := tbl_at (hA'.out.below hb) ht
      have hsz := hs'.out t (List.mem_of_getElem? ht)
      obtain ⟨s1, s2⟩ := hsz
      have htk : (l.take (k + 1)).all Tbl.few = t.few := by rw [List.take_add_one, ht, List.all_append, hall'.out]; simp
      have htk' := Lib.hid htk
      have hmem := Lib.hid (List.mem_of_getElem? ht)
      clear htk ht
      have n1 : 0 < L := by omega
      by_cases hfw : t.first.size + t.last.size ≤ 300
      · have t1 : ¬ 300 < (t.first.size : Int) + (t.last.size : Int) := by omega
        have hb' := Lib.hid hb
        clear hb
        go_wp2
        go_roundw
        case rel => exact ⟨k + 1, by go_num, by omega, by rw [htk'.out]; unfold Tbl.few; simpa using hfw, hb'.out.alloc hb'.out.size _⟩
        case measure => simp [intOf]; omega
      · have t1 : 300 < (t.first.size : Int) + (t.last.size : Int) := by omega
        have hb' := Lib.hid hb
        clear hb
        obtain rfl : F = false := by
          rw [← hF'.out, Bool.and_eq_false_iff]
          left
          rw [List.all_eq_false]
          exact ⟨t, hmem.out, by unfold Tbl.few; simpa using hfw⟩
        go_wp2
        go_ret
        exact ⟨rfl, hB1'.out.trans ((hb'.out.mono hB1'.out.size).alloc (Nat.le_trans hB1'.out.size hb'.out.size) _)⟩
    · obtain rfl : k = L := by omega
      have c2 := (b1'.out.below hb b1'.out.lt).cell
      have hfull : l.all Tbl.few = true := by have := hall'.out; rwa [List.take_of_length_le (by rw [hL'.out]; exact Nat.le_refl _)] at this
      have hF3 := hF'.out
      rw [hfull, Bool.true_and] at hF3
      have hB3 := Lib.hid (hB1'.out.trans (hb.mono hB1'.out.size))
      clear hb hfull
      by_cases h1 : k ≤ 40
      · by_cases h2 : M ≤ 40
        · obtain rfl : F = true := by rw [← hF3]; simp [h1, h2]
          have t2 : (k : Int) ≤ 40 := by omega
          have t3 : (M : Int) ≤ 40 := by omega
          clear hF3
          go_wp2
          go_ret
          exact ⟨rfl, hB3.out⟩
        · obtain rfl : F = false := by rw [← hF3]; simp [h2]
          have t2 : (k : Int) ≤ 40 := by omega
          have t3 : ¬ (M : Int) ≤ 40 := by omega
          clear hF3
          go_wp2
          go_ret
          exact ⟨rfl, hB3.out⟩
      · obtain rfl : F = false := by rw [← hF3]; simp [h1]
        have t2 : ¬ (k : Int) ≤ 40 := by omega
        clear hF3
        go_wp2
        go_ret
        exact ⟨rfl, hB3.out⟩
def Ver.few (v : Ver) : Bool := v.tables.all Tbl.few && decide (v.tables.length ≤ 40)
set_option maxHeartbeats 1000000 in
set_option maxRecDepth 100000 in
theorem few21_calls (vv : Value) (x : Ver) (w : World) (hv : VerIs w vv x) (hs : slim x.tables) : Calls Tryz.prog 13 #[vv] w fun e w' => e = .returned (.bool x.few) ∧ Below w.heap.size w w' := by
  obtain ⟨⟨p, c, rfl, hA⟩, hl, hlang, hn⟩ := hv
  have b1 := Blk.new w 30 #[.slice p x.tables.length c, .int .u64 x.floor, .int .u64 x.head, .int .i64 x.log, .int .i64 x.next]
  have hB1 := (Below.refl w.heap.size w).alloc (Nat.le_refl _) (.cells #[.slice p x.tables.length c, .int .u64 x.floor, .int .u64 x.head, .int .i64 x.log, .int .i64 x.next] 30)
  have hC := few16_calls p none c 0 ⟨x.tables, [], 0, 0, 0, 0⟩ _ (hA.below hB1) hl (Nat.zero_le _) hs
  have e : Edt.few ⟨x.tables, [], 0, 0, 0, 0⟩ = x.few := by
    unfold Edt.few Ver.few
    simp
  rw [e] at hC
  have c1 := b1.cell
  have hC' := Lib.hid hC
  have hB1' := Lib.hid hB1
  clear hC hB1 b1 hA e
  generalize x.few = F at *
  go_enter Tryz.func13, Tryz.ntmps13
  go_wp2_with fail
  refine hC'.out.mono ?_
  rintro e w1 ⟨rfl, hb⟩
  have hb' := Lib.hid (hB1'.out.trans (hb.mono hB1'.out.size))
  clear hb c1
  go_wp2_with fail
  go_ret
  exact ⟨rfl, hb'.out⟩
end Go.Proofs.YtabcdodjkfknlaaGreatDoor
namespace Go.Proofs.YtabcdodjkfknlaaGreatDoor
open Go.RowKit
attribute [local go_sem ↓] dapp_op dslK_op
attribute [local go_sem] Oper.semAt_some
/-- all numbers of an edit -/
def Tbl.nums (t : Tbl) : List Int := [t.num, t.level, t.size]
def Edt.numsE (e : Edt) : List Int := [e.log, e.next] ++ e.drop ++ e.add.flatMap Tbl.nums
theorem right_nums (e : Edt) : e.numsE.all (fun n => !oddI n) = e.right := by
  unfold Edt.numsE Edt.right
  rw [List.all_append, List.all_append]
  have h1 : (e.add.flatMap Tbl.nums).all (fun n => !oddI n) = e.add.all Tbl.right := by
    rw [List.all_flatMap]
    congr 1
    funext t
    unfold Tbl.nums Tbl.right
    simp [Bool.and_assoc]
  rw [h1]
  simp
theorem rkI_lit (w : World) (l : List Int) (hl : l.length ≤ 1000) : rkI.Own w.heap.size (w.alloc (.cells (l.map (Value.int .i64)).toArray 3)) (.slice (some ⟨w.heap.size, 0, none⟩) l.length l.length) l := by
  have hc : rkI.cells l = l.map (Value.int .i64) := by
    unfold RowK.cells
    induction l with
    | nil => rfl
    | cons n l ih =>
      rw [List.flatMap_cons, List.map_cons, ih (by simp at hl; omega)]
      rfl
  have h1 : l.length * 1 = l.length := Nat.mul_one _
  refine ⟨by rw [hc, List.length_map]; exact h1.symm, .inr ⟨w.heap.size, l.length, _, rfl, Nat.le_refl _, heap_alloc_new w _, Nat.le_refl _, by unfold maxLen; omega, by rw [List.size_toArray, List.length_map]; exact h1.symm, ?_⟩⟩
  rw [hc]
  exact List.take_of_length_le (by rw [List.length_map]; exact Nat.le_of_eq h1.symm)
theorem nums_len (l : List Tbl) : (l.flatMap Tbl.nums).length = 3 * l.length := by
  induction l with
  | nil => rfl
  | cons t l ih => rw [List.flatMap_cons, List.length_append, ih, List.length_cons]; show 3 + _ = _; omega
def MadeI (w : World) (l : List Int) (e : Ending) (w' : World) : Prop := ∃ p c, e = .returned (.slice p l.length c) ∧ rkI.Own w.heap.size w' (.slice p l.length c) l ∧ Below w.heap.size w w'
set_option maxHeartbeats 4000000 in
set_option maxRecDepth 100000 in
theorem numbers16_calls (p q : Option Addr) (c d : Nat) (x : Edt) (w : World) (hA : rkT.At w p x.add) (hD : rkI.At w q x.drop) (hf : x.few = true) (hq : q = none → d = 0) :
    Calls Tryz.prog 40 #[.agg #[.slice p x.add.length c, .slice q x.drop.length d, .int .u64 x.floor, .int .u64 x.head, .int .i64 x.log, .int .i64 x.next]] w (MadeI w x.numsE) := by
  unfold Edt.few at hf
  rw [Bool.and_eq_true, Bool.and_eq_true, decide_eq_true_eq, decide_eq_true_eq] at hf
  obtain ⟨_, ha, hd⟩ := hf
  obtain ⟨l, dl, fl, hd_, lg, nx⟩ := x
  simp only at hA hD ha hd ⊢
  obtain ⟨PP, hPP⟩ : ∃ PP, MadeI w (Edt.numsE ⟨l, dl, fl, hd_, lg, nx⟩) = PP := ⟨_, rfl⟩
  have hnum : Edt.numsE ⟨l, dl, fl, hd_, lg, nx⟩ = [lg, nx] ++ dl ++ l.flatMap Tbl.nums := rfl
  rw [hnum] at hPP
  rw [hnum, hPP]
  obtain ⟨W1, hW1⟩ : ∃ W1, w.alloc (.cells #[.slice p l.length c, .slice q dl.length d, .int .u64 fl, .int .u64 hd_, .int .i64 lg, .int .i64 nx] 33) = W1 := ⟨_, rfl⟩
  have b1 : Blk W1 w.heap.size 33 #[.slice p l.length c, .slice q dl.length d, .int .u64 fl, .int .u64 hd_, .int .i64 lg, .int .i64 nx] := by rw [← hW1]; exact Blk.new w _ _
  have hB1 : Below w.heap.size w W1 := by rw [← hW1]; exact (Below.refl _ w).alloc (Nat.le_refl _) _
  obtain ⟨W2, hW2⟩ : ∃ W2, W1.alloc (.cells #[.int .i64 lg, .int .i64 nx] 3) = W2 := ⟨_, rfl⟩
  have hB2 : Below W1.heap.size W1 W2 := by rw [← hW2]; exact (Below.refl _ W1).alloc (Nat.le_refl _) _
  have o1 : rkI.Own W1.heap.size W2 (.slice (some ⟨W1.heap.size, 0, none⟩) 2 2) [lg, nx] := by rw [← hW2]; exact rkI_lit W1 [lg, nx] (by show (2 : Nat) ≤ _; decide)
  obtain ⟨p3, c3, w3, e3, o3, k3, _⟩ := RowK.can_at (P := Tryz.prog) rkI_ok ((hD.below hB1).below hB2) rfl (by omega) hq W2 (Below.refl _ _) W1.heap.size _ [lg, nx] hB2.size (by show (2 : Nat) ≤ _; decide) o1
  have e3 : (dappOp #[31, 31] 31 #[.slice (some ⟨W1.heap.size, 0, none⟩) 2 2, .slice q dl.length d]).run Tryz.prog W2 = .ok (.slice p3 (2 + dl.length) c3) w3 := e3
  have hb3 : Below w.heap.size w w3 := (hB1.trans (hB2.mono hB1.size)).trans (k3.below (fun j _ e => by obtain rfl := Option.some.inj e; exact hB1.size) (Nat.le_trans hB1.size hB2.size))
  have b2 := b1.below hB2 b1.lt
  have b3 := (b1.below hB2 b1.lt).keeps k3 (fun e => by
    have h1 := Option.some.inj e
    have h2 := b1.lt
    have h3 : W1.heap.size = w.heap.size := h1
    omega)
  obtain ⟨L, hL⟩ : ∃ L, l.length = L := ⟨_, rfl⟩
  obtain ⟨M, hM⟩ : ∃ M, dl.length = M := ⟨_, rfl⟩
  rw [hL] at b1 b2 b3 hW1 ha ⊢
  rw [hM] at b1 b2 b3 hW1 e3 o3 hd ⊢
  have c1 := b1.cell
  have c2 := b2.cell
  have c3_ := b3.cell
  have hb3' := Lib.hid hb3
  have hA' := Lib.hid hA
  have hL' := Lib.hid hL
  have hM' := Lib.hid hM
  have hPP' := Lib.hid hPP
  have o3' := Lib.hid (o3.mono (B' := w.heap.size) hB1.size)
  obtain ⟨G0, hG0⟩ : ∃ G, W1.heap.size = G := ⟨_, rfl⟩
  rw [hG0] at e3
  clear hb3 b3 b2 hL hM hPP o3 k3 o1 hA hD hB2 hB1 b1 hnum
  go_enter Tryz.func40, Tryz.ntmps40
  go_wp2
  go_loopw [3, 5, 17] (fun b _ i wr => ∃ (k : Nat) (pb : Option Addr) (cb : Nat), i = .int .i64 k ∧ k ≤ L ∧ b = .slice pb (2 + M + 3 * k) cb ∧ rkI.Own w.heap.size wr b ([lg, nx] ++ dl ++ (l.take k).flatMap Tbl.nums) ∧ Below w.heap.size w wr) (fun _ _ i _ => L - (intOf i).toNat)
  case atStart => exact ⟨0, p3, c3, rfl, Nat.zero_le _, rfl, by simpa using o3'.out, hb3'.out⟩
  case round =>
    obtain ⟨k, pb, cb, rfl, hk, rfl, ho, hb⟩ := hrel
    obtain ⟨wo, rfl⟩ : ∃ wo : World, wo = wr := ⟨_, rfl⟩
    have ho' := Lib.hid ho
    have hb' := Lib.hid hb
    clear ho hb c1 c2 c3_ e3
    by_cases hlt : k < L
    · obtain ⟨t, ht⟩ : ∃ t, l[k]? = some t := ⟨_, List.getElem?_eq_getElem (by rw [hL'.out]; exact hlt)⟩
      obtain ⟨a, b, rfl, hab, hbl, q0, q1, q2, q3, q4⟩ := tbl_at (hA'.out.below hb'.out) ht
      have hft : (l.take (k + 1)).flatMap Tbl.nums = (l.take k).flatMap Tbl.nums ++ Tbl.nums t := by
        rw [List.take_add_one, ht, List.flatMap_append]
        simp
      have hnt : Tbl.nums t = [t.num, t.level, t.size] := rfl
      rw [hnt] at hft
      have hft' := Lib.hid hft
      clear hft hnt ht
      obtain ⟨tn, tl, tz, tf, ta⟩ := t
      simp only at q0 q1 q2 q3 q4 hft'
      obtain ⟨W4, hW4⟩ : ∃ W4, wo.alloc (.cells #[.int .i64 tn, .int .i64 tl, .int .i64 tz, .string tf, .string ta] 76) = W4 := ⟨_, rfl⟩
      have hA4 : Below wo.heap.size wo W4 := by rw [← hW4]; exact (Below.refl _ wo).alloc (Nat.le_refl _) _
      have bT : Blk W4 wo.heap.size 76 #[.int .i64 tn, .int .i64 tl, .int .i64 tz, .string tf, .string ta] := by rw [← hW4]; exact Blk.new wo _ _
      obtain ⟨T, hT⟩ : ∃ T, wo.heap.size = T := ⟨_, rfl⟩
      rw [hT] at bT
      have tc := bT.cell
      obtain ⟨W5, hW5⟩ : ∃ W5, W4.alloc (.cells #[.int .i64 tn, .int .i64 tl, .int .i64 tz] 3) = W5 := ⟨_, rfl⟩
      have hA5 : Below W4.heap.size W4 W5 := by rw [← hW5]; exact (Below.refl _ W4).alloc (Nat.le_refl _) _
      have bN : Blk W5 W4.heap.size 3 #[.int .i64 tn, .int .i64 tl, .int .i64 tz] := by rw [← hW5]; exact Blk.new W4 _ _
      have o5 := (ho'.out.later hA4).later hA5
      have hb5 := (hb'.out.trans (hA4.mono hb'.out.size)).trans (hA5.mono (Nat.le_trans hb'.out.size hA4.size))
      have hll : ([lg, nx] ++ dl ++ (l.take k).flatMap Tbl.nums).length = 2 + M + 3 * k := by
        rw [List.length_append, nums_len, List.length_append, List.length_take, hM'.out, hL'.out]
        show 2 + M + _ = _
        omega
      obtain ⟨p6, c6, w6, e6, o6, k6, _⟩ := RowK.can_row (P := Tryz.prog) rkI_ok (Wd := W5) (a := ⟨W4.heap.size, 0, none⟩) (m := 3) (c := 3) (news := [tn, tl, tz]) rfl (by omega) (.inr bN.lt) (fun j u hj => by
        rw [addr_at, bN.cell]
        rcases j with _ | _ | _ | j
        · exact hj
        · exact hj
        · exact hj
        · have hc : rkI.cells [tn, tl, tz] = [.int .i64 tn, .int .i64 tl, .int .i64 tz] := rfl
          rw [hc] at hj
          simp at hj) W5 (Below.refl _ _) w.heap.size _ _ hb5.size (by rw [hll]; omega) o5
      rw [hll] at e6 o6
      have e6 : (dappOp #[31, 31] 31 #[.slice pb (2 + M + 3 * k) cb, .slice (some ⟨W4.heap.size, 0, none⟩) 3 3]).run Tryz.prog W5 = .ok (.slice p6 (2 + M + 3 * k + 3) c6) w6 := e6
      have hb6 := Lib.hid (hb5.trans (k6.below (fun j _ e => (o5.lt j e).1) hb5.size))
      have o6' := Lib.hid o6
      obtain ⟨G, hG⟩ : ∃ G, W4.heap.size = G := ⟨_, rfl⟩
      rw [hG] at e6
      obtain ⟨Q, hQ⟩ : ∃ Q, 2 + M + 3 * k = Q := ⟨_, rfl⟩
      rw [hQ] at e6 o6' ⊢
      have hQ' := Lib.hid hQ
      clear hQ o5 hb5 hll o6 k6 bN bT hA4 hA5
      go_wp2
      refine ⟨⟨k + 1, p6, c6, by go_num, by omega, ?_, ?_, hb6.out⟩, by simp only [intOf]; omega⟩
      · rw [← hQ'.out]
        rfl
      · rw [hft'.out, ← List.append_assoc]
        exact o6'.out
    · obtain rfl : k = L := by omega
      have hfull : l.take k = l := List.take_of_length_le (Nat.le_of_eq hL'.out)
      rw [hfull] at ho'
      have hll : ([lg, nx] ++ dl ++ l.flatMap Tbl.nums).length = 2 + M + 3 * k := by
        rw [List.length_append, nums_len, List.length_append, hM'.out, hL'.out]
        show 2 + M + _ = _
        omega
      have hll' := Lib.hid hll
      clear hll hfull
      go_wp2
      rw [← hPP'.out]
      exact ⟨pb, cb, by rw [hll'.out]; rfl, by rw [hll'.out]; exact ho'.out, hb'.out⟩
end Go.Proofs.YtabcdodjkfknlaaGreatDoor
namespace Go.Proofs.YtabcdodjkfknlaaGreatDoor
open Go.RowKit
attribute [local go_sem ↓] dapp_op dslK_op
theorem BOwn.empty (w : World) : BOwn w.heap.size (w.alloc (.cells #[] 5)) (.slice (some ⟨w.heap.size, 0, none⟩) 0 0) [] :=
  ⟨rfl, .inr ⟨w.heap.size, 0, #[], rfl, Nat.le_refl _, heap_alloc_new w _, Nat.le_refl _, Nat.zero_le _, rfl, rfl⟩⟩
theorem add128 (m : Nat) : ((UInt8.ofNat (m % 128 + 128)).toNat : Int) = (m : Int) % 128 + 128 := by
  rw [ofNat_toNat (by omega)]
  omega
set_option maxHeartbeats 1000000 in
set_option maxRecDepth 100000 in
theorem put02_calls (v : Value) (l : List UInt8) (n : Nat) (w : World) (hv : Bytes w v l) (hl : l.length ≤ 100000000) (hn : n < 18446744073709551616) :
    Calls Tryz.prog 55 #[v, .int .u64 n] w (MadeB w (l ++ uv n)) := by
  obtain ⟨p, c, rfl⟩ := hv.slice
  have hA := (Below.refl w.heap.size w).alloc (Nat.le_refl _) (.cells #[] 5)
  obtain ⟨p1, c1, w1, e1, o1, k1⟩ := (BOwn.empty w).put (hv.later hA) (by simp; omega) hA.size
  simp only [List.length_nil, Nat.zero_add, List.nil_append] at e1 o1
  have b1 : Below w.heap.size w w1 := hA.trans (k1.below (fun j hj e => by obtain rfl := Option.some.inj e; exact Nat.le_refl _) hA.size)
  have hR : RoomB w w1 (.slice p1 l.length c1) l := ⟨b1, p1, c1, rfl, .inl o1⟩
  have hR' := Lib.hid hR
  obtain ⟨L, hL⟩ : ∃ L, l.length = L := ⟨_, rfl⟩
  rw [hL] at e1 hR'
  clear hv hR hA b1 o1 k1
  have hL' := Lib.hid hL
  rw [hL]
  clear hL
  go_enter Tryz.func55, Tryz.ntmps55
  go_wp2
  go_loopw [5, 1] (fun b v wr => ∃ (x : List UInt8) (m : Nat), v = .int .u64 m ∧ m < 18446744073709551616 ∧ l ++ uv n = x ++ uv m ∧ RoomB w wr b x) (fun _ v _ => (intOf v).toNat)
  case atStart => exact ⟨l, n, rfl, hn, rfl, hR'.out⟩
  case round =>
    obtain ⟨x, m, rfl, hm, hu, hR⟩ := hrel
    have hlen : (l ++ uv n).length = x.length + (uv m).length := by rw [hu, List.length_append]
    have hlen2 := uv_len10 hn
    have hlen3 := uv_len10 hm
    rw [List.length_append] at hlen
    have hx : x.length ≤ 1000000000 := by have := hL'.out; omega
    obtain ⟨_, p1, c1, rfl, _⟩ := id hR
    by_cases hlt : m < 128
    · have ht : ¬ (127 : Int) < (m : Int) := by omega
      have ht2 : ¬ (128 : Int) ≤ (m : Int) := by omega
      obtain ⟨p2, c2, w2, e2, o2, b2⟩ := hR.put (UInt8.ofNat m) hx
      rw [ofNat_toNat (by omega)] at e2
      rw [uv_small hlt] at hu
      have o2' := Lib.hid o2
      have hu' := Lib.hid hu
      clear hlen hR hR' hu o2 hlen2 hlen3
      go_wp2
      go_ret
      rw [hu'.out]
      exact ⟨p2, c2, by simp, by simpa using o2'.out, b2⟩
    · have ht : (127 : Int) < (m : Int) := by omega
      have ht2 : (128 : Int) ≤ (m : Int) := by omega
      obtain ⟨p2, c2, w2, e2, o2, b2⟩ := hR.put (UInt8.ofNat (m % 128 + 128)) hx
      rw [add128] at e2
      rw [uv_big hlt] at hu
      have o2' := Lib.hid o2
      have hu' := Lib.hid hu
      clear hlen hR hR' hu o2 hlen2 hlen3
      go_wp2
      go_roundw
      case rel => exact ⟨x ++ [UInt8.ofNat (m % 128 + 128)], m / 128, by go_num, by omega, by rw [hu'.out]; simp, b2, p2, c2, by simp, .inl (by simpa using o2'.out)⟩
      case measure => simp [intOf]; omega
set_option maxHeartbeats 1000000 in
set_option maxRecDepth 100000 in
theorem putText02_calls (v : Value) (l : List UInt8) (s : ByteArray) (w : World) (hv : Bytes w v l) (hl : l.length ≤ 90000000) (hs : s.size ≤ 2000000) :
    Calls Tryz.prog 56 #[v, .string s] w (MadeB w (l ++ utx s)) := by
  have hP := Lib.hid (put02_calls v l s.size w hv (by omega) (by omega))
  have hu := uv_len10 (n := s.size) (by omega)
  have hs2 : s.size < 9223372036854775808 := by omega
  clear hv
  go_enter Tryz.func56, Tryz.ntmps56
  go_wp2_with fail
  refine hP.out.mono ?_
  rintro e w1 ⟨p1, c1, rfl, o1, b1⟩
  obtain ⟨x, hx⟩ : ∃ x, l ++ uv s.size = x := ⟨_, rfl⟩
  have hxl : x.length = l.length + (uv s.size).length := by rw [← hx, List.length_append]
  rw [hx] at o1 ⊢
  obtain ⟨p2, c2, w2, e2, o2, k2⟩ := o1.putS (s := s) (by omega) b1.size
  have b2 := Lib.hid (Keeps.below_step b1 b1.size k2 fun j e => (o1.lt j e).1)
  have he : x ++ s.data.toList = l ++ utx s := by rw [← hx]; unfold utx; rw [List.append_assoc]
  rw [he] at e2 o2
  obtain ⟨N, hN⟩ : ∃ N, (l ++ utx s).length = N := ⟨_, rfl⟩
  have o2' := Lib.hid o2
  rw [hN] at e2
  have hN' := Lib.hid hN
  clear hP hu hxl hx he k2 o1 o2 b1 hN
  go_wp2_with fail
  go_ret
  exact ⟨p2, c2, by rw [hN'.out]; rfl, o2'.out, b2.out⟩
end Go.Proofs.YtabcdodjkfknlaaGreatDoor
namespace Go.Proofs.YtabcdodjkfknlaaGreatDoor
open Go.RowKit
attribute [local go_sem ↓] dapp_op dslK_op
attribute [local go_sem] Oper.semAt_some
set_option maxHeartbeats 4000000 in
set_option maxRecDepth 100000 in
theorem right16_calls (p q : Option Addr) (c d : Nat) (x : Edt) (w : World) (hA : rkT.At w p x.add) (hD : rkI.At w q x.drop) (hf : x.few = true) (hq : q = none → d = 0) :
    Calls Tryz.prog 16 #[.agg #[.slice p x.add.length c, .slice q x.drop.length d, .int .u64 x.floor, .int .u64 x.head, .int .i64 x.log, .int .i64 x.next]] w fun e w' => e = .returned (.bool x.right) ∧ Below w.heap.size w w' := by
  have hB1 : Below w.heap.size w (w.alloc (.cells #[.slice p x.add.length c, .slice q x.drop.length d, .int .u64 x.floor, .int .u64 x.head, .int .i64 x.log, .int .i64 x.next] 33)) := (Below.refl _ w).alloc (Nat.le_refl _) _
  have hC := Lib.hid (numbers16_calls p q c d x _ (hA.below hB1) (hD.below hB1) hf hq)
  have b1 := (Blk.new w 33 #[.slice p x.add.length c, .slice q x.drop.length d, .int .u64 x.floor, .int .u64 x.head, .int .i64 x.log, .int .i64 x.next]).cell
  have hR := right_nums x
  obtain ⟨R, hRe⟩ : ∃ R, x.right = R := ⟨_, rfl⟩
  rw [hRe] at hR ⊢
  obtain ⟨ns, hns⟩ : ∃ ns, x.numsE = ns := ⟨_, rfl⟩
  rw [hns] at hR hC
  have hl : ns.length ≤ 200 := by
    unfold Edt.few at hf
    rw [Bool.and_eq_true, Bool.and_eq_true, decide_eq_true_eq, decide_eq_true_eq] at hf
    obtain ⟨_, ha, hd⟩ := hf
    rw [← hns]
    unfold Edt.numsE
    rw [List.length_append, nums_len, List.length_append]
    show 2 + _ + _ ≤ _
    omega
  obtain ⟨N, hN⟩ : ∃ N, ns.length = N := ⟨_, rfl⟩
  rw [hN] at hl
  have hR' := Lib.hid hR
  have hN' := Lib.hid hN
  have hB1' := Lib.hid hB1
  clear hA hD hf hq hR hRe hns hN hB1
  go_enter Tryz.func16, Tryz.ntmps16
  go_wp2_with fail
  refine hC.out.mono ?_
  rintro e w1 ⟨p1, c1, rfl, o1, b2⟩
  have hB2 := Lib.hid (hB1'.out.trans (b2.mono hB1'.out.size))
  have hAt := o1.at_ rkI_ok
  rw [hN'.out]
  have hAt' := Lib.hid hAt
  clear b2 o1 hAt hC b1
  go_wp2
  go_loopw [4, 8] (fun _ i wr => ∃ k : Nat, i = .int .i64 k ∧ k ≤ N ∧ (ns.take k).all (fun n => !oddI n) = true ∧ w1 = wr) (fun _ i _ => N - (intOf i).toNat)
  case atStart => exact ⟨0, rfl, Nat.zero_le _, rfl, rfl⟩
  case round =>
    obtain ⟨k, rfl, hk, hall, rfl⟩ := hrel
    have hall' := Lib.hid hall
    clear hall
    by_cases hlt : k < N
    · obtain ⟨n, hn⟩ : ∃ n, ns[k]? = some n := ⟨_, List.getElem?_eq_getElem (by rw [hN'.out]; exact hlt)⟩
      obtain ⟨a, rfl, hab, hc⟩ := hAt'.out k n hn
      have hc0 := hc 0 _ rfl
      rw [show rkI.K = 1 from rfl, Nat.mul_one, Nat.add_zero] at hc0
      have hmem := Lib.hid (List.mem_of_getElem? hn)
      have htk : Hid ((ns.take (k + 1)).all (fun n => !oddI n) = !oddI n) := Lib.hid (by
        rw [List.take_add_one, hn, List.all_append, hall'.out]; simp)
      have n1 : 0 < N := by omega
      clear hn hc
      by_cases h0 : n < 0
      · obtain rfl : R = false := by
          rw [← hR'.out, List.all_eq_false]
          exact ⟨n, hmem.out, by unfold oddI; simp [h0]⟩
        go_wp2
        go_ret
        exact ⟨rfl, hB2.out⟩
      · by_cases h1 : 4611686018427387904 ≤ n
        · obtain rfl : R = false := by
            rw [← hR'.out, List.all_eq_false]
            exact ⟨n, hmem.out, by unfold oddI; simp [h1]⟩
          go_wp2
          go_ret
          exact ⟨rfl, hB2.out⟩
        · have ho : oddI n = false := oddI_no.2 (by omega)
          rw [ho] at htk
          clear ho
          go_wp2
          go_roundw
          case rel => exact ⟨k + 1, by go_num, by omega, htk.out, trivial⟩
          case measure => simp [intOf]; omega
    · obtain rfl : k = N := by omega
      obtain rfl : R = true := by
        rw [← hR'.out]
        have := hall'.out
        rwa [List.take_of_length_le (Nat.le_of_eq hN'.out)] at this
      go_wp2
      go_ret
      exact ⟨rfl, hB2.out⟩
/-- the document's sum of bytes: some number -/
def SumSome (w : World) (e : Ending) (w' : World) : Prop := ∃ n : Nat, e = .returned (.int .u32 n) ∧ n < 4294967296 ∧ w = w'
theorem u32_bits {op : BinOp} (a b : Int) : ∃ n : Nat, bits op .u32 a b = (n : Int) ∧ n < 4294967296 := by
  have h1 := bits_lo_u32 op a b
  have h2 := bits_hi_u32 op a b
  exact ⟨(bits op .u32 a b).toNat, by omega, by omega⟩
set_option maxHeartbeats 4000000 in
set_option maxRecDepth 100000 in
theorem sum03_calls (v : Value) (l : List UInt8) (w : World) (hv : Bytes w v l) (hl : l.length ≤ 100000000) :
    Calls Tryz.prog 54 #[v] w (SumSome w) := by
  obtain ⟨p, c, rfl⟩ := hv.slice
  have hv' := Lib.hid hv
  clear hv
  obtain ⟨L, hL⟩ : ∃ L, l.length = L := ⟨_, rfl⟩
  rw [hL] at hv' hl ⊢
  have hL' := Lib.hid hL
  clear hL
  go_enter Tryz.func54, Tryz.ntmps54
  go_wp2
  go_loopw [3, 5, 6, 7, 10] (fun s _ _ _ i wr => ∃ k n : Nat, i = .int .i64 k ∧ k ≤ L ∧ s = .int .u32 n ∧ n < 4294967296 ∧ w = wr) (fun _ _ _ _ i _ => L - (intOf i).toNat)
  case atStart => exact ⟨0, 4294967295, rfl, Nat.zero_le _, rfl, by decide, rfl⟩
  case round =>
    obtain ⟨k, n, rfl, hk, rfl, hn, rfl⟩ := hrel
    by_cases hlt : k < L
    · obtain ⟨x, hx⟩ : ∃ x, l[k]? = some x := ⟨_, List.getElem?_eq_getElem (by rw [hL'.out]; exact hlt)⟩
      obtain ⟨g, o, rfl, hc⟩ := hv'.out.cellAt hx
      obtain ⟨m0, hm0, hm0l⟩ := u32_bits (op := .xor) (n : Int) (x.toNat : Int)
      have n1 : 0 < L := by omega
      have hxl := x.toNat_lt
      clear hx
      go_wp2
      go_loopw [3, 6, 7] (fun s i _ wr => ∃ j m : Nat, i = .int .i64 j ∧ j ≤ 8 ∧ s = .int .u32 m ∧ m < 4294967296 ∧ w = wr) (fun _ i _ _ => 8 - (intOf i).toNat)
      case atStart => exact ⟨0, m0, rfl, by omega, rfl, hm0l, rfl⟩
      case round =>
        obtain ⟨j, m, rfl, hj, rfl, hm, rfl⟩ := hrel
        clear hm0
        obtain ⟨m1, hm1, hm1l⟩ := u32_bits (op := .xor) ((m : Int) / 2) 3988292384
        by_cases hjl : j < 8
        · have hd3 : decide (j < 8) = true := by simpa using hjl
          by_cases ho : m % 2 = 1
          · have t1 : ((m : Int) % 2 == 1) = true := by simp; omega
            have t2 : (m % 2 == 1) = true := by simpa using ho
            go_wp2
            go_roundw
            case rel => exact ⟨j + 1, m1, by go_num, by omega, rfl, hm1l, trivial⟩
            case measure => simp [intOf]; omega
          · have t1 : ((m : Int) % 2 == 1) = false := by simp; omega
            have t2 : (m % 2 == 1) = false := by simpa using ho
            go_wp2
            go_roundw
            case rel => exact ⟨j + 1, m / 2, by go_num, by omega, by go_num, by omega, trivial⟩
            case measure => simp [intOf]; omega
        · obtain rfl : j = 8 := by omega
          go_wp2
          go_roundw
          case rel => exact ⟨k + 1, m, by go_num, by omega, rfl, hm, trivial⟩
          case measure => simp [intOf]; omega
    · obtain rfl : k = L := by omega
      obtain ⟨m1, hm1, hm1l⟩ := u32_bits (op := .xor) (n : Int) 4294967295
      go_wp2
      go_ret
      exact ⟨m1, rfl, hm1l, rfl⟩
theorem BOwn.lit4 (w : World) (a b c d : Nat) (ha : a < 256) (hb : b < 256) (hc : c < 256) (hd : d < 256) : BOwn w.heap.size (w.alloc (.cells #[.int .u8 (a : Int), .int .u8 (b : Int), .int .u8 (c : Int), .int .u8 (d : Int)] 5)) (.slice (some ⟨w.heap.size, 0, none⟩) 4 4) [UInt8.ofNat a, UInt8.ofNat b, UInt8.ofNat c, UInt8.ofNat d] := by
  have h : bcells [UInt8.ofNat a, UInt8.ofNat b, UInt8.ofNat c, UInt8.ofNat d] = [.int .u8 (a : Int), .int .u8 (b : Int), .int .u8 (c : Int), .int .u8 (d : Int)] := by
    show [Value.int .u8 ((UInt8.ofNat a).toNat : Int), .int .u8 ((UInt8.ofNat b).toNat : Int), .int .u8 ((UInt8.ofNat c).toNat : Int), .int .u8 ((UInt8.ofNat d).toNat : Int)] = _
    rw [ofNat_toNat ha, ofNat_toNat hb, ofNat_toNat hc, ofNat_toNat hd]
  refine ⟨by rw [h]; rfl, .inr ⟨w.heap.size, 4, _, rfl, Nat.le_refl _, heap_alloc_new w _, Nat.le_refl _, by unfold maxLen; show (4 : Nat) ≤ _; decide, rfl, ?_⟩⟩
  rw [h]
  rfl
set_option maxHeartbeats 1000000 in
set_option maxRecDepth 100000 in
theorem four03_calls (n : Nat) (w : World) (hn : n < 4294967296) : Calls Tryz.prog 53 #[.int .u32 n] w (MadeB w (be32 n)) := by
  have hbe : be32 n = [UInt8.ofNat (n / 16777216), UInt8.ofNat (n / 65536 % 256), UInt8.ofNat (n / 256 % 256), UInt8.ofNat (n % 256)] := rfl
  have y0 : ((n / 16777216 : Nat) : Int) = (n : Int) / 16777216 := by omega
  have y1 : ((n / 65536 % 256 : Nat) : Int) = (n : Int) / 65536 % 256 := by omega
  have y2 : ((n / 256 % 256 : Nat) : Int) = (n : Int) / 256 % 256 := by omega
  have y3 : ((n % 256 : Nat) : Int) = (n : Int) % 256 := by omega
  have o := BOwn.lit4 w (n / 16777216) (n / 65536 % 256) (n / 256 % 256) (n % 256) (by omega) (by omega) (by omega) (by omega)
  rw [y0, y1, y2, y3] at o
  rw [hbe]
  have o' := Lib.hid o
  clear o y0 y1 y2 y3 hbe
  go_enter Tryz.func53, Tryz.ntmps53
  go_wp2
  go_ret
  exact ⟨_, _, rfl, o'.out, (Below.refl _ w).alloc (Nat.le_refl _) _⟩
/-- a frame of bytes, with some sum -/
def SealSome (w : World) (l : List UInt8) (e : Ending) (w' : World) : Prop := ∃ n : Nat, n < 4294967296 ∧ MadeB w (be32 l.length ++ be32 n ++ l) e w'
set_option maxHeartbeats 1000000 in
set_option maxRecDepth 100000 in
theorem seal03_calls (v : Value) (l : List UInt8) (w : World) (hv : Bytes w v l) (hl : l.length ≤ 100000000) :
    Calls Tryz.prog 19 #[v] w (SealSome w l) := by
  have hS := fun W (hb : Below w.heap.size w W) => sum03_calls v l W (hv.later hb) hl
  obtain ⟨p, c, rfl⟩ := hv.slice
  have hv' := Lib.hid hv
  have hS' := Lib.hid hS
  obtain ⟨L, hL⟩ : ∃ L, l.length = L := ⟨_, rfl⟩
  rw [hL] at hv' hl hS' ⊢
  have hL' := Lib.hid hL
  have h4 := Lib.hid (four03_calls L w (by omega))
  clear hL hv hS
  go_enter Tryz.func19, Tryz.ntmps19
  go_wp2_with fail
  refine h4.out.mono ?_
  rintro e w1 ⟨p1, c1, rfl, o1, b1⟩
  have o1' := Lib.hid o1
  have b1' := Lib.hid b1
  clear o1 b1
  go_wp2_with fail
  refine (hS'.out w1 b1'.out).mono ?_
  rintro e w2 ⟨n, rfl, hn, rfl⟩
  have h5 := Lib.hid (four03_calls n w1 hn)
  go_wp2_with fail
  refine h5.out.mono ?_
  rintro e w3 ⟨p3, c3, rfl, o3, b3⟩
  have b13 := b1'.out.trans (b3.mono b1'.out.size)
  obtain ⟨q1, d1, w4, e4, o4, k4⟩ := (o1'.out.later b3).put o3.bytes (by show 4 + 4 ≤ _; omega) b13.size
  have b14 := b13.trans (k4.below (fun j _ e => (o1'.out.lt j e).1) b13.size)
  obtain ⟨q2, d2, w5, e5, o5, k5⟩ := o4.put (hv'.out.later b14) (by rw [List.length_append, hL'.out]; show 4 + 4 + L ≤ _; omega) b14.size
  have b15 := Lib.hid (b14.trans (k5.below (fun j _ e => (o4.lt j e).1) b14.size))
  have e4 : (dappOp #[43, 43] 43 #[.slice p1 4 c1, .slice p3 4 c3]).run Tryz.prog w3 = .ok (.slice q1 8 d1) w4 := e4
  have hlen : (be32 L ++ be32 n ++ l).length = 8 + L := by rw [List.length_append, hL'.out]; rfl
  rw [hL'.out] at e5
  have e5 : (dappOp #[43, 43] 43 #[.slice q1 8 d1, .slice p L c]).run Tryz.prog w4 = .ok (.slice q2 (8 + L) d2) w5 := e5
  have o5' := Lib.hid o5
  have hlen' := Lib.hid hlen
  clear o5 hlen b14 b13 o4 k4 k5 o3 b3
  have x1 : (be32 L).length = 4 := rfl
  have x2 : (be32 n).length = 4 := rfl
  rw [x2]
  go_wp2_with fail
  go_ret
  refine ⟨n, hn, q2, d2, ?_, ?_, b15.out⟩
  · rw [hL'.out, hlen'.out]
    rfl
  · rw [hL'.out, hlen'.out]
    have := o5'.out
    rw [hL'.out] at this
    exact this
end Go.Proofs.YtabcdodjkfknlaaGreatDoor
namespace Go.Proofs.YtabcdodjkfknlaaGreatDoor
open Go.RowKit
attribute [local go_sem] Oper.semAt_some
abbrev Tbl.arg (t : Tbl) : Value := .agg #[.int .i64 t.num, .int .i64 t.level, .int .i64 t.size, .string t.first, .string t.last]
/-- the document's order of tables is the program's -/
theorem lessT_eq (a b : Tbl) : decide (ordT a b < 0) = if a.level = b.level then (if a.level = 0 ∨ a.first.toList = b.first.toList then decide (a.num < b.num) else Op.bytesLess a.first.toList b.first.toList) else decide (a.level < b.level) := by
  have hn : decide (cmpI a.num b.num < 0) = decide (a.num < b.num) := by rw [decide_eq_decide]; exact cmpI_lt
  by_cases hl : a.level = b.level
  · rw [if_pos hl]
    have hc : cmpI a.level b.level = 0 := by rw [hl]; exact cmpI_self _
    by_cases h0 : a.level = 0
    · rw [if_pos (.inl h0)]
      unfold ordT
      rw [if_pos (.inr h0), hc]
      show decide (orI 0 (cmpI a.num b.num) < 0) = _
      exact hn
    · unfold ordT
      rw [if_neg (by rintro (h | h); exact h hc; exact h0 h)]
      have hb : Op.bytesLess a.first.toList b.first.toList = decide (Lib.compareBytes a.first.data.toList b.first.data.toList = -1) := by rw [Lib.toList_data, Lib.toList_data, cb_less]
      rw [hb]
      by_cases hf : a.first.toList = b.first.toList
      · rw [if_pos (.inr hf)]
        have : Lib.compareBytes a.first.data.toList b.first.data.toList = 0 := by rw [Lib.toList_data, Lib.toList_data] at hf; rw [hf]; exact cb_self _
        rw [this]
        show decide (orI 0 (cmpI a.num b.num) < 0) = _
        exact hn
      · rw [if_neg (by rintro (h | h); exact h0 h; exact hf h)]
        have hne : Lib.compareBytes a.first.data.toList b.first.data.toList ≠ 0 := fun e => hf (by rw [Lib.toList_data, Lib.toList_data]; exact cb_eq _ _ e)
        rcases cb_three a.first.data.toList b.first.data.toList with h | h | h
        · exact absurd h hne
        · rw [h]; rfl
        · rw [h]; rfl
  · rw [if_neg hl]
    have hc : cmpI a.level b.level ≠ 0 := fun e => hl (cmpI_eq e)
    unfold ordT
    rw [if_pos (.inl hc)]
    unfold orI
    rw [if_neg hc, decide_eq_decide]
    exact cmpI_lt
set_option maxHeartbeats 4000000 in
set_option maxRecDepth 100000 in
theorem less16_calls (a b : Tbl) (w : World) : Calls Tryz.prog 39 #[a.arg, b.arg] w fun e w' => e = .returned (.bool (decide (ordT a b < 0))) ∧ Below w.heap.size w w' := by
  rw [lessT_eq]
  obtain ⟨an, al, az, af, ax⟩ := a
  obtain ⟨bn, bl, bz, bf, bx⟩ := b
  simp only
  have hB : Below w.heap.size w ((w.alloc (.cells #[.int .i64 an, .int .i64 al, .int .i64 az, .string af, .string ax] 76)).alloc (.cells #[.int .i64 bn, .int .i64 bl, .int .i64 bz, .string bf, .string bx] 76)) := ((Below.refl _ w).alloc (Nat.le_refl _) _).alloc (by simp) _
  have hB' := Lib.hid hB
  clear hB
  by_cases hl : al = bl
  · subst hl
    rw [if_pos rfl]
    by_cases h0 : al = 0
    · subst h0
      rw [if_pos (.inl rfl)]
      go_enter Tryz.func39, Tryz.ntmps39
      go_wp2
      go_ret
      exact ⟨rfl, hB'.out⟩
    · have t0 : (al == 0) = false := by simpa using h0
      by_cases hf : af.toList = bf.toList
      · have e : (if al = 0 ∨ af.toList = bf.toList then decide (an < bn) else Op.bytesLess af.toList bf.toList) = decide (an < bn) := if_pos (.inr hf)
        rw [e]
        obtain rfl : af = bf := by
          rw [Lib.toList_data, Lib.toList_data] at hf
          exact bytes_ext hf
        clear e hf
        go_enter Tryz.func39, Tryz.ntmps39
        go_wp2
        go_ret
        exact ⟨rfl, hB'.out⟩
      · have e : (if al = 0 ∨ af.toList = bf.toList then decide (an < bn) else Op.bytesLess af.toList bf.toList) = Op.bytesLess af.toList bf.toList := if_neg (by rintro (h | h); exact h0 h; exact hf h)
        rw [e]
        have t1 : (af.toList == bf.toList) = false := by simpa using hf
        clear e hf
        go_enter Tryz.func39, Tryz.ntmps39
        go_wp2
        go_ret
        exact ⟨rfl, hB'.out⟩
  · rw [if_neg hl]
    have t0 : (al != bl) = true := by simpa using hl
    have t1 : (al == bl) = false := by simpa using hl
    clear hl
    go_enter Tryz.func39, Tryz.ntmps39
    go_wp2
    go_ret
    exact ⟨rfl, hB'.out⟩
end Go.Proofs.YtabcdodjkfknlaaGreatDoor
