/- Walk: the document's Apply. -/
import Derived.Test.YtabcdodjkfknlaaGreatDoorPL23
import Derived.Test.YtabcdodjkfknlaaGreatDoorPL24
import Derived.Test.YtabcdodjkfknlaaGreatDoorPL20
import Derived.Deep.RegionHeld3
import Derived.Deep.DeepCutAuto
import Derived.BigRegion
import Derived.IntWalk
namespace Go.Proofs.YtabcdodjkfknlaaGreatDoor
open Go.RowKit
attribute [local go_sem ↓] dapp_op dslK_op
attribute [local go_sem] Oper.semAt_some
/-- the three orders of an insertion -/
theorem put_ordersT {B : Nat} {w8 : World} {ps : Option Addr} {M cs q : Nat} {S : List Tbl} (x : Tbl) (hS : rkT.Own B w8 (.slice ps M cs) S) (hM : S.length = M) (hq : q ≤ M) (hM2 : M ≤ 100000) :
    ∃ x3 : Value, (∀ W, (dslK 27 (.slice ps M cs) none (some (.int .i64 q)) none).run Tryz.prog W = .ok (.slice ps q cs) W) ∧ (∀ W, (dslK 27 (.slice ps M cs) (some (.int .i64 q)) none none).run Tryz.prog W = .ok x3 W) ∧
      (∃ p1 k1 w1 p2 k2 w2 p3 k3 w3, ThreeK rkT Tryz.prog w8 ((w8.alloc (.cells #[] 76)).alloc (.cells #[.int .i64 x.num, .int .i64 x.level, .int .i64 x.size, .string x.first, .string x.last] 76)).drew w1 (.slice (some ⟨w8.heap.size, 0, none⟩) 0 0) (.slice ps q cs) x3 (w8.heap.size + 1) q (M - q) (S.take q) (S.drop q) x p1 k1 w1 p2 k2 w2 p3 k3 w3) ∧
      (∃ p1 k1 w1 p2 k2 w2 p3 k3 w3, ThreeK rkT Tryz.prog w8 ((w8.alloc (.cells #[.int .i64 x.num, .int .i64 x.level, .int .i64 x.size, .string x.first, .string x.last] 76)).alloc (.cells #[] 76)).drew w1 (.slice (some ⟨w8.heap.size + 1, 0, none⟩) 0 0) (.slice ps q cs) x3 w8.heap.size q (M - q) (S.take q) (S.drop q) x p1 k1 w1 p2 k2 w2 p3 k3 w3) ∧
      (∃ p1 k1 w1 p2 k2 w2 p3 k3 w3, ThreeK rkT Tryz.prog w8 (w8.alloc (.cells #[] 76)).drew (w1.alloc (.cells #[.int .i64 x.num, .int .i64 x.level, .int .i64 x.size, .string x.first, .string x.last] 76)) (.slice (some ⟨w8.heap.size, 0, none⟩) 0 0) (.slice ps q cs) x3 w1.heap.size q (M - q) (S.take q) (S.drop q) x p1 k1 w1 p2 k2 w2 p3 k3 w3) := by
  subst hM
  have hcap : S.length ≤ cs := by
    rcases hS.2 with ⟨e, _⟩ | ⟨g, cap, cur, e, _, _, h3, _⟩
    · injection e with _ e2 e3; omega
    · injection e with _ e2 e3; omega
  have c1 := RowK.can_low (i := q) rkT_ok hS hq (by omega)
  have c3 := RowK.can_high (i := q) rkT_ok hS hq (by omega)
  have hn1 : (S.take q).length = q := by rw [List.length_take]; omega
  have bE := (Below.refl w8.heap.size w8).alloc (Nat.le_refl _) (.cells #[] 76)
  have bO := (Below.refl w8.heap.size w8).alloc (Nat.le_refl _) (.cells #[.int .i64 x.num, .int .i64 x.level, .int .i64 x.size, .string x.first, .string x.last] 76)
  have bEO := (bE.alloc (by simp) (.cells #[.int .i64 x.num, .int .i64 x.level, .int .i64 x.size, .string x.first, .string x.last] 76)).drew
  have bOE := (bO.alloc (by simp) (.cells #[] 76)).drew
  have oE : rkT.Own w8.heap.size (w8.alloc (.cells #[] 76)) (.slice (some ⟨w8.heap.size, 0, none⟩) 0 0) [] := World.ownsRow_lit w8 #[] 0 (Nat.le_refl _) (by unfold maxLen; omega) rfl
  have oE2 := World.ownsRow_lit (base := w8.heap.size) (e := 76) (size := 5) (w8.alloc (.cells #[.int .i64 x.num, .int .i64 x.level, .int .i64 x.size, .string x.first, .string x.last] 76)) #[] 0 (by simp) (by unfold maxLen; omega) rfl
  rw [World.size_alloc] at oE2
  have oEO : rkT.Own w8.heap.size ((w8.alloc (.cells #[] 76)).alloc (.cells #[.int .i64 x.num, .int .i64 x.level, .int .i64 x.size, .string x.first, .string x.last] 76)).drew (.slice (some ⟨w8.heap.size, 0, none⟩) 0 0) [] := oE.later (((Below.refl _ _).alloc (Nat.le_refl _) (.cells #[.int .i64 x.num, .int .i64 x.level, .int .i64 x.size, .string x.first, .string x.last] 76)).drew)
  have oOE : rkT.Own w8.heap.size ((w8.alloc (.cells #[.int .i64 x.num, .int .i64 x.level, .int .i64 x.size, .string x.first, .string x.last] 76)).alloc (.cells #[] 76)).drew (.slice (some ⟨w8.heap.size + 1, 0, none⟩) 0 0) [] := oE2.drew
  have hbO := Blk.new (w8.alloc (.cells #[] 76)) 76 #[.int .i64 x.num, .int .i64 x.level, .int .i64 x.size, .string x.first, .string x.last]
  rw [World.size_alloc] at hbO
  exact ⟨_, fun W => rkT_ok.low_run ps S.length cs q (by omega) W, fun W => rkT_ok.high_run ps S.length cs q hq W,
    threeK_one rkT_ok hn1 (by omega) bEO oEO c1 c3 hbO.drew rfl (by simp [Value.ownBlock]),
    threeK_one rkT_ok hn1 (by omega) bOE oOE c1 c3 (((Blk.new w8 76 #[.int .i64 x.num, .int .i64 x.level, .int .i64 x.size, .string x.first, .string x.last]).alloc (.cells #[] 76)).drew) rfl (by simp [Value.ownBlock]),
    threeK_late rkT_ok rfl hn1 (by omega) bE.drew oE c1 c3⟩
/-- two appends: what lies ahead of a place, and behind it -/
structure TwoK (P : Program) (Wd W1 : World) (v0 x1 x3 : Value) (i m : Nat) (n1 n3 : List Tbl) (p1 : Option Addr) (c1 : Nat) (w1 : World) (p3 : Option Addr) (c3 : Nat) (w3 : World) : Prop where
  r1 : (dappOp #[27, 27] 27 #[v0, x1]).run P W1 = .ok (.slice p1 i c1) w1
  r3 : (dappOp #[27, 27] 27 #[.slice p1 i c1, x3]).run P w1 = .ok (.slice p3 (i + m) c3) w3
  b3 : Below Wd.heap.size Wd w3
  own : rkT.Own Wd.heap.size w3 (.slice p3 (i + m) c3) (n1 ++ n3)
theorem cut_orders {B : Nat} {w8 : World} {ps : Option Addr} {M cs q : Nat} {S : List Tbl} (hS : rkT.Own B w8 (.slice ps M cs) S) (hM : S.length = M) (hq : q < M) (hM2 : M ≤ 100000) :
    ∃ x3 : Value, (∀ W, (dslK 27 (.slice ps M cs) none (some (.int .i64 q)) none).run Tryz.prog W = .ok (.slice ps q cs) W) ∧ (∀ W, (dslK 27 (.slice ps M cs) (some (.int .i64 ((q : Int) + 1))) none none).run Tryz.prog W = .ok x3 W) ∧
      (∃ p1 k1 w1 p3 k3 w3, TwoK Tryz.prog w8 (w8.alloc (.cells #[] 76)).drew (.slice (some ⟨w8.heap.size, 0, none⟩) 0 0) (.slice ps q cs) x3 q (M - (q + 1)) (S.take q) (S.drop (q + 1)) p1 k1 w1 p3 k3 w3) := by
  subst hM
  have hcap : S.length ≤ cs := by
    rcases hS.2 with ⟨e, _⟩ | ⟨g, cap, cur, e, _, _, h3, _⟩
    · injection e with _ e2 e3; omega
    · injection e with _ e2 e3; omega
  have c1 := RowK.can_low (i := q) rkT_ok hS (by omega) (by omega)
  have c3 := RowK.can_high (i := q + 1) rkT_ok hS (by omega) (by omega)
  have hn1 : (S.take q).length = q := by rw [List.length_take]; omega
  have bE := (Below.refl w8.heap.size w8).alloc (Nat.le_refl _) (.cells #[] 76)
  have oE : rkT.Own w8.heap.size (w8.alloc (.cells #[] 76)) (.slice (some ⟨w8.heap.size, 0, none⟩) 0 0) [] := World.ownsRow_lit w8 #[] 0 (Nat.le_refl _) (by unfold maxLen; omega) rfl
  have oD : rkT.Own w8.heap.size (w8.alloc (.cells #[] 76)).drew (.slice (some ⟨w8.heap.size, 0, none⟩) 0 0) [] := oE.later (Below.refl _ _).drew
  obtain ⟨p1, k1, w1, r1, o1, q1, b1⟩ := c1.go bE.drew (by simp) oD
  rw [show ([] : List Tbl).length + q = q by simp] at r1 o1
  rw [List.nil_append] at o1
  obtain ⟨p3, k3, w3, r3, o3, q3, b3⟩ := c3.go b1 (by rw [hn1]; omega) o1
  rw [hn1] at r3 o3
  exact ⟨_, fun W => rkT_ok.low_run ps S.length cs q (by omega) W, fun W => by have := rkT_ok.high_run ps S.length cs (q + 1) (by omega) W; rwa [Int.natCast_add] at this, p1, k1, w1, p3, k3, w3, r1, r3, b3, o3⟩
/-- what stands while Apply reckons -/
structure AyAt (w wr : World) (vc ec : Array Value) : Prop where
  v : Blk wr w.heap.size 30 vc
  e : Blk wr (w.heap.size + 1) 33 ec
  z : Blk wr (w.heap.size + 2) 30 vZero
  b : Below w.heap.size w wr
theorem AyAt.later {w wr w' : World} {vc ec : Array Value} (h : AyAt w wr vc ec) (hb : Below wr.heap.size wr w') : AyAt w w' vc ec :=
  ⟨h.v.below hb h.v.lt, h.e.below hb h.e.lt, h.z.below hb h.z.lt, h.b.trans (hb.mono h.b.size)⟩
theorem Own.none_cap' {B : Nat} {w : World} {p : Option Addr} {n c : Nat} {α : Type} {r : RowK α} {l : List α} (h : r.Own B w (.slice p n c) l) : p = none → c = 0 := fun e => by subst e; exact h.none_cap.2
theorem Own.cap_le {α : Type} {r : RowK α} {B : Nat} {w : World} {p : Option Addr} {n c : Nat} {l : List α} (h : r.Own B w (.slice p n c) l) : n ≤ c := by
  rcases h.2 with ⟨e, _⟩ | ⟨g, cap, cur, e, _, _, h3, _⟩
  · injection e with _ e2 e3; omega
  · injection e with _ e2 e3; omega
/-- tables of a version and of an edit -/
def From (tv ta : List Tbl) (l : List Tbl) : Prop := ∀ t ∈ l, t ∈ tv ∨ t ∈ ta
theorem From.cut {tv ta l : List Tbl} (h : From tv ta l) (j : Nat) : From tv ta (l.take j ++ l.drop (j + 1)) := fun t ht => by
  rcases List.mem_append.1 ht with h' | h'
  · exact h t (List.mem_of_mem_take h')
  · exact h t (List.mem_of_mem_drop h')
theorem From.ins {tv ta l : List Tbl} (h : From tv ta l) {t : Tbl} (ht : t ∈ ta) : From tv ta (insT l t) := fun u hu => by
  rcases (insT_mem l t u).1 hu with h' | h'
  · exact h u h'
  · rw [h']; exact .inr ht
/-- the place of a number among the first j tables -/
def AtIs (l : List Tbl) (n : Int) (j : Nat) (a : Value) : Prop := (a = .int .i64 (-1) ∧ ∀ (i : Nat) (t : Tbl), i < j → l[i]? = some t → t.num ≠ n) ∨ ∃ (q : Nat) (t : Tbl), q < j ∧ a = .int .i64 (q : Int) ∧ l[q]? = some t ∧ t.num = n
theorem AtIs.yes {l : List Tbl} {n : Int} {j : Nat} {t : Tbl} (ht : l[j]? = some t) (hn : t.num = n) : AtIs l n (j + 1) (.int .i64 (j : Int)) := .inr ⟨j, t, Nat.lt_succ_self j, rfl, ht, hn⟩
theorem AtIs.no {l : List Tbl} {n : Int} {j : Nat} {a : Value} {t : Tbl} (h : AtIs l n j a) (ht : l[j]? = some t) (hn : t.num ≠ n) : AtIs l n (j + 1) a := by
  rcases h with ⟨rfl, h⟩ | ⟨q, u, h1, rfl, h2, h3⟩
  · refine .inl ⟨rfl, fun i u hi hu => ?_⟩
    by_cases e : i = j
    · subst e; rw [ht] at hu; obtain rfl := Option.some.inj hu; exact hn
    · exact h i u (by omega) hu
  · exact .inr ⟨q, u, by omega, rfl, h2, h3⟩
set_option maxHeartbeats 8000000 in
set_option maxRecDepth 100000 in
theorem apply16_calls (B : Nat) (vv ve : Value) (x : Ver) (e : Edt) (w : World) (hv : VerOwn B w vv x) (he : EdtIs B w ve e) (hvg : x.good 40000) (heg : e.good 40000) :
    Calls Tryz.prog 76 #[vv, ve] w (ApplyPost w (applyV x e)) := by
  rw [← applyD_eq]
  obtain ⟨sv, rfl, oV⟩ := hv
  obtain ⟨av, dd, rfl, oA, oD⟩ := he
  obtain ⟨pv, cv, rfl⟩ := oV.slice
  obtain ⟨pa, ca, rfl⟩ := oA.slice
  obtain ⟨pd, cd, rfl⟩ := oD.slice
  obtain ⟨hv1, hv2, n1, n2, n3, n4, n5, n6⟩ := hvg
  obtain ⟨he1, he2, he3, he4, m1, m2, m3, m4, m5, m6⟩ := heg
  have hVI : VerIs w (.agg #[.slice pv x.tables.length cv, .int .u64 x.floor, .int .u64 x.head, .int .i64 x.log, .int .i64 x.next]) x := ⟨⟨pv, cv, rfl, oV.at_ rkT_ok⟩, by omega, hv2, n1, n2, n3, n4, n5, n6⟩
  have hcV := Own.cap_le oV
  have hck := fun W (hb : Below w.heap.size w W) => check16_calls _ x W (hVI.later hb) (fun p n c b1 b2 b3 b4 e => by injection e with e; injection e with e; injection e with e _; injection e with _ e2 e3; omega)
  have hrt := fun W (hb : Below w.heap.size w W) => right16_any pa pd ca cd e W ((oA.at_ rkT_ok).below hb) ((oD.at_ rkI_ok).below hb) (by omega) (Own.none_cap' oD)
  obtain ⟨R, hR⟩ : ∃ R, applyD x e = R := ⟨_, rfl⟩
  rw [hR]
  unfold applyD at hR
  have hTv := oV.at_ rkT_ok
  have hTv' := Lib.hid hTv
  have hTa' := Lib.hid (oA.at_ rkT_ok)
  have hTd' := Lib.hid (oD.at_ rkI_ok)
  have hnc := Lib.hid (Own.none_cap' oV)
  have hv2' := Lib.hid hv2
  have he3' := Lib.hid he3
  have he4' := Lib.hid he4
  clear hTv oV oA oD hv2 he3 he4 hVI
  obtain ⟨nV, hnV⟩ : ∃ n, x.tables.length = n := ⟨_, rfl⟩
  obtain ⟨nA, hnA⟩ : ∃ n, e.add.length = n := ⟨_, rfl⟩
  obtain ⟨nD, hnD⟩ : ∃ n, e.drop.length = n := ⟨_, rfl⟩
  rw [hnV] at hck hv1 hcV ⊢
  rw [hnA] at hrt he1 ⊢
  rw [hnD] at hrt he2 ⊢
  have hnV' := Lib.hid hnV
  have hnA' := Lib.hid hnA
  have hnD' := Lib.hid hnD
  obtain ⟨W3, hW3⟩ : ∃ W3, ((w.alloc (.cells #[.slice pv nV cv, .int .u64 x.floor, .int .u64 x.head, .int .i64 x.log, .int .i64 x.next] 30)).alloc (.cells #[.slice pa nA ca, .slice pd nD cd, .int .u64 e.floor, .int .u64 e.head, .int .i64 e.log, .int .i64 e.next] 33)).alloc (.cells #[.slice none 0 0, .int .u64 0, .int .u64 0, .int .i64 0, .int .i64 0] 30) = W3 := ⟨_, rfl⟩
  have bV : Blk W3 w.heap.size 30 #[.slice pv nV cv, .int .u64 x.floor, .int .u64 x.head, .int .i64 x.log, .int .i64 x.next] := by rw [← hW3]; exact ((Blk.new w _ _).alloc _).alloc _
  have bE : Blk W3 (w.heap.size + 1) 33 #[.slice pa nA ca, .slice pd nD cd, .int .u64 e.floor, .int .u64 e.head, .int .i64 e.log, .int .i64 e.next] := by rw [← hW3]; have := Blk.new (w.alloc (.cells #[.slice pv nV cv, .int .u64 x.floor, .int .u64 x.head, .int .i64 x.log, .int .i64 x.next] 30)) 33 #[.slice pa nA ca, .slice pd nD cd, .int .u64 e.floor, .int .u64 e.head, .int .i64 e.log, .int .i64 e.next]; rw [World.size_alloc] at this; exact this.alloc _
  have bO : Blk W3 (w.heap.size + 2) 30 vZero := by rw [← hW3]; have := Blk.new ((w.alloc (.cells #[.slice pv nV cv, .int .u64 x.floor, .int .u64 x.head, .int .i64 x.log, .int .i64 x.next] 30)).alloc (.cells #[.slice pa nA ca, .slice pd nD cd, .int .u64 e.floor, .int .u64 e.head, .int .i64 e.log, .int .i64 e.next] 33)) 30 vZero; rw [World.size_alloc, World.size_alloc] at this; exact this
  have hB3 : Below w.heap.size w W3 := by rw [← hW3]; exact (((Below.refl _ w).alloc (Nat.le_refl _) _).alloc (by simp) _).alloc (by simp; omega) _
  have A3 := Lib.hid (AyAt.mk bV bE bO hB3)
  have hck' := Lib.hid (hck W3 hB3)
  have hrt' := Lib.hid hrt
  have cV := bV.cell
  have cE := bE.cell
  clear hck hrt bV bE bO hB3 hnV hnA hnD
  obtain ⟨tv, fv, dv, lv, xv⟩ := x
  obtain ⟨ta, td, fe, de, le_, xe⟩ := e
  simp only at hnV' hnA' hnD' hTv' hTa' hTd' hv2' he3' he4' A3 cV cE hck' hrt' hW3 n1 n2 n3 n4 n5 n6 m1 m2 m3 m4 m5 m6 ⊢
  cases hok : (Ver.mk tv fv dv lv xv).ok with
  | false =>
    rw [if_pos hok] at hR
    rw [hok] at hck'
    subst hR
    have hck2 : Calls _ _ _ _ (ErrPost W3 9) := hck'.out
    have hck2' := Lib.hid hck2
    clear hck' hck2
    go_enter Tryz.func76, Tryz.ntmps76
    go_wp2_with (go_at_call 15; ((with_reducible refine hck2'.out.mono ?_); rintro e w1 ⟨rfl, hb1⟩; have A4 := Lib.hid (A3.out.later hb1); have cO1 := A4.out.z.cell; have fO1 := A4.out.z.frozen; clear hb1; obtain ⟨W9, hW9, bW9, kW9⟩ := ver_set rfl A4.out.z (.slice none 0 0) (.int .u64 0) (.int .u64 0) (.int .i64 0) (.int .i64 0)))
    have cW9 := bW9.cell
    refine bodyPost_ret (v := .tuple #[.agg vZero, .int .i64 9]) (by simp [results, Tryz.results76, go_sem, cW9]) rfl ⟨_, rfl, VerOwn.zero _ _, A4.out.b.trans (kW9.below (fun j _ e => by omega) A4.out.b.size)⟩
  | true =>
    rw [if_neg (by rw [hok]; simp)] at hR
    rw [hok] at hck'
    have hck2 : Calls _ _ _ _ (ErrPost W3 0) := hck'.out
    have hck2' := Lib.hid hck2
    clear hck' hck2
    have hnd' := Lib.hid (Ver.ok_iff.1 hok).2.2
    cases hrg : (Edt.mk ta td fe de le_ xe).right with
    | false =>
      rw [if_pos hrg] at hR
      rw [hrg] at hrt'
      subst hR
      go_enter Tryz.func76, Tryz.ntmps76
      go_wp2_with (first
        | (go_at_call 15; ((with_reducible refine hck2'.out.mono ?_); rintro e w1 ⟨rfl, hb1⟩; have A4 := Lib.hid (A3.out.later hb1); have cE1 := A4.out.e.cell; clear hb1 cE))
        | (go_at_call 16; ((with_reducible refine (hrt'.out _ A4.out.b).mono ?_); rintro e w2 ⟨rfl, hb2⟩; have A5 := Lib.hid (A4.out.later hb2); have cO2 := A5.out.z.cell; have fO2 := A5.out.z.frozen; clear hb2; obtain ⟨W9, hW9, bW9, kW9⟩ := ver_set rfl A5.out.z (.slice none 0 0) (.int .u64 0) (.int .u64 0) (.int .i64 0) (.int .i64 0))))
      have cW9 := bW9.cell
      refine bodyPost_ret (v := .tuple #[.agg vZero, .int .i64 1]) (by simp [results, Tryz.results76, go_sem, cW9]) rfl ⟨_, rfl, VerOwn.zero _ _, A5.out.b.trans (kW9.below (fun j _ e => by omega) A5.out.b.size)⟩
    | true =>
      rw [if_neg (by rw [hrg]; simp)] at hR
      rw [hrg] at hrt'
      go_enter Tryz.func76, Tryz.ntmps76
      go_wp2_with (first
        | (go_at_call 15; ((with_reducible refine hck2'.out.mono ?_); rintro e w1 ⟨rfl, hb1⟩; have A4 := Lib.hid (A3.out.later hb1); have cE1 := A4.out.e.cell; clear hb1 cE cV A3))
        | (go_at_call 16; ((with_reducible refine (hrt'.out _ A4.out.b).mono ?_); rintro e w2 ⟨rfl, hb2⟩; have A5 := Lib.hid (A4.out.later hb2); clear hb2 A4 cE1; have A6 := Lib.hid (A5.out.later ((Below.refl w2.heap.size w2).alloc (Nat.le_refl _) (.cells #[] 76))); have cV2 := A6.out.v.cell; obtain ⟨p6, c6, w6, e6, o6, k6, b6⟩ := (RowK.can_at (P := Tryz.prog) rkT_ok (Wd := w2) (hTv'.out.below A5.out.b) hnV'.out (by omega) hnc.out).go (W := w2.alloc (.cells #[] 76)) ((Below.refl w2.heap.size w2).alloc (Nat.le_refl _) _) (v := .slice (some ⟨w2.heap.size, 0, none⟩) 0 0) (l := []) (by simp) (World.ownsRow_lit w2 #[] 0 (Nat.le_refl _) (by unfold maxLen; omega) rfl); rw [show ([] : List Tbl).length + nV = nV by simp] at e6 o6; rw [List.nil_append] at o6; have A7 := Lib.hid (A5.out.later b6); have o7 := Lib.hid (o6.mono A5.out.b.size); have cE7 := A7.out.e.cell; change (dappOp #[27, 27] 27 _).run Tryz.prog _ = _ at e6; clear o6 k6 b6 A5)))
      clear e6 cV2 A6 hrt' hck2' hW3 hnc hok hrg
      obtain ⟨vc, hvc⟩ : ∃ vc : Array Value, #[.slice pv nV cv, .int .u64 fv, .int .u64 dv, .int .i64 lv, .int .i64 xv] = vc := ⟨_, rfl⟩
      obtain ⟨ec, hec⟩ : ∃ ec : Array Value, #[.slice pa nA ca, .slice pd nD cd, .int .u64 fe, .int .u64 de, .int .i64 le_, .int .i64 xe] = ec := ⟨_, rfl⟩
      rw [hvc, hec] at A7
      have hvc' := Lib.hid hvc
      have hec' := Lib.hid hec
      clear hvc hec
      go_loopw [7, 36] (fun v i wr => ∃ (k M : Nat) (l : List Tbl) (p : Option Addr) (c : Nat), i = .int .i64 k ∧ k ≤ nD ∧ v = .slice p M c ∧ l.length = M ∧ M ≤ nV ∧ dropT tv td = dropT l (td.drop k) ∧ (l.map Tbl.num).Nodup ∧ From tv ta l ∧ rkT.Own w.heap.size wr (.slice p M c) l ∧ AyAt w wr vc ec) (fun _ i _ => nD - (intOf i).toNat)
      case atStart => exact ⟨0, nV, tv, p6, c6, rfl, Nat.zero_le _, rfl, hnV'.out, Nat.le_refl _, by rw [List.drop_zero], hnd'.out, fun t h => .inl h, o7.out, A7.out⟩
      case round =>
        clear A7 o7 cE7 hnd'
        obtain ⟨k, M, l, p, c, rfl, hk, rfl, hM, hMV, hdr, hnd, hfr, oL, A⟩ := hrel
        obtain ⟨wo, rfl⟩ : ∃ wo : World, wo = wr := ⟨_, rfl⟩
        have hM' := Lib.hid hM
        have hdr' := Lib.hid hdr
        have hnd' := Lib.hid hnd
        have hfr' := Lib.hid hfr
        have oL' := Lib.hid oL
        have A' := Lib.hid A
        clear hM hdr hnd hfr oL A
        by_cases hlt : k < nD
        · obtain ⟨n, ht⟩ : ∃ t, td[k]? = some t := ⟨_, List.getElem?_eq_getElem (by rw [hnD'.out]; exact hlt)⟩
          obtain ⟨a, b, rfl, hab, hbl, q0⟩ := int_at (hTd'.out.below A'.out.b) ht
          have hdn := Lib.hid (drop_next ht)
          have n1' : 0 < nD := by omega
          clear ht
          go_wp2_with fail
          clear q0
          go_loopw [10, 42] (fun a i wx => ∃ j : Nat, i = .int .i64 j ∧ j ≤ M ∧ AtIs l n j a ∧ rkT.Own w.heap.size wx (.slice p M c) l ∧ AyAt w wx vc ec) (fun _ i _ => M - (intOf i).toNat)
          case atStart => exact ⟨0, rfl, Nat.zero_le _, .inl ⟨rfl, fun i t h => absurd h (by omega)⟩, oL'.out, A'.out⟩
          case round =>
            obtain ⟨j, rfl, hj, hat, oX, AX⟩ := hrel
            obtain ⟨wx, rfl⟩ : ∃ wx : World, wx = wr := ⟨_, rfl⟩
            clear oL' A'
            have hat' := Lib.hid hat
            by_cases hjM : j < M
            · obtain ⟨t, ht⟩ : ∃ t, l[j]? = some t := ⟨_, List.getElem?_eq_getElem (by rw [hM'.out]; exact hjM)⟩
              obtain ⟨ax, bx, rfl, habx, hblx, q0, q1, q2, q3, q4⟩ := tbl_at (oX.at_ rkT_ok) ht
              have hyes := Lib.hid (fun (h : t.num = n) => AtIs.yes ht h)
              have hno := Lib.hid (fun (h : t.num ≠ n) => hat.no ht h)
              obtain ⟨tn, tl, tz, tf, tx⟩ := t
              simp only at q0 q1 q2 q3 q4 hyes hno
              have AX' := Lib.hid (AX.later ((Below.refl wx.heap.size wx).alloc (Nat.le_refl _) (.cells #[.int .i64 tn, .int .i64 tl, .int .i64 tz, .string tf, .string tx] 76)))
              have oX' := Lib.hid (oX.later ((Below.refl wx.heap.size wx).alloc (Nat.le_refl _) (.cells #[.int .i64 tn, .int .i64 tl, .int .i64 tz, .string tf, .string tx] 76)))
              have m0 : 0 < M := by omega
              clear ht hat AX oX hat'
              by_cases he : tn = n
              · subst he
                go_wp2_with fail
                go_roundw
                case rel => exact ⟨j + 1, by go_num, by omega, hyes.out rfl, oX'.out, AX'.out⟩
                case measure => simp [intOf]; omega
              · have t2 : (tn == n) = false := by simpa using he
                go_wp2_with fail
                go_roundw
                case rel => exact ⟨j + 1, by go_num, by omega, hno.out he, oX'.out, AX'.out⟩
                case measure => simp [intOf]; omega
            · obtain rfl : j = M := by omega
              have oX' := Lib.hid oX
              have AX' := Lib.hid AX
              clear hat oX AX
              rcases hat'.out with ⟨rfl, hno⟩ | ⟨q, t, hq, rfl, htq, hnum⟩
              · have hd2 := hdr'.out
                rw [hdn.out, drop_none (fun i t hi => hno i t (by rw [← hM'.out]; exact (List.getElem?_eq_some_iff.1 hi).1) hi)] at hd2
                rw [hd2] at hR
                have hR2 : (Ver.zero, (4 : Int)) = R := hR
                subst hR2
                obtain ⟨W9, hW9, bW9, kW9⟩ := ver_set rfl AX'.out.z (.slice none 0 0) (.int .u64 0) (.int .u64 0) (.int .i64 0) (.int .i64 0)
                have cO := AX'.out.z.cell
                have fO := AX'.out.z.frozen
                have bW9' := Lib.hid bW9
                clear hat' hno hd2 bW9 hR
                go_wp2_with fail
                have cW9 := bW9'.out.cell
                refine bodyPost_ret (v := .tuple #[.agg vZero, .int .i64 4]) (by simp [results, Tryz.results76, go_sem, cW9]) rfl ⟨_, rfl, VerOwn.zero _ _, AX'.out.b.trans (kW9.below (fun j _ e => by omega) AX'.out.b.size)⟩
              · have hd2 := hdr'.out
                obtain ⟨hs1, hs2⟩ := drop_some hnd'.out htq hnum (td.drop (k + 1))
                rw [hdn.out, hs1] at hd2
                have hd3 := Lib.hid hd2
                have hs3 := Lib.hid hs2
                have hf3 := Lib.hid (hfr'.out.cut q)
                have hlen : (l.take q ++ l.drop (q + 1)).length = q + (j - (q + 1)) := by
                  rw [List.length_append, List.length_take, List.length_drop, hM'.out]; omega
                have hlen' := Lib.hid hlen
                obtain ⟨x3, hx1, hx3, p1, k1, w1, p3, k3, w3, T⟩ := cut_orders oX'.out hM'.out hq (by omega)
                have e1 := T.r1
                have e3 := T.r3
                have R1 := Lib.hid (And.intro (T.own.mono AX'.out.b.size) (AX'.out.later T.b3))
                have t2 : ¬ (q : Int) < 0 := by omega
                clear hd2 hs1 hs2 hlen T htq hnum hat' oX' AX'
                go_wp2_with fail
                go_region
                go_wp2_with fail
                go_roundw
                case rel => exact ⟨k + 1, q + (j - (q + 1)), l.take q ++ l.drop (q + 1), p3, k3, by go_num, by omega, rfl, hlen'.out, by omega, hd3.out, hs3.out, hf3.out, R1.out.1, R1.out.2⟩
                case measure => simp [intOf]; omega
        · obtain rfl : k = nD := by omega
          have hd2 := hdr'.out
          rw [show td.drop k = [] from List.drop_eq_nil_of_le (by rw [hnD'.out]; exact Nat.le_refl _)] at hd2
          have hd3 : dropT tv td = some l := hd2
          rw [hd3] at hR
          have hR2 : (match addF l ta with | none => (Ver.zero, (3 : Int)) | some l' => if ((Ver.mk tv fv dv lv xv).withD ⟨ta, td, fe, de, le_, xe⟩ l').ok = false then (Ver.zero, 11) else ((Ver.mk tv fv dv lv xv).withD ⟨ta, td, fe, de, le_, xe⟩ l', 0)) = R := hR
          have cE8 := A'.out.e.cell
          rw [← hec'.out] at cE8
          have hR3 := Lib.hid hR2
          clear hd2 hd3 hR hR2 hdr' hnd'
          go_wp2_with fail
          clear cE8
          go_loopw [7, 70] (fun v i wr => ∃ (k M : Nat) (l1 : List Tbl) (p : Option Addr) (c : Nat), i = .int .i64 k ∧ k ≤ nA ∧ v = .slice p M c ∧ l1.length = M ∧ M ≤ nV + k ∧ addF l ta = addF l1 (ta.drop k) ∧ From tv ta l1 ∧ rkT.Own w.heap.size wr (.slice p M c) l1 ∧ AyAt w wr vc ec) (fun _ i _ => nA - (intOf i).toNat)
          case atStart => exact ⟨0, M, l, p, c, rfl, Nat.zero_le _, rfl, hM'.out, by omega, by rw [List.drop_zero], hfr'.out, oL'.out, A'.out⟩
          case round =>
            clear A' oL' hfr' hM' hMV
            obtain ⟨q, M1, l1, p1, c1, rfl, hk1, rfl, hM, hMV, hdr, hfr, oL, A⟩ := hrel
            obtain ⟨wo, rfl⟩ : ∃ wo : World, wo = wr := ⟨_, rfl⟩
            have hM' := Lib.hid hM
            have hdr' := Lib.hid hdr
            have hfr' := Lib.hid hfr
            have oL' := Lib.hid oL
            have A' := Lib.hid A
            clear hM hdr hfr oL A
            by_cases hlt : q < nA
            · obtain ⟨t, ht⟩ : ∃ t, ta[q]? = some t := ⟨_, List.getElem?_eq_getElem (by rw [hnA'.out]; exact hlt)⟩
              obtain ⟨a, b, rfl, hab, hbl, q0, q1, q2, q3, q4⟩ := tbl_at (hTa'.out.below A'.out.b) ht
              have hdn := Lib.hid (drop_next ht)
              have hmemt := Lib.hid (List.mem_of_getElem? ht)
              have n1' : 0 < nA := by omega
              have hal := (Below.refl wo.heap.size wo).alloc (Nat.le_refl _) (.cells #[.int .i64 t.num, .int .i64 t.level, .int .i64 t.size, .string t.first, .string t.last] 76)
              have A2 := Lib.hid (A'.out.later hal)
              have o2 := Lib.hid (oL'.out.later hal)
              have bT := Lib.hid (Blk.new wo 76 #[.int .i64 t.num, .int .i64 t.level, .int .i64 t.size, .string t.first, .string t.last])
              clear ht hal oL' A'
              obtain ⟨tn, tl, tz, tf, tx⟩ := t
              simp only at q0 q1 q2 q3 q4 A2 o2 bT
              go_wp2_with fail
              obtain ⟨T, hT⟩ : ∃ T, wo.heap.size = T := ⟨_, rfl⟩
              rw [hT] at bT ⊢
              clear hT q0 q1 q2 q3 q4 hab hbl
              go_loopw [76] (fun i wx => ∃ j : Nat, i = .int .i64 j ∧ j ≤ M1 ∧ (∀ (i : Nat) (u : Tbl), i < j → l1[i]? = some u → u.num ≠ tn) ∧ rkT.Own w.heap.size wx (.slice p1 M1 c1) l1 ∧ AyAt w wx vc ec ∧ Blk wx T 76 #[.int .i64 tn, .int .i64 tl, .int .i64 tz, .string tf, .string tx]) (fun i _ => M1 - (intOf i).toNat)
              case atStart => exact ⟨0, rfl, Nat.zero_le _, fun i t h => absurd h (by omega), o2.out, A2.out, bT.out⟩
              case round =>
                clear o2 A2 bT
                obtain ⟨j, rfl, hj, hat, oX, AX, bX⟩ := hrel
                obtain ⟨wx, rfl⟩ : ∃ wx : World, wx = wr := ⟨_, rfl⟩
                by_cases hjM : j < M1
                · obtain ⟨u, hu⟩ : ∃ t, l1[j]? = some t := ⟨_, List.getElem?_eq_getElem (by rw [hM'.out]; exact hjM)⟩
                  obtain ⟨ax, bx, rfl, habx, hblx, q0, q1, q2, q3, q4⟩ := tbl_at (oX.at_ rkT_ok) hu
                  have hnext := Lib.hid (fun (h : u.num ≠ tn) (i : Nat) (y : Tbl) (hi : i < j + 1) (hy : l1[i]? = some y) => (by
                    by_cases e : i = j
                    · subst e; rw [hu] at hy; obtain rfl := Option.some.inj hy; exact h
                    · exact hat i y (by omega) hy : y.num ≠ tn))
                  have hmu := Lib.hid (List.mem_of_getElem? hu)
                  obtain ⟨un, ul, uz, uf, ux⟩ := u
                  simp only at q0 q1 q2 q3 q4 hnext hmu
                  have hal := (Below.refl wx.heap.size wx).alloc (Nat.le_refl _) (.cells #[.int .i64 un, .int .i64 ul, .int .i64 uz, .string uf, .string ux] 76)
                  have AX' := Lib.hid (AX.later hal)
                  have oX' := Lib.hid (oX.later hal)
                  have bX' := Lib.hid (bX.below hal bX.lt)
                  have cT := bX'.out.cell
                  have m0 : 0 < M1 := by omega
                  clear hu hat AX oX bX hal
                  by_cases he : un = tn
                  · subst he
                    have hd2 := hdr'.out
                    rw [hdn.out, addF_none (t := ⟨un, tl, tz, tf, tx⟩) hmu.out rfl] at hd2
                    have hR4 := hR3.out
                    rw [hd2] at hR4
                    have hR2 : (Ver.zero, (3 : Int)) = R := hR4
                    subst hR2
                    obtain ⟨W9, hW9, bW9, kW9⟩ := ver_set rfl AX'.out.z (.slice none 0 0) (.int .u64 0) (.int .u64 0) (.int .i64 0) (.int .i64 0)
                    have cO := AX'.out.z.cell
                    have fO := AX'.out.z.frozen
                    have bW9' := Lib.hid bW9
                    clear hd2 bW9 hR4 hR3 hnext
                    go_wp2_with fail
                    have cW9 := bW9'.out.cell
                    refine bodyPost_ret (v := .tuple #[.agg vZero, .int .i64 3]) (by simp [results, Tryz.results76, go_sem, cW9]) rfl ⟨_, rfl, VerOwn.zero _ _, AX'.out.b.trans (kW9.below (fun j _ e => by omega) AX'.out.b.size)⟩
                  · have t2 : (un == tn) = false := by simpa using he
                    go_wp2_with fail
                    go_roundw
                    case rel => exact ⟨j + 1, by go_num, by omega, hnext.out he, oX'.out, AX'.out, bX'.out⟩
                    case measure => simp [intOf]; omega
                · obtain rfl : j = M1 := by omega
                  have hd2 := hdr'.out
                  have hall : ∀ u ∈ l1, u.num ≠ tn := fun u hu => by
                    obtain ⟨i, hi⟩ := List.getElem?_of_mem hu
                    exact hat i u (by rw [← hM'.out]; exact (List.getElem?_eq_some_iff.1 hi).1) hi
                  rw [hdn.out, addF_next hall] at hd2
                  have hd3 := Lib.hid hd2
                  have oX' := Lib.hid oX
                  have AX' := Lib.hid AX
                  have bX' := Lib.hid bX
                  clear hat oX AX bX hd2 hall hdr'
                  go_wp2_with fail
                  go_loopw [17] (fun a wy => ∃ h : Nat, a = .int .i64 h ∧ h ≤ j ∧ insT l1 ⟨tn, tl, tz, tf, tx⟩ = l1.take h ++ insT (l1.drop h) ⟨tn, tl, tz, tf, tx⟩ ∧ rkT.Own w.heap.size wy (.slice p1 j c1) l1 ∧ AyAt w wy vc ec ∧ Blk wy T 76 #[.int .i64 tn, .int .i64 tl, .int .i64 tz, .string tf, .string tx]) (fun a _ => j - (intOf a).toNat)
                  case atStart => exact ⟨0, rfl, Nat.zero_le _, rfl, oX'.out, AX'.out, bX'.out⟩
                  case round =>
                    clear oX' AX' bX'
                    obtain ⟨h, rfl, hh, hins, oY, AY, bY⟩ := hrel
                    obtain ⟨wy, rfl⟩ : ∃ wy : World, wy = wr := ⟨_, rfl⟩
                    have oY' := Lib.hid oY
                    have AY' := Lib.hid AY
                    have bY' := Lib.hid bY
                    have hins' := Lib.hid hins
                    clear oY AY bY hins
                    go_upto_region 31 with fail
                    go_cut [98] from 87 to 98 (fun s wz => (∃ bb : Bool, s = .bool bb ∧ (bb = true ↔ ∃ u, l1[h]? = some u ∧ ordT u ⟨tn, tl, tz, tf, tx⟩ < 0)) ∧ rkT.Own w.heap.size wz (.slice p1 j c1) l1 ∧ AyAt w wz vc ec ∧ Blk wz T 76 #[.int .i64 tn, .int .i64 tl, .int .i64 tz, .string tf, .string tx])
                    case first =>
                      by_cases hhj : h < j
                      · obtain ⟨u, hu⟩ : ∃ t, l1[h]? = some t := ⟨_, List.getElem?_eq_getElem (by rw [hM'.out]; exact hhj)⟩
                        have hfacts := fun w' (hb : Below wy.heap.size wy w') => tbl_at ((oY'.out.later hb).at_ rkT_ok) hu
                        obtain ⟨ax, bx, rfl, habx, hblx, q0, q1, q2, q3, q4⟩ := tbl_at (oY'.out.at_ rkT_ok) hu
                        have hCm := Lib.hid (fun W => less16_calls u ⟨tn, tl, tz, tf, tx⟩ W)
                        have hu' := Lib.hid hu
                        obtain ⟨un, ul, uz, uf, ux⟩ := u
                        simp only at q0 q1 q2 q3 q4 hfacts hCm hu'
                        have cT := bY'.out.cell
                        have lT := bY'.out.lt
                        have hSS : ∀ w', Below wy.heap.size wy w' → (w'.cell? bx = some (.int .i64 un) ∧ w'.cell? ⟨bx.block, bx.off + 1, none⟩ = some (.int .i64 ul) ∧ w'.cell? ⟨bx.block, bx.off + 2, none⟩ = some (.int .i64 uz) ∧ w'.cell? ⟨bx.block, bx.off + 3, none⟩ = some (.string uf) ∧ w'.cell? ⟨bx.block, bx.off + 4, none⟩ = some (.string ux) ∧ ∀ i, w'.cell? ⟨T, i, none⟩ = (#[.int .i64 tn, .int .i64 tl, .int .i64 tz, .string tf, .string tx] : Array Value)[i]?) := fun w' hb =>
                          ⟨(hb.cell hblx).trans q0, (hb.cell (p := ⟨bx.block, bx.off + 1, none⟩) hblx).trans q1, (hb.cell (p := ⟨bx.block, bx.off + 2, none⟩) hblx).trans q2, (hb.cell (p := ⟨bx.block, bx.off + 3, none⟩) hblx).trans q3, (hb.cell (p := ⟨bx.block, bx.off + 4, none⟩) hblx).trans q4, (bY'.out.below hb lT).cell⟩
                        have hSS' := Lib.hid hSS
                        have h0 : (0 : Int) ≤ (h : Int) := by omega
                        have h1 : (h : Int) < (j : Int) := by omega
                        clear hfacts hu hSS cT q0 q1 q2 q3 q4
                        go_region_held3 (fun w' => w'.cell? bx = some (.int .i64 un) ∧ w'.cell? ⟨bx.block, bx.off + 1, none⟩ = some (.int .i64 ul) ∧ w'.cell? ⟨bx.block, bx.off + 2, none⟩ = some (.int .i64 uz) ∧ w'.cell? ⟨bx.block, bx.off + 3, none⟩ = some (.string uf) ∧ w'.cell? ⟨bx.block, bx.off + 4, none⟩ = some (.string ux) ∧ ∀ i, w'.cell? ⟨T, i, none⟩ = (#[.int .i64 tn, .int .i64 tl, .int .i64 tz, .string tf, .string tx] : Array Value)[i]?) (first | exact hSS'.out _ (Below.refl _ _).drew | exact hSS'.out _ ((Below.refl _ _).drew.trans hb7)) (first | (go_at_call 39; refine (hCm.out _).mono ?_; rintro e w7 ⟨rfl, hb7⟩))
                        all_goals
                          go_wp2_with fail
                          go_meet
                          have b7 := (Below.refl wy.heap.size wy).drew.trans hb7
                          exact ⟨⟨_, rfl, by rw [decide_eq_true_eq]; exact ⟨fun h => ⟨_, hu'.out, h⟩, fun ⟨u, h1, h2⟩ => by rw [hu'.out] at h1; obtain rfl := Option.some.inj h1; exact h2⟩⟩, oY'.out.later b7, AY'.out.later b7, bY'.out.below b7 bY'.out.lt⟩
                      · obtain rfl : h = j := by omega
                        have hqe : decide ((h : Int) < (h : Int)) = false := by simp
                        go_quiet (fail)
                        rename_i nq
                        go_wp2_with fail
                        go_meet
                        have b7 := bdrewN (Below.refl wy.heap.size wy) nq
                        exact ⟨⟨false, rfl, by
                          constructor
                          · intro e; cases e
                          · rintro ⟨u, h1, _⟩
                            rw [List.getElem?_eq_none (by rw [hM'.out]; exact Nat.le_refl _)] at h1
                            cases h1⟩, oY'.out.later b7, AY'.out.later b7, bY'.out.below b7 bY'.out.lt⟩
                    case rest =>
                      obtain ⟨⟨bb, rfl, hbb⟩, oZ, AZ, bZ⟩ := hcut
                      obtain ⟨wz, rfl⟩ : ∃ wz : World, wz = wc := ⟨_, rfl⟩
                      have oZ' := Lib.hid oZ
                      have AZ' := Lib.hid AZ
                      have bZ' := Lib.hid bZ
                      have hbb' := Lib.hid hbb
                      clear oZ AZ bZ hbb oY' AY' bY'
                      cases bb with
                      | true =>
                        obtain ⟨u, hu, hlu⟩ := hbb'.out.1 rfl
                        have hst := Lib.hid (ins_step hu hlu hins'.out)
                        have hhj : h < j := by rw [← hM'.out]; exact (List.getElem?_eq_some_iff.1 hu).1
                        clear hu hlu
                        go_wp2_with fail
                        go_roundw
                        case rel => exact ⟨h + 1, by go_num, by omega, hst.out, oZ'.out, AZ'.out, bZ'.out⟩
                        case measure => simp [intOf]; omega
                      | false =>
                        have hhere := Lib.hid (ins_here (k := h) (by
                          cases hu : l1[h]? with
                          | none => exact .inl rfl
                          | some u => exact .inr ⟨u, rfl, fun hl => by have := hbb'.out.2 ⟨u, hu, hl⟩; cases this⟩) hins'.out)
                        have hlen : (l1.take h ++ Tbl.mk tn tl tz tf tx :: l1.drop h).length = h + 1 + (j - h) := by
                          rw [List.length_append, List.length_take, List.length_cons, List.length_drop, hM'.out]; omega
                        have hlen' := Lib.hid hlen
                        obtain ⟨x3, hx1, hx3, ⟨pa1, k1, w1, p2, k2, w2', p3, k3, w3, T1⟩, ⟨pb1, kb1, wb1, pb2, kb2, wb2, pb3, kb3, wb3, T2⟩, ⟨pc1, kc1, wc1, pc2, kc2, wc2, pc3, kc3, wc3, T3⟩⟩ := put_ordersT ⟨tn, tl, tz, tf, tx⟩ oZ'.out hM'.out hh (by omega)
                        have e1 := T1.r1
                        have e2 := T1.r2
                        have e3 := T1.r3
                        have e1' := T2.r1
                        have e2' := T2.r2
                        have e3' := T2.r3
                        have e1'' := T3.r1
                        have e2'' := T3.r2
                        have e3'' := T3.r3
                        change (dappOp #[27, 27] 27 _).run Tryz.prog _ = _ at e1 e2 e3 e1' e2' e3' e1'' e2'' e3''
                        have gb := bZ'.out.cell
                        have gE := (bZ'.out.below ((Below.refl wz.heap.size wz).alloc (Nat.le_refl _) (.cells #[] 76)) bZ'.out.lt).cell
                        have gL := (bZ'.out.below T3.b1 bZ'.out.lt).cell
                        have lb := bZ'.out.lt
                        have hz8 := AZ'.out.b.size
                        have R1 := Lib.hid (And.intro (T1.own.mono hz8) (AZ'.out.later T1.b3))
                        have R2 := Lib.hid (And.intro (T2.own.mono hz8) (AZ'.out.later T2.b3))
                        have R4 := Lib.hid (And.intro (T3.own.mono hz8) (AZ'.out.later T3.b3))
                        have hfr2 := Lib.hid (hfr'.out.ins hmemt.out)
                        clear T1 T2 T3 hz8 hlen oZ' AZ' bZ' hbb'
                        go_wp2_with fail
                        go_region
                        all_goals
                          clear e1 e2 e3 e1' e2' e3' e1'' e2'' e3'' gb gE gL hx1 hx3
                          go_wp2_with fail
                          go_roundw
                          case rel =>
                            first
                              | exact ⟨q + 1, h + 1 + (j - h), l1.take h ++ Tbl.mk tn tl tz tf tx :: l1.drop h, _, _, by go_num, by omega, rfl, hlen'.out, by omega, by rw [← hhere.out]; exact hd3.out, by rw [← hhere.out]; exact hfr2.out, R1.out.1, R1.out.2⟩
                              | exact ⟨q + 1, h + 1 + (j - h), l1.take h ++ Tbl.mk tn tl tz tf tx :: l1.drop h, _, _, by go_num, by omega, rfl, hlen'.out, by omega, by rw [← hhere.out]; exact hd3.out, by rw [← hhere.out]; exact hfr2.out, R2.out.1, R2.out.2⟩
                              | exact ⟨q + 1, h + 1 + (j - h), l1.take h ++ Tbl.mk tn tl tz tf tx :: l1.drop h, _, _, by go_num, by omega, rfl, hlen'.out, by omega, by rw [← hhere.out]; exact hd3.out, by rw [← hhere.out]; exact hfr2.out, R4.out.1, R4.out.2⟩
                          case measure => simp [intOf]; omega
            · obtain rfl : q = nA := by omega
              have hd2 := hdr'.out
              rw [show ta.drop q = [] from List.drop_eq_nil_of_le (by rw [hnA'.out]; exact Nat.le_refl _)] at hd2
              have hd3 : addF l ta = some l1 := hd2
              have hR4 := hR3.out
              rw [hd3] at hR4
              have hR5 : (if ((Ver.mk tv fv dv lv xv).withD ⟨ta, td, fe, de, le_, xe⟩ l1).ok = false then (Ver.zero, (11 : Int)) else ((Ver.mk tv fv dv lv xv).withD ⟨ta, td, fe, de, le_, xe⟩ l1, 0)) = R := hR4
              have cE9 := A'.out.e.cell
              rw [← hec'.out] at cE9
              have cV9 := A'.out.v.cell
              rw [← hvc'.out] at cV9
              have hR6 := Lib.hid hR5
              clear hd2 hd3 hR4 hR5 hdr' hR3
              go_wp2_with fail
              have mx1 : max (fv : Int) (fe : Int) = ((max fv fe : Nat) : Int) := by omega
              have mx2 : max (dv : Int) (de : Int) = ((max dv de : Nat) : Int) := by omega
              obtain ⟨V, hV⟩ : ∃ V, (Ver.mk tv fv dv lv xv).withD ⟨ta, td, fe, de, le_, xe⟩ l1 = V := ⟨_, rfl⟩
              have hR7 := hR6.out
              rw [hV] at hR7
              have hal := (Below.refl wo.heap.size wo).alloc (Nat.le_refl _) (.cells #[.slice p1 M1 c1, .int .u64 (max (fv : Int) (fe : Int)), .int .u64 (max (dv : Int) (de : Int)), .int .i64 (max lv le_), .int .i64 (max xv xe)] 30)
              have bN := Blk.new wo 30 #[.slice p1 M1 c1, .int .u64 (max (fv : Int) (fe : Int)), .int .u64 (max (dv : Int) (de : Int)), .int .i64 (max lv le_), .int .i64 (max xv xe)]
              have oN := oL'.out.later hal
              have AN := A'.out.later hal
              obtain ⟨wn, hwn⟩ : ∃ wn, wo.alloc (.cells #[.slice p1 M1 c1, .int .u64 (max (fv : Int) (fe : Int)), .int .u64 (max (dv : Int) (de : Int)), .int .i64 (max lv le_), .int .i64 (max xv xe)] 30) = wn := ⟨_, rfl⟩
              rw [hwn] at bN oN AN ⊢
              obtain ⟨N, hN⟩ : ∃ N, wo.heap.size = N := ⟨_, rfl⟩
              rw [hN] at bN ⊢
              have hVi : VerIs wn (.agg #[.slice p1 M1 c1, .int .u64 (max (fv : Int) (fe : Int)), .int .u64 (max (dv : Int) (de : Int)), .int .i64 (max lv le_), .int .i64 (max xv xe)]) V := by
                rw [← hV]
                refine ⟨⟨p1, c1, ?_, ?_⟩, ?_, ?_, ?_⟩
                · rw [mx1, mx2]; show _ = Value.agg #[.slice p1 l1.length c1, _, _, _, _]; rw [hM'.out]; rfl
                · exact oN.at_ rkT_ok
                · show l1.length ≤ 1000000; rw [hM'.out]; omega
                · exact fun t h => (hfr'.out t h).elim (hv2'.out t) (he3'.out t)
                · show max fv fe < _ ∧ max dv de < _ ∧ _ ≤ max lv le_ ∧ max lv le_ < _ ∧ _ ≤ max xv xe ∧ max xv xe < _; omega
              have hcM := Own.cap_le oN
              have hCk := check16_calls _ V wn hVi (fun p n c b1 b2 b3 b4 e => by injection e with e; injection e with e; injection e with e _; injection e with _ e2 e3; omega)
              have hVo : VerOwn w.heap.size wn (.agg #[.slice p1 M1 c1, .int .u64 (max (fv : Int) (fe : Int)), .int .u64 (max (dv : Int) (de : Int)), .int .i64 (max lv le_), .int .i64 (max xv xe)]) V := by
                rw [← hV]
                exact ⟨_, by rw [mx1, mx2]; rfl, oN⟩
              have hVo' := Lib.hid hVo
              have AN' := Lib.hid AN
              have bN' := Lib.hid bN
              clear hVo AN bN oN hVi hV mx1 mx2 hal hwn hN hR6 A' oL' hfr' cE9 cV9 hcM
              cases hVk : V.ok with
              | false =>
                rw [hVk] at hR7 hCk
                rw [if_pos rfl] at hR7
                subst hR7
                have hCk2 : Hid (Calls Tryz.prog 15 #[.agg #[.slice p1 M1 c1, .int .u64 (max (fv : Int) (fe : Int)), .int .u64 (max (dv : Int) (de : Int)), .int .i64 (max lv le_), .int .i64 (max xv xe)]] wn (ErrPost wn 9)) := Lib.hid hCk
                clear hCk hVk
                with_reducible refine hCk2.out.mono ?_
                rintro e w8 ⟨rfl, hb8⟩
                have A8 := Lib.hid (AN'.out.later hb8)
                have cO8 := A8.out.z.cell
                have fO8 := A8.out.z.frozen
                clear hb8
                obtain ⟨W9, hW9, bW9, kW9⟩ := ver_set rfl A8.out.z (.slice none 0 0) (.int .u64 0) (.int .u64 0) (.int .i64 0) (.int .i64 0)
                go_wp2_with fail
                have cW9 := bW9.cell
                refine bodyPost_ret (v := .tuple #[.agg vZero, .int .i64 11]) (by simp [results, Tryz.results76, go_sem, cW9]) rfl ⟨_, rfl, VerOwn.zero _ _, A8.out.b.trans (kW9.below (fun j _ e => by omega) A8.out.b.size)⟩
              | true =>
                rw [hVk] at hR7 hCk
                rw [if_neg (by simp)] at hR7
                subst hR7
                have hCk2 : Hid (Calls Tryz.prog 15 #[.agg #[.slice p1 M1 c1, .int .u64 (max (fv : Int) (fe : Int)), .int .u64 (max (dv : Int) (de : Int)), .int .i64 (max lv le_), .int .i64 (max xv xe)]] wn (ErrPost wn 0)) := Lib.hid hCk
                clear hCk hVk
                with_reducible refine hCk2.out.mono ?_
                rintro e w8 ⟨rfl, hb8⟩
                have A8 := Lib.hid (AN'.out.later hb8)
                have cO8 := A8.out.z.cell
                have fO8 := A8.out.z.frozen
                have bM8 := (bN'.out.below hb8 bN'.out.lt).cell
                have hb8' := Lib.hid hb8
                clear hb8
                obtain ⟨W9, hW9, bW9, kW9⟩ := ver_set rfl A8.out.z (.slice p1 M1 c1) (.int .u64 (max (fv : Int) (fe : Int))) (.int .u64 (max (dv : Int) (de : Int))) (.int .i64 (max lv le_)) (.int .i64 (max xv xe))
                go_wp2_with fail
                have cW9 := bW9.cell
                have hVf : VerOwn w.heap.size W9 (.agg #[.slice p1 M1 c1, .int .u64 (max (fv : Int) (fe : Int)), .int .u64 (max (dv : Int) (de : Int)), .int .i64 (max lv le_), .int .i64 (max xv xe)]) V := (hVo'.out.later hb8'.out).keeps A8.out.z kW9
                refine bodyPost_ret (v := .tuple #[.agg #[.slice p1 M1 c1, .int .u64 (max (fv : Int) (fe : Int)), .int .u64 (max (dv : Int) (de : Int)), .int .i64 (max lv le_), .int .i64 (max xv xe)], .int .i64 0]) (by simp [results, Tryz.results76, go_sem, cW9]) rfl ⟨_, rfl, hVf, A8.out.b.trans (kW9.below (fun j _ e => by omega) A8.out.b.size)⟩
end Go.Proofs.YtabcdodjkfknlaaGreatDoor
