/- Walk: schema: line, a type. -/
import Derived.Test.YtkibaaljpbcjeaaDoorSW9
import Derived.Deep.RegionHeld3
namespace Go.Proofs.YtkibaaljpbcjeaaDoor
open Go.RowKit
attribute [local go_sem ↓] dapp_op
/-- behind the name's call: what the walk goes on with -/
structure TyF (B S g : Nat) (us : List Value) (ts : List TyD) (V : ByteArray) (s2 : List UInt8) (o : Bool) (v : Value) (w5 w6 : World) (p : Option Addr) (c : Nat) (w7 : World) : Prop where
  cell : ∀ i, w6.cell? ⟨S, i, none⟩ = (#[v] : Array Value)[i]?
  lt : S < w6.heap.size
  run : (dappOp #[23, 23] 23 #[v, .slice (some ⟨w6.heap.size, 0, none⟩) 1 1]).run Tryd.prog (w6.alloc (.cells #[.string V, .slice none 0 0] 39)) = .ok (.slice p (ts.length + 1) c) w7
  cell7 : ∀ i, w7.cell? ⟨S, i, none⟩ = (#[v] : Array Value)[i]?
  froz7 : ∀ i, w7.frozen? ⟨S, i, none⟩ = false
  blk7 : Blk w7 S 25 #[v]
  sch : Sch B w7 (.slice p (ts.length + 1) c) (us ++ [.slice none 0 0]) (ts ++ [(V.data.toList, [])])
  rd : RdAt w7 g s2 o 0
  keeps : Keeps (fun j => j = S ∨ B ≤ j) w5 w7
theorem ty_name {B S g : Nat} {us : List Value} {ts : List TyD} {V : ByteArray} {r1 : List UInt8} {o : Bool} {v : Value} {w5 : World} (hB : S < B) (hg : B ≤ g) (hts : ts.length ≤ 1000000) (hgs : ∀ j, B ≤ j → v.ownBlock = some j → j < g) (hS : Blk w5 S 25 #[v]) (h : Sch B w5 v us ts) (hr : RdAt w5 g r1 o 0) (hl : r1.length ≤ 100000000) (hV : strV (pk r1) = .string V) (W : World) (hW : Keeps (fun _ => False) w5 W) :
    Calls Tryd.prog 44 #[.pointer (some ⟨g, 0, none⟩)] W fun e w6 => e = .returned (.string V) ∧ ∃ p c w7, TyF B S g us ts V (rest r1) (o || !good (pk r1)) v w5 w6 p c w7 := by
  refine (name_calls r1 o 0 g W hl (hr.keeps hW id)).mono ?_
  rintro e w6 ⟨rfl, h6, k6⟩
  rw [hV]
  refine ⟨rfl, ?_⟩
  have hgl := hr.lt
  have hSl := hS.lt
  have hS6 := (hS.keeps hW id).keeps k6 (by omega)
  have sch6 := (h.keeps hW fun _ _ _ => id).far k6 (hr.keeps hW id) (by decide) (by decide) (by decide)
  have hb := (Below.refl w6.heap.size w6).alloc (Nat.le_refl _) (.cells #[.string V, .slice none 0 0] 39)
  have x6 := Blk.new w6 39 #[.string V, .slice none 0 0]
  have z1 := hW.size
  have z2 := k6.size
  obtain ⟨p, c, w7, e7, sch7, k7⟩ := (sch6.keeps (S := fun _ => False) (.of_below hb) fun _ _ _ => id).push (by have := hb.size; omega) (by omega) x6
  have hS7 := (hS6.below hb hS6.lt).keeps k7 (by omega)
  refine ⟨p, c, w7, ⟨hS6.cell, hS6.lt, e7, hS7.cell, hS7.frozen, hS7, sch7, ?_, ?_⟩⟩
  · exact (Blk.below h6 hb h6.lt).keeps k7 fun e => by have := hgs g e.1 e.2; omega
  · exact (((hW.mono (T := fun j => j = S ∨ B ≤ j) fun j _ e => e.elim).trans (k6.mono fun j _ e => by omega)).trans (.of_below hb)).trans (k7.mono fun j _ e => by omega)
theorem TyF.done {B S g : Nat} {us : List Value} {ts : List TyD} {V : ByteArray} {s2 : List UInt8} {o : Bool} {v : Value} {w w5 w6 w7 : World} {p : Option Addr} {c : Nat} (F : TyF B S g us ts V s2 o v w5 w6 p c w7) (hg : g ≠ S) (hB : S < B) (hk : Keeps (fun j => w.heap.size ≤ j) w w5) :
    ∃ w8, w7.setCell ⟨S, 0, none⟩ (.slice p (ts.length + 1) c) = w8 ∧ RdAt w8 g s2 o 0 ∧ Blk w8 S 25 #[.slice p (ts.length + 1) c] ∧ Sch B w8 (.slice p (ts.length + 1) c) (us ++ [.slice none 0 0]) (ts ++ [(V.data.toList, [])]) ∧ Keeps (fun j => j = S ∨ B ≤ j) w w8 := by
  refine ⟨_, rfl, Blk.far F.rd (p := ⟨S, 0, none⟩) hg _, F.blk7.set_ 0 _, F.sch.keeps ((Keeps.refl (fun j => j = S) w7).setCell (p := ⟨S, 0, none⟩) (.inl rfl) _) fun j hj _ e => by omega, ?_⟩
  exact ((hk.mono fun j _ e => by omega).trans F.keeps).setCell (p := ⟨S, 0, none⟩) (.inl (.inl rfl)) _
theorem lineG_ty {ts : List TyD} {s : List UInt8} (hc : ¬ (pk (rest s) = eqL ∧ ts ≠ [])) :
    lineG ts s = if ((pk (rest (rest s))).isEmpty && !((false || pbad s || pbad (rest s) || !(pk s == typeL)) || !good (pk (rest s)) || pbad (rest (rest s)))) = true then some (ts ++ [(pk (rest s), [])]) else none := by
  unfold lineG
  rw [if_neg hc]
  by_cases h1 : pk s = typeL
  · have hb : pbad s = false := pbad_no (by rw [h1]; decide)
    rw [hb, h1, beq_self_eq_true, Bool.not_true]
    cases hg : good (pk (rest s))
    · rw [if_neg (fun e => by cases e.2.1), if_neg (by simp)]
    · have hb1 : pbad (rest s) = false := by
        cases hx : pbad (rest s)
        · rfl
        · rw [bad_good hx] at hg; cases hg
      rw [hb1]
      by_cases hp : pk (rest (rest s)) = []
      · cases he : (trimL (rest (rest s))).isEmpty
        · have hb : pbad (rest (rest s)) = true := by rw [pbad_of hp, he]; rfl
          rw [toks_bad hb, hb, if_neg (fun e => by cases e.2.2), if_neg (by simp)]
        · have hb : pbad (rest (rest s)) = false := by rw [pbad_of hp, he]; rfl
          rw [toks_end he, hb, hp, if_pos ⟨rfl, rfl, rfl⟩]; rfl
      · have hne : (pk (rest (rest s))).isEmpty = false := by cases hh : pk (rest (rest s)) with
          | nil => exact absurd hh hp
          | cons _ _ => rfl
        rw [toks_cons hp, hne, if_neg (fun e => by cases e.2.2), if_neg (by simp)]
  · rw [if_neg fun e => h1 e.1, beq_false_of_ne h1, if_neg (by simp)]
set_option maxHeartbeats 4000000 in
set_option maxRecDepth 100000 in
theorem line_type (s : List UInt8) (B S : Nat) (v : Value) (us : List Value) (ts : List TyD) (w : World) (hs : s.length ≤ 100000) (hS : Blk w S 25 #[v]) (hB : S < B) (hBw : B ≤ w.heap.size) (h : Sch B w v us ts)
    (hts : ts.length ≤ 1000000) (hc : ¬ (pk (rest s) = eqL ∧ ts ≠ [])) :
    Calls Tryd.prog 17 #[.pointer (some ⟨S, 0, none⟩), strV s] w (LineSaid B S w ts s) := by
  have hG := lineG_ty hc
  have hw1 : strV s = .string ⟨s.toArray⟩ := rfl
  have hb1 := (Below.refl w.heap.size w).alloc (Nat.le_refl _) (.cells #[strV s, .bool false, .int .i64 0] 83)
  have rd1 : RdAt (w.alloc (.cells #[strV s, .bool false, .int .i64 0] 83)) w.heap.size s false 0 := Blk.new _ _ _
  have hT := token_calls s false 0 w.heap.size _ (by omega) rd1
  obtain ⟨Q, eQ, dQ⟩ : ∃ Q : ByteArray, strV (pk s) = .string Q ∧ Q.data.toList = pk s := ⟨⟨(pk s).toArray⟩, rfl, rfl⟩
  obtain ⟨V, eV, dV⟩ : ∃ Q : ByteArray, strV (pk (rest s)) = .string Q ∧ Q.data.toList = pk (rest s) := ⟨⟨(pk (rest s)).toArray⟩, rfl, rfl⟩
  obtain ⟨X, eX, dX⟩ : ∃ Q : ByteArray, strV (pk (rest (rest s))) = .string Q ∧ Q.data.toList = pk (rest (rest s)) := ⟨⟨(pk (rest (rest s))).toArray⟩, rfl, rfl⟩
  rw [eQ] at hT
  have hT' := Lib.hid hT
  have hb1' := Lib.hid hb1
  clear hT rd1 hb1
  rw [hw1] at hT' hb1' ⊢
  obtain ⟨pv, cv, rfl⟩ := own_slice h.row
  go_enter Tryd.func17, Tryd.ntmps17
  go_wp2_with fail
  refine hT'.out.mono ?_
  rintro e w2 ⟨rfl, h3, k3⟩
  have hSl := hS.lt
  have hS2 := (hS.below hb1'.out hSl).keeps k3 (by omega)
  have hSc := hS2.cell
  have k2 : Keeps (fun j => w.heap.size ≤ j) w w2 := (Keeps.of_below hb1'.out).trans (k3.mono fun j _ e => by omega)
  have hlr := rest_le s
  have hlr2 := rest_le (rest s)
  have hP := peek_calls (rest s) (false || pbad s) 0 w.heap.size w2 (by omega) h3
  rw [eV] at hP
  have hP' := Lib.hid hP
  have e1 := eq_eq V
  rw [dV] at e1
  have e3 := type_eq Q
  rw [dQ] at e3
  have hk2' := Lib.hid k2
  have hS2' := Lib.hid hS2
  have h' := Lib.hid h
  have hn0 : (pk (rest s) == eqL) = false ∨ ts.length = 0 := by
    by_cases e : pk (rest s) = eqL
    · refine .inr ?_
      by_cases e2 : ts = []
      · rw [e2]; rfl
      · exact absurd ⟨e, e2⟩ hc
    · exact .inl (beq_false_of_ne e)
  have hdV := Lib.hid dV
  have hdX := Lib.hid dX
  have hG' := Lib.hid hG
  clear hP k2 k3 hT' hb1' dQ dV dX hS2 h h3 hS hG hc
  go_wp2_with fail
  refine hP'.out.mono ?_
  rintro e w4 ⟨rfl, h4, k4⟩
  have hS4 := hS2'.out.keeps k4 (by omega)
  have hk4 := hk2'.out.trans (k4.mono fun j _ e => by omega)
  have q4 := Blk.cell h4
  have qf4 := Blk.frozen h4
  have S4c := hS4.cell
  have S4f := hS4.frozen
  clear hSc
  have hgo : ((pk (rest s) == eqL) && decide (0 < ts.length)) = false := by
    rcases hn0 with e | e
    · rw [e]; rfl
    · rw [e]; simp
  obtain ⟨o4, ho4⟩ : ∃ o, (false || pbad s || pbad (rest s)) = o := ⟨_, rfl⟩
  rw [ho4] at h4 q4
  have ho4' := Lib.hid ho4
  obtain ⟨bt, hbt⟩ : ∃ b, (pk s == typeL) = b := ⟨_, rfl⟩
  rw [hbt] at e3
  have hbt' := Lib.hid hbt
  have hwlt : S < w4.heap.size := hS4.lt
  clear ho4 hbt
  cases hb : (pk (rest s) == eqL)
  · rw [hb] at e1
    cases o4
    · skip
      go_wp2_with fail
      have rd5 := RdAt.odd h4 (!bt)
      have ks := (Keeps.refl (fun j => j = w.heap.size) w4).setCell (p := ⟨w.heap.size, 1, none⟩) (.inl rfl) (.bool (!bt))
      have hS5 := hS4.keeps ks (by omega)
      have sch5 := (h'.out.keeps hk4 fun j _ hl e => by omega).far ks h4 (by decide) (by decide) (by decide)
      have hk5 := hk4.trans (ks.mono fun j _ e => by omega)
      obtain ⟨w5, e5⟩ : ∃ w5, w4.setCell ⟨w.heap.size, 1, none⟩ (.bool (!bt)) = w5 := ⟨_, rfl⟩
      rw [e5] at rd5 hS5 sch5 hk5 ⊢
      have S5c := hS5.cell
      have S5f := hS5.frozen
      have hN := ty_name hB hBw hts (fun j _ e => (h'.out.row.lt j e).2) hS5 sch5 rd5 (by omega) eV
      have hN' := Lib.hid hN
      have hk5' := Lib.hid hk5
      clear hN rd5 hS5 sch5 hk5 ks q4 qf4 S4c S4f hS4 hk4 h4 e5
      go_region_with (go_at_call 44; refine (hN'.out _ (Keeps.refl _ _).drew).mono ?_; rintro e w6 ⟨rfl, p9, c9, w7, F⟩; have f1 := F.cell; have f2 := F.lt; have f3 := F.run; have f4 := F.cell7; have f5 := F.froz7)
      all_goals
        obtain ⟨w8, e8, rd8, S8, sch8, k8⟩ := F.done (by omega) hB hk5'.out
        rw [e8]
        have hPv := peek_calls (rest (rest s)) _ 0 w.heap.size w8 (by omega) rd8
        rw [eX] at hPv
        obtain ⟨oo, hoo⟩ : ∃ b, (!bt || !good (pk (rest s))) = b := ⟨_, rfl⟩
        rw [hoo] at hPv
        have e9 : (X.toList == []) = (pk (rest (rest s))).isEmpty := by
          rw [Lib.toList_data, hdX.out]
          cases pk (rest (rest s)) <;> rfl
        have hPv' := Lib.hid hPv
        have hoo' := Lib.hid hoo
        have rd8' := Lib.hid rd8
        have S8' := Lib.hid S8
        have sch8' := Lib.hid sch8
        have k8' := Lib.hid k8
        clear hPv hoo rd8 S8 sch8 k8 e8 F f1 f2 f3 f4 f5
        cases hem : (pk (rest (rest s))).isEmpty
        · rw [hem] at e9
          go_wp2_with fail
          refine hPv'.out.mono ?_
          rintro e w12 ⟨rfl, h12, k12⟩
          go_wp2_with fail
          go_ret
          have hE := hG'.out
          rw [hem, Bool.false_and, if_neg Bool.false_ne_true] at hE
          exact ⟨k8'.out.trans (k12.mono fun j _ e => by omega), .inl ⟨hE, rfl⟩⟩
        · rw [hem] at e9
          go_wp2_with fail
          refine hPv'.out.mono ?_
          rintro e w12 ⟨rfl, h12, k12⟩
          have q12 := Blk.cell h12
          go_wp2_with fail
          go_ret
          have hE := hG'.out
          have ho6 : (false || !bt || !good (pk (rest s))) = oo := by rw [← hoo'.out]; simp
          rw [hem, Bool.true_and, ho4'.out, hbt'.out, ho6] at hE
          have hkf := k8'.out.trans (k12.mono (T := fun j => j = S ∨ B ≤ j) fun j _ e => by omega)
          have hSf := S8'.out.keeps k12 (by omega)
          have hschf := sch8'.out.far k12 rd8'.out (by decide) (by decide) (by decide)
          have hbool : (!oo && !pbad (rest (rest s))) = !(oo || pbad (rest (rest s))) := by cases oo <;> rfl
          refine ⟨hkf, ?_⟩
          cases hob : !(oo || pbad (rest (rest s)))
          · rw [hob, if_neg Bool.false_ne_true] at hE
            exact .inl ⟨hE, ret_bool (hbool.trans hob)⟩
          · rw [hob, if_pos rfl, ← hdV.out] at hE
            exact .inr ⟨_, _, _, hE, ret_bool (hbool.trans hob), hSf, hschf⟩
    · skip
      go_wp2_with fail
      have rd5 := RdAt.odd h4 (true)
      have ks := (Keeps.refl (fun j => j = w.heap.size) w4).setCell (p := ⟨w.heap.size, 1, none⟩) (.inl rfl) (.bool (true))
      have hS5 := hS4.keeps ks (by omega)
      have sch5 := (h'.out.keeps hk4 fun j _ hl e => by omega).far ks h4 (by decide) (by decide) (by decide)
      have hk5 := hk4.trans (ks.mono fun j _ e => by omega)
      obtain ⟨w5, e5⟩ : ∃ w5, w4.setCell ⟨w.heap.size, 1, none⟩ (.bool (true)) = w5 := ⟨_, rfl⟩
      rw [e5] at rd5 hS5 sch5 hk5 ⊢
      have S5c := hS5.cell
      have S5f := hS5.frozen
      have hN := ty_name hB hBw hts (fun j _ e => (h'.out.row.lt j e).2) hS5 sch5 rd5 (by omega) eV
      have hN' := Lib.hid hN
      have hk5' := Lib.hid hk5
      clear hN rd5 hS5 sch5 hk5 ks q4 qf4 S4c S4f hS4 hk4 h4 e5
      go_region_with (go_at_call 44; refine (hN'.out _ (Keeps.refl _ _).drew).mono ?_; rintro e w6 ⟨rfl, p9, c9, w7, F⟩; have f1 := F.cell; have f2 := F.lt; have f3 := F.run; have f4 := F.cell7; have f5 := F.froz7)
      all_goals
        obtain ⟨w8, e8, rd8, S8, sch8, k8⟩ := F.done (by omega) hB hk5'.out
        rw [e8]
        have hPv := peek_calls (rest (rest s)) _ 0 w.heap.size w8 (by omega) rd8
        rw [eX] at hPv
        obtain ⟨oo, hoo⟩ : ∃ b, (true || !good (pk (rest s))) = b := ⟨_, rfl⟩
        rw [hoo] at hPv
        have e9 : (X.toList == []) = (pk (rest (rest s))).isEmpty := by
          rw [Lib.toList_data, hdX.out]
          cases pk (rest (rest s)) <;> rfl
        have hPv' := Lib.hid hPv
        have hoo' := Lib.hid hoo
        have rd8' := Lib.hid rd8
        have S8' := Lib.hid S8
        have sch8' := Lib.hid sch8
        have k8' := Lib.hid k8
        clear hPv hoo rd8 S8 sch8 k8 e8 F f1 f2 f3 f4 f5
        cases hem : (pk (rest (rest s))).isEmpty
        · rw [hem] at e9
          go_wp2_with fail
          refine hPv'.out.mono ?_
          rintro e w12 ⟨rfl, h12, k12⟩
          go_wp2_with fail
          go_ret
          have hE := hG'.out
          rw [hem, Bool.false_and, if_neg Bool.false_ne_true] at hE
          exact ⟨k8'.out.trans (k12.mono fun j _ e => by omega), .inl ⟨hE, rfl⟩⟩
        · rw [hem] at e9
          go_wp2_with fail
          refine hPv'.out.mono ?_
          rintro e w12 ⟨rfl, h12, k12⟩
          have q12 := Blk.cell h12
          go_wp2_with fail
          go_ret
          have hE := hG'.out
          have ho6 : (true || !bt || !good (pk (rest s))) = oo := by rw [← hoo'.out]; simp
          rw [hem, Bool.true_and, ho4'.out, hbt'.out, ho6] at hE
          have hkf := k8'.out.trans (k12.mono (T := fun j => j = S ∨ B ≤ j) fun j _ e => by omega)
          have hSf := S8'.out.keeps k12 (by omega)
          have hschf := sch8'.out.far k12 rd8'.out (by decide) (by decide) (by decide)
          have hbool : (!oo && !pbad (rest (rest s))) = !(oo || pbad (rest (rest s))) := by cases oo <;> rfl
          refine ⟨hkf, ?_⟩
          cases hob : !(oo || pbad (rest (rest s)))
          · rw [hob, if_neg Bool.false_ne_true] at hE
            exact .inl ⟨hE, ret_bool (hbool.trans hob)⟩
          · rw [hob, if_pos rfl, ← hdV.out] at hE
            exact .inr ⟨_, _, _, hE, ret_bool (hbool.trans hob), hSf, hschf⟩
  · rw [hb] at e1
    have hz : ts.length = 0 := by
      rcases hn0 with e | e
      · rw [hb] at e; cases e
      · exact e
    cases o4
    · skip
      go_wp2_with fail
      have rd5 := RdAt.odd h4 (!bt)
      have ks := (Keeps.refl (fun j => j = w.heap.size) w4).setCell (p := ⟨w.heap.size, 1, none⟩) (.inl rfl) (.bool (!bt))
      have hS5 := hS4.keeps ks (by omega)
      have sch5 := (h'.out.keeps hk4 fun j _ hl e => by omega).far ks h4 (by decide) (by decide) (by decide)
      have hk5 := hk4.trans (ks.mono fun j _ e => by omega)
      obtain ⟨w5, e5⟩ : ∃ w5, w4.setCell ⟨w.heap.size, 1, none⟩ (.bool (!bt)) = w5 := ⟨_, rfl⟩
      rw [e5] at rd5 hS5 sch5 hk5 ⊢
      have S5c := hS5.cell
      have S5f := hS5.frozen
      have hN := ty_name hB hBw hts (fun j _ e => (h'.out.row.lt j e).2) hS5 sch5 rd5 (by omega) eV
      have hN' := Lib.hid hN
      have hk5' := Lib.hid hk5
      clear hN rd5 hS5 sch5 hk5 ks q4 qf4 S4c S4f hS4 hk4 h4 e5
      go_region_with (go_at_call 44; refine (hN'.out _ (Keeps.refl _ _).drew).mono ?_; rintro e w6 ⟨rfl, p9, c9, w7, F⟩; have f1 := F.cell; have f2 := F.lt; have f3 := F.run; have f4 := F.cell7; have f5 := F.froz7; simp only [hz, Nat.zero_add] at f1 f3 f4)
      all_goals
        obtain ⟨w8, e8, rd8, S8, sch8, k8⟩ := F.done (by omega) hB hk5'.out
        simp only [hz, Nat.zero_add] at e8
        rw [e8]
        have hPv := peek_calls (rest (rest s)) _ 0 w.heap.size w8 (by omega) rd8
        rw [eX] at hPv
        obtain ⟨oo, hoo⟩ : ∃ b, (!bt || !good (pk (rest s))) = b := ⟨_, rfl⟩
        rw [hoo] at hPv
        have e9 : (X.toList == []) = (pk (rest (rest s))).isEmpty := by
          rw [Lib.toList_data, hdX.out]
          cases pk (rest (rest s)) <;> rfl
        have hPv' := Lib.hid hPv
        have hoo' := Lib.hid hoo
        have rd8' := Lib.hid rd8
        have S8' := Lib.hid S8
        have sch8' := Lib.hid sch8
        have k8' := Lib.hid k8
        clear hPv hoo rd8 S8 sch8 k8 e8 F f1 f2 f3 f4 f5
        cases hem : (pk (rest (rest s))).isEmpty
        · rw [hem] at e9
          go_wp2_with fail
          refine hPv'.out.mono ?_
          rintro e w12 ⟨rfl, h12, k12⟩
          go_wp2_with fail
          go_ret
          have hE := hG'.out
          rw [hem, Bool.false_and, if_neg Bool.false_ne_true] at hE
          exact ⟨k8'.out.trans (k12.mono fun j _ e => by omega), .inl ⟨hE, rfl⟩⟩
        · rw [hem] at e9
          go_wp2_with fail
          refine hPv'.out.mono ?_
          rintro e w12 ⟨rfl, h12, k12⟩
          have q12 := Blk.cell h12
          go_wp2_with fail
          go_ret
          have hE := hG'.out
          have ho6 : (false || !bt || !good (pk (rest s))) = oo := by rw [← hoo'.out]; simp
          rw [hem, Bool.true_and, ho4'.out, hbt'.out, ho6] at hE
          have hkf := k8'.out.trans (k12.mono (T := fun j => j = S ∨ B ≤ j) fun j _ e => by omega)
          have hSf := S8'.out.keeps k12 (by omega)
          have hschf := sch8'.out.far k12 rd8'.out (by decide) (by decide) (by decide)
          have hbool : (!oo && !pbad (rest (rest s))) = !(oo || pbad (rest (rest s))) := by cases oo <;> rfl
          refine ⟨hkf, ?_⟩
          cases hob : !(oo || pbad (rest (rest s)))
          · rw [hob, if_neg Bool.false_ne_true] at hE
            exact .inl ⟨hE, ret_bool (hbool.trans hob)⟩
          · rw [hob, if_pos rfl, ← hdV.out] at hE
            exact .inr ⟨_, _, _, hE, ret_bool (hbool.trans hob), hSf, hschf⟩
    · skip
      go_wp2_with fail
      have rd5 := RdAt.odd h4 (true)
      have ks := (Keeps.refl (fun j => j = w.heap.size) w4).setCell (p := ⟨w.heap.size, 1, none⟩) (.inl rfl) (.bool (true))
      have hS5 := hS4.keeps ks (by omega)
      have sch5 := (h'.out.keeps hk4 fun j _ hl e => by omega).far ks h4 (by decide) (by decide) (by decide)
      have hk5 := hk4.trans (ks.mono fun j _ e => by omega)
      obtain ⟨w5, e5⟩ : ∃ w5, w4.setCell ⟨w.heap.size, 1, none⟩ (.bool (true)) = w5 := ⟨_, rfl⟩
      rw [e5] at rd5 hS5 sch5 hk5 ⊢
      have S5c := hS5.cell
      have S5f := hS5.frozen
      have hN := ty_name hB hBw hts (fun j _ e => (h'.out.row.lt j e).2) hS5 sch5 rd5 (by omega) eV
      have hN' := Lib.hid hN
      have hk5' := Lib.hid hk5
      clear hN rd5 hS5 sch5 hk5 ks q4 qf4 S4c S4f hS4 hk4 h4 e5
      go_region_with (go_at_call 44; refine (hN'.out _ (Keeps.refl _ _).drew).mono ?_; rintro e w6 ⟨rfl, p9, c9, w7, F⟩; have f1 := F.cell; have f2 := F.lt; have f3 := F.run; have f4 := F.cell7; have f5 := F.froz7; simp only [hz, Nat.zero_add] at f1 f3 f4)
      all_goals
        obtain ⟨w8, e8, rd8, S8, sch8, k8⟩ := F.done (by omega) hB hk5'.out
        simp only [hz, Nat.zero_add] at e8
        rw [e8]
        have hPv := peek_calls (rest (rest s)) _ 0 w.heap.size w8 (by omega) rd8
        rw [eX] at hPv
        obtain ⟨oo, hoo⟩ : ∃ b, (true || !good (pk (rest s))) = b := ⟨_, rfl⟩
        rw [hoo] at hPv
        have e9 : (X.toList == []) = (pk (rest (rest s))).isEmpty := by
          rw [Lib.toList_data, hdX.out]
          cases pk (rest (rest s)) <;> rfl
        have hPv' := Lib.hid hPv
        have hoo' := Lib.hid hoo
        have rd8' := Lib.hid rd8
        have S8' := Lib.hid S8
        have sch8' := Lib.hid sch8
        have k8' := Lib.hid k8
        clear hPv hoo rd8 S8 sch8 k8 e8 F f1 f2 f3 f4 f5
        cases hem : (pk (rest (rest s))).isEmpty
        · rw [hem] at e9
          go_wp2_with fail
          refine hPv'.out.mono ?_
          rintro e w12 ⟨rfl, h12, k12⟩
          go_wp2_with fail
          go_ret
          have hE := hG'.out
          rw [hem, Bool.false_and, if_neg Bool.false_ne_true] at hE
          exact ⟨k8'.out.trans (k12.mono fun j _ e => by omega), .inl ⟨hE, rfl⟩⟩
        · rw [hem] at e9
          go_wp2_with fail
          refine hPv'.out.mono ?_
          rintro e w12 ⟨rfl, h12, k12⟩
          have q12 := Blk.cell h12
          go_wp2_with fail
          go_ret
          have hE := hG'.out
          have ho6 : (true || !bt || !good (pk (rest s))) = oo := by rw [← hoo'.out]; simp
          rw [hem, Bool.true_and, ho4'.out, hbt'.out, ho6] at hE
          have hkf := k8'.out.trans (k12.mono (T := fun j => j = S ∨ B ≤ j) fun j _ e => by omega)
          have hSf := S8'.out.keeps k12 (by omega)
          have hschf := sch8'.out.far k12 rd8'.out (by decide) (by decide) (by decide)
          have hbool : (!oo && !pbad (rest (rest s))) = !(oo || pbad (rest (rest s))) := by cases oo <;> rfl
          refine ⟨hkf, ?_⟩
          cases hob : !(oo || pbad (rest (rest s)))
          · rw [hob, if_neg Bool.false_ne_true] at hE
            exact .inl ⟨hE, ret_bool (hbool.trans hob)⟩
          · rw [hob, if_pos rfl, ← hdV.out] at hE
            exact .inr ⟨_, _, _, hE, ret_bool (hbool.trans hob), hSf, hschf⟩
end Go.Proofs.YtkibaaljpbcjeaaDoor
