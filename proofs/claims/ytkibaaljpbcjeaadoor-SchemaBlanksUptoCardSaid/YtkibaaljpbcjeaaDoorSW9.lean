/- Walk: schema: line, a relation. -/
import Derived.Test.YtkibaaljpbcjeaaDoorSTx
namespace Go.Proofs.YtkibaaljpbcjeaaDoor
open Go.RowKit
attribute [local go_sem ↓] dapp_op
theorem RAt.far {P : Nat → Prop} {w w' : World} {cs : List Value} {r : RT} {g : Nat} {T : TypeId} {c : Array Value} (h : RAt P w cs r) (hk : Keeps (fun j => j = g) w w') (hg : Blk w g T c) (hT : 42 ≠ T) : RAt P w' cs r := by
  induction h with
  | mk hrow hp hlen _ ih =>
    refine .mk (hrow.keeps hk fun j hj e => ?_) hp hlen fun i p hi => ih i p hi
    obtain ⟨cur, hb⟩ := hrow.blk j hj
    exact Blk.ne_ hb hg hT e
theorem Sch.far {B : Nat} {w w' : World} {v : Value} {us : List Value} {ts : List TyD} {g : Nat} {T : TypeId} {c : Array Value} (h : Sch B w v us ts) (hk : Keeps (fun j => j = g) w w') (hg : Blk w g T c) (h1 : 42 ≠ T) (h2 : 44 ≠ T) (h3 : 39 ≠ T) : Sch B w' v us ts := by
  refine ⟨own_keeps h.row hk fun j hj e => ?_, h.len, fun i t u ht hu => ?_, h.apart⟩
  · obtain ⟨cur, hb⟩ := own_blk h.row j hj
    exact Blk.ne_ hb hg h3 e
  · obtain ⟨cs, h6, h7⟩ := h.rels i t u ht hu
    refine ⟨cs, own_keeps h6 hk fun j hj e => ?_, h7.len, fun i n r hi => ?_⟩
    · obtain ⟨cur, hb⟩ := own_blk h6 j hj
      exact Blk.ne_ hb hg h2 e
    · obtain ⟨rc, h8, h9⟩ := h7.part i n r hi
      exact ⟨rc, h8, h9.far hk hg h1⟩
theorem lineG_rel {init : List TyD} {n : List UInt8} {rels : List RelD} {s : List UInt8} (h1 : pk (rest s) = eqL) (hgood : good (pk s) = true) (hnt : pk s ≠ typeL) :
    lineG (init ++ [(n, rels)]) s = match gRule 8 (toks (rest (rest s))) with
      | some (r, []) => some (init ++ [(n, rels ++ [(pk s, r)])])
      | _ => none := by
  unfold lineG
  rw [if_pos ⟨h1, by simp⟩, if_pos ⟨hgood, hnt⟩]
  have e : ∀ r, addRel (init ++ [(n, rels)]) (pk s) r = init ++ [(n, rels ++ [(pk s, r)])] := fun r => by
    unfold addRel
    simp
  cases gRule 8 (toks (rest (rest s))) with
  | none => rfl
  | some x =>
    obtain ⟨r, l⟩ := x
    cases l with
    | nil => exact congrArg some (e r)
    | cons _ _ => rfl
theorem lineG_end {init : List TyD} {n : List UInt8} {rels : List RelD} {s s' : List UInt8} {r : RT} {o' : Bool} {d' : Int} (h1 : pk (rest s) = eqL) (hgood : good (pk s) = true) (hnt : pk s ≠ typeL)
    (hc : (gRule 8 (toks (rest (rest s))) = none ∧ o' = true) ∨ (gRule 8 (toks (rest (rest s))) = some (r, toks s') ∧ o' = false ∧ d' = 0)) :
    lineG (init ++ [(n, rels)]) s = if ((pk s').isEmpty && !(o' || pbad s')) = true then some (init ++ [(n, rels ++ [(pk s, r)])]) else none := by
  rw [lineG_rel h1 hgood hnt]
  rcases hc with ⟨e, rfl⟩ | ⟨e, rfl, _⟩
  · rw [e, Bool.true_or, Bool.not_true, Bool.and_false]; rfl
  · rw [e, Bool.false_or]
    by_cases hp : pk s' = []
    · cases he : (trimL s').isEmpty
      · have hb : pbad s' = true := by rw [pbad_of hp, he]; rfl
        rw [toks_bad hb, hb, Bool.not_true, Bool.and_false]; rfl
      · have hb : pbad s' = false := by rw [pbad_of hp, he]; rfl
        rw [toks_end he, hb, hp]; rfl
    · have hne : (pk s').isEmpty = false := by cases hh : pk s' with
        | nil => exact absurd hh hp
        | cons _ _ => rfl
      rw [toks_cons hp, hne, Bool.false_and]; rfl
set_option maxHeartbeats 4000000 in
set_option maxRecDepth 100000 in
theorem line_rel (s : List UInt8) (B S : Nat) (v : Value) (ini : List Value) (u : Value) (init : List TyD) (n : List UInt8) (rels : List RelD) (w : World) (hs : s.length ≤ 100000) (hS : Blk w S 25 #[v]) (hB : S < B) (hBw : B ≤ w.heap.size) (h : Sch B w v (ini ++ [u]) (init ++ [(n, rels)]))
    (hts : init.length ≤ 1000000) (hrs : rels.length ≤ 1000000) (h1 : pk (rest s) = eqL) (hgood : good (pk s) = true) (hnt : pk s ≠ typeL) :
    Calls Tryd.prog 17 #[.pointer (some ⟨S, 0, none⟩), strV s] w (LineSaid B S w (init ++ [(n, rels)]) s) := by
  have hw1 : strV s = .string ⟨s.toArray⟩ := rfl
  have hb1 := (Below.refl w.heap.size w).alloc (Nat.le_refl _) (.cells #[strV s, .bool false, .int .i64 0] 83)
  have rd1 : RdAt (w.alloc (.cells #[strV s, .bool false, .int .i64 0] 83)) w.heap.size s false 0 := Blk.new _ _ _
  have hT := token_calls s false 0 w.heap.size _ (by omega) rd1
  have hp0 : pk s ≠ [] := fun e => by rw [e] at hgood; cases hgood
  have hpb : pbad s = false := pbad_no hp0
  rw [hpb] at hT
  obtain ⟨Q, eQ, dQ⟩ : ∃ Q : ByteArray, strV (pk s) = .string Q ∧ Q.data.toList = pk s := ⟨⟨(pk s).toArray⟩, rfl, rfl⟩
  rw [eQ] at hT
  have hT' := Lib.hid hT
  have hb1' := Lib.hid hb1
  clear hT rd1 hb1
  rw [hw1] at hT' hb1' ⊢
  go_enter Tryd.func17, Tryd.ntmps17
  go_wp2_with fail
  refine hT'.out.mono ?_
  rintro e w2 ⟨rfl, h3, k3⟩
  have hSl := hS.lt
  have kk := hb1'.out
  have hS2 := (hS.below kk hSl).keeps k3 (by omega)
  have hSc := hS2.cell
  have hL : (init ++ [(n, rels)]).length = init.length + 1 := by simp
  obtain ⟨pv, cv, rfl⟩ := own_slice h.row
  rw [hL] at h hSc
  have hst : strV (pk (rest s)) = .string ⟨#[61]⟩ := by rw [h1]; rfl
  have hpb1 : pbad (rest s) = false := pbad_no (by rw [h1]; decide)
  have hP : ∀ x h, _ := fun x h => peek_calls (rest s) false 0 w.heap.size x (by have := rest_le s; omega) h
  have hP2 := fun x h => token_calls (rest s) false 0 w.heap.size x (by have := rest_le s; omega) h
  have hR := fun x h => rule_calls (rest (rest s)) w.heap.size x (by have := rest_le s; have := rest_le (rest s); omega) h
  rw [hst, hpb1] at hP hP2
  have k2 : Keeps (fun j => w.heap.size ≤ j) w w2 := (Keeps.of_below kk).trans (k3.mono fun j _ e => by omega)
  have hql : Q.size ≤ maxLen := by
    rw [Lib.size_eq, dQ]
    have h1 := pk_le s
    have h2 := trimL_le s
    unfold maxLen; omega
  have hN := fun w => isName_calls Q w hql
  have e2 := this_eq Q
  have e3 := type_eq Q
  have hgd : good (pk s) = (isName (pk s) && !(pk s == thisL)) := rfl
  rw [hgood] at hgd
  have hb12 : isName (pk s) = true ∧ (pk s == thisL) = false := by
    have := hgd.symm
    rw [Bool.and_eq_true, Bool.not_eq_true'] at this
    exact this
  rw [dQ] at hN e2 e3
  have hdQ := Lib.hid dQ
  rw [hb12.2] at e2
  rw [beq_false_of_ne hnt] at e3
  rw [hb12.1] at hN
  have hN' := Lib.hid hN
  have hPx := Lib.hid (hP w2 h3)
  have hP2' := Lib.hid hP2
  have hR' := Lib.hid hR
  have hk2' := Lib.hid k2
  have hS2' := Lib.hid hS2
  have h' := Lib.hid h
  clear hN hP hP2 hR k2 k3 kk hT' hb1' dQ hst hS2 h hgd hb12 h3
  go_wp2_with fail
  refine hPx.out.mono ?_
  rintro e w4 ⟨rfl, h4, k4⟩
  have hS4 := hS2'.out.keeps k4 (by omega)
  have hk4 := hk2'.out.trans (k4.mono fun j _ e => by omega)
  clear hSc
  go_wp2_with fail
  refine (hN'.out _).mono ?_
  rintro e w5 ⟨rfl, rfl⟩
  go_wp2_with fail
  refine (hP2'.out _ h4).mono ?_
  rintro e w6 ⟨rfl, h6, k6⟩
  have hS6 := hS4.keeps k6 (by omega)
  have hk6 := hk4.trans (k6.mono fun j _ e => by omega)
  go_wp2_with fail
  refine (hR'.out _ h6).mono ?_
  rintro e w7 ⟨cs, r, s', o', d', rfl, hRA, h7, hz, k7, hcase⟩
  obtain ⟨k, a, b, p0, n0, c0, rfl, _⟩ := hRA.form
  have hz6 := hk6.size
  have hS7 := hS6.keeps k7 (by omega)
  have hk7 := hk6.trans (k7.mono fun j _ e => by omega)
  have hrow := h'.out.row
  obtain ⟨gv, rfl⟩ : ∃ gv, pv = some ⟨gv, 0, none⟩ := by
    rcases hrow.2 with ⟨e, _⟩ | ⟨gv, cap, cur, e, _⟩
    · injection e with _ e; omega
    · injection e with e; exact ⟨gv, e⟩
  obtain ⟨w8, e8⟩ : ∃ w8, w7.alloc (.cells #[.string Q, .int .i64 k, .string a, .string b, .slice p0 n0 c0] 44) = w8 := ⟨_, rfl⟩
  have hb8 := (Below.refl w7.heap.size w7).alloc (Nat.le_refl _) (.cells #[.string Q, .int .i64 k, .string a, .string b, .slice p0 n0 c0] 44)
  have x8 := Blk.new w7 44 #[.string Q, .int .i64 k, .string a, .string b, .slice p0 n0 c0]
  rw [e8] at hb8 x8
  have hS8 := hS7.below hb8 hS7.lt
  rw [hL] at hS8
  have hk8 := hk7.trans (.of_below hb8)
  have sch8 := h'.out.keeps hk8 fun j _ hl e => by omega
  have rd8 := Blk.below h7 hb8 h7.lt
  have RA8 := hRA.later hb8
  have S8c := hS8.cell
  have S8f := hS8.frozen
  have x8c := x8.cell
  -- the last type's rels
  have hlenI : ini.length = init.length := by have := h'.out.len; rw [List.length_append, List.length_append] at this; simpa using this
  have hul : (ini ++ [u])[init.length]? = some u := by rw [← hlenI]; simp
  obtain ⟨csu, hou, _⟩ := sch8.rels init.length (n, rels) u (by simp) hul
  obtain ⟨pu, cu, rfl⟩ := own_slice hou
  have hrow8 := sch8.row
  rw [hL] at hrow8
  have hcu : w8.cell? ⟨gv, init.length * 2 + 1, none⟩ = some (.slice pu rels.length cu) := by
    rw [hrow8.cellAt (init.length * 2 + 1) (by omega), tcells_app hlenI, List.getElem?_append_right (by rw [tcells_len _ _ hlenI]; omega), tcells_len _ _ hlenI, show init.length * 2 + 1 - init.length * 2 = 1 by omega]
    rfl
  have hgvB := hrow8.lt gv rfl
  -- the append's equation
  have x9 : Blk ((w8.alloc (.cells #[.string Q, .int .i64 k, .string a, .string b, .slice p0 n0 c0] 44)).drew) w8.heap.size 44 #[.string Q, .int .i64 k, .string a, .string b, .slice p0 n0 c0] := Blk.new w8 _ _
  have hk9 : Keeps (fun _ => False) w8 ((w8.alloc (.cells #[.string Q, .int .i64 k, .string a, .string b, .slice p0 n0 c0] 44)).drew) := ((Keeps.refl _ w8).alloc _).drew
  have sch9 := sch8.keeps hk9 fun _ _ _ => id
  have RA9 := (RA8.keeps hk9 fun _ _ _ => id).mono (Q := fun j => B ≤ j ∧ (Value.slice (some ⟨gv, 0, none⟩) (init.length + 1) cv).ownBlock ≠ some j ∧ ∀ x ∈ ini ++ [Value.slice pu rels.length cu], x.ownBlock ≠ some j) fun j hj _ => by
    refine ⟨by omega, fun e => ?_, fun x hx e => ?_⟩
    · have := (hrow.lt j e).2; omega
    · obtain ⟨n1, cs1, ho1⟩ := h'.out.own hx
      have := (ho1.lt j e).2; omega
  obtain ⟨p9, c9, w10, e10, sch10, k10⟩ := sch9.addRel rfl (by have := hk9.size; have := hk8.size; omega) (by omega) x9 RA9
  have hgv10 : w10.cell? ⟨gv, init.length * 2 + 1, none⟩ = some (.slice pu rels.length cu) := by
    have hgv9 : gv < ((w8.alloc (.cells #[.string Q, .int .i64 k, .string a, .string b, .slice p0 n0 c0] 44)).drew).heap.size := by have := hk9.size; omega
    have hum := List.mem_of_getElem? hul
    rw [World.cell?_of_block (k10.block gv hgv9 fun e => sch9.vne hum e.2 rfl), World.cell?_of_block (hk9.block gv hgvB.2 id)]
    exact hcu
  have S10 : Blk w10 S 25 #[.slice (some ⟨gv, 0, none⟩) (init.length + 1) cv] := (hS8.keeps hk9 id).keeps k10 (by omega)
  have S10c := S10.cell
  have f10 : ∀ i, w10.frozen? ⟨gv, i, none⟩ = false := by
    obtain ⟨cur, hb⟩ := (RowAt.of_own sch10.row).blk gv rfl
    intro i
    have := hb.frozen i
    rwa [World.frozen?_setCell] at this
  have hSlt := hS8.lt
  have hgvlt := hgvB.2
  have hwr : IntKind.i64.wrap (init.length : Int) = init.length := by rw [IntKind.wrap_i64]; omega
  go_wp2_with fail
  go_region
  have hgu : ∀ j, (Value.slice pu rels.length cu).ownBlock = some j → j < w.heap.size := fun j hj => by
    obtain ⟨n1, cs1, ho1⟩ := h'.out.own (List.mem_of_getElem? hul)
    exact (ho1.lt j hj).2
  have hgvw : gv < w.heap.size := (hrow.lt gv rfl).2
  have rd10 := ((rd8.keeps hk9 id).keeps k10 (fun e => by have := hgu _ e.2; omega)).far (p := ⟨gv, init.length * 2 + 1, none⟩) (Nat.ne_of_gt hgvw) (.slice p9 (rels.length + 1) c9)
  have S11 := S10.far (p := ⟨gv, init.length * 2 + 1, none⟩) (fun e => by have := (hrow.lt gv rfl).1; have e' : S = gv := e; omega) (.slice p9 (rels.length + 1) c9)
  have hk11 : Keeps (fun j => j = S ∨ B ≤ j) w (w10.setCell ⟨gv, init.length * 2 + 1, none⟩ (.slice p9 (rels.length + 1) c9)) := (((hk8.mono (T := fun j => j = S ∨ B ≤ j) fun j _ e => by omega).trans (hk9.mono fun j _ e => e.elim)).trans (k10.mono fun j _ e => by omega)).setCell (p := ⟨gv, init.length * 2 + 1, none⟩) (.inl (by have := (hrow.lt gv rfl).1; show gv = S ∨ B ≤ gv; omega)) _
  obtain ⟨w11, e11⟩ : ∃ w11, w10.setCell ⟨gv, init.length * 2 + 1, none⟩ (.slice p9 (rels.length + 1) c9) = w11 := ⟨_, rfl⟩
  rw [e11] at rd10 S11 hk11 sch10 ⊢
  have rd11 : RdAt w11 w.heap.size s' o' d' := rd10
  have hle' : s'.length ≤ 100000000 := by have := hz.le; have := rest_le s; have := rest_le (rest s); omega
  obtain ⟨V, eV, dV⟩ : ∃ Q : ByteArray, strV (pk s') = .string Q ∧ Q.data.toList = pk s' := ⟨⟨(pk s').toArray⟩, rfl, rfl⟩
  have hPv := peek_calls s' o' d' w.heap.size w11 hle' rd11
  rw [eV] at hPv
  have e5 : (V.toList == []) = (pk s').isEmpty := by
    rw [Lib.toList_data, dV]
    cases pk s' <;> rfl
  have hPv' := Lib.hid hPv
  have hk11' := Lib.hid hk11
  have S11' := Lib.hid S11
  have sch11' := Lib.hid sch10
  have hcase' := Lib.hid hcase
  have rd11' := Lib.hid rd11
  clear hPv hk11 S11 sch10 hcase rd10 rd11 k10 S10c S10 f10 hgv10 e10 RA9 sch9 hk9 x9 hgvB hcu hrow8 hou hul x8c S8c S8f RA8 rd8 sch8 hk8 hS8 hb8 x8 hrow hk7 hS7 k7 h7 hRA e11 e8
  cases hem : (pk s').isEmpty
  · rw [hem] at e5
    go_wp2_with fail
    refine hPv'.out.mono ?_
    rintro e w12 ⟨rfl, h12, k12⟩
    go_wp2_with fail
    go_ret
    have hE := lineG_end (init := init) (n := n) (rels := rels) h1 hgood hnt hcase'.out
    rw [hem, Bool.false_and, if_neg Bool.false_ne_true] at hE
    exact ⟨hk11'.out.trans (k12.mono fun j _ e => by omega), .inl ⟨hE, rfl⟩⟩
  · rw [hem] at e5
    go_wp2_with fail
    refine hPv'.out.mono ?_
    rintro e w12 ⟨rfl, h12, k12⟩
    have q12 := Blk.cell h12
    go_wp2_with fail
    go_ret
    have hE := lineG_end (init := init) (n := n) (rels := rels) h1 hgood hnt hcase'.out
    rw [hem, Bool.true_and] at hE
    have hkf := hk11'.out.trans (k12.mono (T := fun j => j = S ∨ B ≤ j) fun j _ e => by omega)
    have hSf := S11'.out.keeps k12 (by omega)
    have hschf := sch11'.out.far k12 rd11'.out (by decide) (by decide) (by decide)
    have hbool : (!o' && !pbad s') = !(o' || pbad s') := by cases o' <;> rfl
    refine ⟨hkf, ?_⟩
    cases hob : !(o' || pbad s')
    · rw [hob, if_neg Bool.false_ne_true] at hE
      exact .inl ⟨hE, ret_bool (hbool.trans hob)⟩
    · rw [hob, if_pos rfl, ← hdQ.out] at hE
      exact .inr ⟨_, _, _, hE, ret_bool (hbool.trans hob), hSf, hschf⟩
end Go.Proofs.YtkibaaljpbcjeaaDoor
