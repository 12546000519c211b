/- Walks: Apply. Walks: frames: four bytes of a number, written and read. -/
import Derived.Test.YtabcdodjkfknlaaGreatDoorPL12
import Derived.Test.YtabcdodjkfknlaaGreatDoorPL08
namespace Go.Proofs.YtabcdodjkfknlaaGreatDoor
open Go.RowKit Go.Maps
attribute [local go_sem ↓] dapp_op dslK_op
attribute [local go_sem] Oper.semAt_some
def VerOwn (B : Nat) (w : World) (v : Value) (x : Ver) : Prop := ∃ sv, v = .agg #[sv, .int .u64 x.floor, .int .u64 x.head, .int .i64 x.log, .int .i64 x.next] ∧ rkT.Own B w sv x.tables
def ApplyPost (w : World) (r : Ver × Int) (e : Ending) (w' : World) : Prop := ∃ v', e = .returned (.tuple #[v', .int .i64 r.2]) ∧ VerOwn w.heap.size w' v' r.1 ∧ Below w.heap.size w w'
theorem VerOwn.zero (B : Nat) (w : World) : VerOwn B w (.agg vZero) Ver.zero := ⟨_, rfl, RowK.Own.nil _ _ _⟩
theorem VerOwn.later {B : Nat} {w w' : World} {v : Value} {x : Ver} (h : VerOwn B w v x) (hb : Below w.heap.size w w') : VerOwn B w' v x := by
  obtain ⟨sv, e, h⟩ := h
  exact ⟨sv, e, h.later hb⟩
theorem VerOwn.keeps {B : Nat} {w w' : World} {v : Value} {x : Ver} {g : Nat} {cs : Array Value} (h : VerOwn B w v x) (hg : Blk w g 30 cs) (hk : Keeps (fun j => j = g) w w') : VerOwn B w' v x := by
  obtain ⟨sv, e, h⟩ := h
  exact ⟨sv, e, h.keeps hk fun j hj e => h.blk_ne hg (by decide) (by rw [hj, e])⟩
theorem take_next {α : Type} {l : List α} {k : Nat} {t : α} (h : l[k]? = some t) : l.take (k + 1) = l.take k ++ [t] := by
  rw [List.take_add_one, h]; rfl
theorem take_new {l : List Tbl} (hn : (l.map Tbl.num).Nodup) {k : Nat} {t : Tbl} (h : l[k]? = some t) : ∀ u ∈ l.take k, u.num ≠ t.num := by
  intro u hu e
  have h1 : ((l.take (k + 1)).map Tbl.num).Nodup := ((List.take_sublist (k + 1) l).map Tbl.num).nodup hn
  rw [take_next h, List.map_append, List.nodup_append] at h1
  exact h1.2.2 u.num (List.mem_map_of_mem hu) t.num (by simp) e
theorem drop_next {α : Type} {l : List α} {k : Nat} {t : α} (h : l[k]? = some t) : l.drop k = t :: l.drop (k + 1) := by
  obtain ⟨h1, rfl⟩ := List.getElem?_eq_some_iff.1 h
  exact (List.drop_eq_getElem_cons h1)
set_option maxHeartbeats 4000000 in
set_option maxRecDepth 100000 in
theorem apply_calls (vv ve : Value) (x : Ver) (e : Edt) (w : World) (hv : VerIs w vv x) (he : EdtAt w ve e) (hl : x.tables.length + e.add.length ≤ 400000) :
    Calls Tryz.prog 62 #[vv, ve] w (ApplyPost w (applyV x e)) := by
  have hck := fun W (hb : Below w.heap.size w W) => check_calls vv x W (hv.later hb)
  have hrt := fun W (hb : Below w.heap.size w W) => right_calls ve e W (he.later hb)
  obtain ⟨⟨pv, cv, rfl, hTv⟩, hv1, hv2, n1, n2, n3, n4, n5, n6⟩ := hv
  obtain ⟨⟨pa, ca, pd, cd, rfl, hTa, hTd⟩, ⟨he1, he2⟩, he3, he4, m1, m2, m3, m4, m5, m6⟩ := he
  obtain ⟨R, hR⟩ : ∃ R, applyV x e = R := ⟨_, rfl⟩
  rw [hR]
  unfold applyV at hR
  have hTv' := Lib.hid hTv
  have hTa' := Lib.hid hTa
  have hTd' := Lib.hid hTd
  have hv2' := Lib.hid hv2
  have he3' := Lib.hid he3
  have he4' := Lib.hid he4
  clear hTv hTa hTd hv2 he3 he4
  obtain ⟨nV, hnV⟩ : ∃ n, x.tables.length = n := ⟨_, rfl⟩
  obtain ⟨nA, hnA⟩ : ∃ n, e.add.length = n := ⟨_, rfl⟩
  obtain ⟨nD, hnD⟩ : ∃ n, e.drop.length = n := ⟨_, rfl⟩
  rw [hnV] at hck hl hv1 ⊢
  rw [hnA] at hrt hl he1 ⊢
  rw [hnD] at hrt he2 ⊢
  have hnV' := Lib.hid hnV
  have hnA' := Lib.hid hnA
  have hnD' := Lib.hid hnD
  obtain ⟨W3, hW3⟩ : ∃ W3, ((w.alloc (.cells #[.slice pv nV cv, .int .u64 x.floor, .int .u64 x.head, .int .i64 x.log, .int .i64 x.next] 30)).alloc (.cells #[.slice pa nA ca, .slice pd nD cd, .int .u64 e.floor, .int .u64 e.head, .int .i64 e.log, .int .i64 e.next] 33)).alloc (.cells #[.slice none 0 0, .int .u64 0, .int .u64 0, .int .i64 0, .int .i64 0] 30) = W3 := ⟨_, rfl⟩
  have bV : Blk W3 w.heap.size 30 #[.slice pv nV cv, .int .u64 x.floor, .int .u64 x.head, .int .i64 x.log, .int .i64 x.next] := by rw [← hW3]; exact ((Blk.new w _ _).alloc _).alloc _
  have bE : Blk W3 (w.heap.size + 1) 33 #[.slice pa nA ca, .slice pd nD cd, .int .u64 e.floor, .int .u64 e.head, .int .i64 e.log, .int .i64 e.next] := by rw [← hW3]; have := Blk.new (w.alloc (.cells #[.slice pv nV cv, .int .u64 x.floor, .int .u64 x.head, .int .i64 x.log, .int .i64 x.next] 30)) 33 #[.slice pa nA ca, .slice pd nD cd, .int .u64 e.floor, .int .u64 e.head, .int .i64 e.log, .int .i64 e.next]; rw [World.size_alloc] at this; exact this.alloc _
  have bO : Blk W3 (w.heap.size + 2) 30 vZero := by rw [← hW3]; have := Blk.new ((w.alloc (.cells #[.slice pv nV cv, .int .u64 x.floor, .int .u64 x.head, .int .i64 x.log, .int .i64 x.next] 30)).alloc (.cells #[.slice pa nA ca, .slice pd nD cd, .int .u64 e.floor, .int .u64 e.head, .int .i64 e.log, .int .i64 e.next] 33)) 30 vZero; rw [World.size_alloc, World.size_alloc] at this; exact this
  have hB3 : Below w.heap.size w W3 := by rw [← hW3]; exact (((Below.refl _ w).alloc (Nat.le_refl _) _).alloc (by simp) _).alloc (by simp; omega) _
  have hck' := Lib.hid (hck W3 hB3)
  have hrt' := Lib.hid hrt
  have bV' := Lib.hid bV
  have bE' := Lib.hid bE
  have bO' := Lib.hid bO
  have hB3' := Lib.hid hB3
  have cV := bV.cell
  have cE := bE.cell
  clear hck hrt bV bE bO hB3 hnV hnA hnD
  obtain ⟨tv, fv, dv, lv, xv⟩ := x
  obtain ⟨ta, td, fe, de, le_, xe⟩ := e
  simp only at hnV' hnA' hnD' hTv' hTa' hTd' hv2' he3' he4' bV' bE' cV cE hck' hrt' hW3 n1 n2 n3 n4 n5 n6 m1 m2 m3 m4 m5 m6 ⊢
  cases hok : (Ver.mk tv fv dv lv xv).ok with
  | false =>
    rw [if_pos hok] at hR
    rw [hok] at hck'
    subst hR
    have hck2 : Calls _ _ _ _ (ErrPost W3 9) := hck'.out
    have hck2' := Lib.hid hck2
    clear hck' hck2
    go_enter Tryz.func62, Tryz.ntmps62
    go_wp2_with (go_at_call 41; ((with_reducible refine hck2'.out.mono ?_); rintro e w1 ⟨rfl, hb1⟩; have bO1 := Lib.hid (bO'.out.below hb1 bO'.out.lt); have cO1 := bO1.out.cell; have fO1 := bO1.out.frozen; have hb1' := Lib.hid (hB3'.out.trans (hb1.mono hB3'.out.size)); clear hb1; obtain ⟨W9, hW9, bW9, kW9⟩ := ver_set rfl bO1.out (.slice none 0 0) (.int .u64 0) (.int .u64 0) (.int .i64 0) (.int .i64 0)))
    have cW9 := bW9.cell
    refine bodyPost_ret (v := .tuple #[.agg vZero, .int .i64 9]) (by simp [results, Tryz.results62, go_sem, cW9]) rfl ⟨_, rfl, VerOwn.zero _ _, hb1'.out.trans (kW9.below (fun j _ e => by omega) hb1'.out.size)⟩
  | true =>
    rw [if_neg (by rw [hok]; simp)] at hR
    rw [hok] at hck'
    have hck2 : Calls _ _ _ _ (ErrPost W3 0) := hck'.out
    have hck2' := Lib.hid hck2
    clear hck' hck2
    cases hrg : (Edt.mk ta td fe de le_ xe).right with
    | false =>
      rw [if_pos hrg] at hR
      rw [hrg] at hrt'
      subst hR
      go_enter Tryz.func62, Tryz.ntmps62
      go_wp2_with (first
        | (go_at_call 41; ((with_reducible refine hck2'.out.mono ?_); rintro e w1 ⟨rfl, hb1⟩; have bO1 := Lib.hid (bO'.out.below hb1 bO'.out.lt); have cE1 := (bE'.out.below hb1 bE'.out.lt).cell; have hb1' := Lib.hid (hB3'.out.trans (hb1.mono hB3'.out.size)); clear hb1 cE))
        | (go_at_call 88; ((with_reducible refine (hrt'.out _ hb1'.out).mono ?_); rintro e w2 ⟨rfl, hb2⟩; have bO2 := Lib.hid (bO1.out.below hb2 bO1.out.lt); have cO2 := bO2.out.cell; have fO2 := bO2.out.frozen; have hb2' := Lib.hid (hb1'.out.trans (hb2.mono hb1'.out.size)); clear hb2; obtain ⟨W9, hW9, bW9, kW9⟩ := ver_set rfl bO2.out (.slice none 0 0) (.int .u64 0) (.int .u64 0) (.int .i64 0) (.int .i64 0))))
      have cW9 := bW9.cell
      refine bodyPost_ret (v := .tuple #[.agg vZero, .int .i64 1]) (by simp [results, Tryz.results62, go_sem, cW9]) rfl ⟨_, rfl, VerOwn.zero _ _, hb2'.out.trans (kW9.below (fun j _ e => by omega) hb2'.out.size)⟩
    | true =>
      rw [if_neg (by rw [hrg]; simp)] at hR
      rw [hrg] at hrt'
      have hmm := @run_makeMap Tryz.prog
      go_enter Tryz.func62, Tryz.ntmps62
      go_wp2_with (first
        | (go_at_call 41; ((with_reducible refine hck2'.out.mono ?_); rintro e w1 ⟨rfl, hb1⟩; have bV1 := Lib.hid (bV'.out.below hb1 bV'.out.lt); have bO1 := Lib.hid (bO'.out.below hb1 bO'.out.lt); have bE1 := Lib.hid (bE'.out.below hb1 bE'.out.lt); have cE1 := bE1.out.cell; have hb1' := Lib.hid (hB3'.out.trans (hb1.mono hB3'.out.size)); clear hb1 cE cV))
        | (go_at_call 88; ((with_reducible refine (hrt'.out _ hb1'.out).mono ?_); rintro e w2 ⟨rfl, hb2⟩; have bV2 := Lib.hid (bV1.out.below hb2 bV1.out.lt); have bO2 := Lib.hid (bO1.out.below hb2 bO1.out.lt); have bE2 := Lib.hid (bE1.out.below hb2 bE1.out.lt); have hb2' := Lib.hid (hb1'.out.trans (hb2.mono hb1'.out.size)); have cV2 := bV2.out.cell; have hV2l : w.heap.size < w2.heap.size := bV2.out.lt; clear hb2 cE1; clear bV1 bE1 bO1)))
      clear hmm
      have hnd : (tv.map Tbl.num).Nodup := (Ver.ok_iff.1 hok).2.2
      have hnd' := Lib.hid hnd
      have hA0 : ApAt w (w2.alloc (.map #[] 0)) w2.heap.size #[.slice pv nV cv, .int .u64 fv, .int .u64 dv, .int .i64 lv, .int .i64 xv] #[.slice pa nA ca, .slice pd nD cd, .int .u64 fe, .int .u64 de, .int .i64 le_, .int .i64 xe] [] :=
        ⟨hb2'.out.alloc hb2'.out.size _, bV2.out.alloc _, bE2.out.alloc _, bO2.out.alloc _, by rw [tabf_nil]; exact MapAt.made _ _ w2, by simp, bO2.out.lt⟩
      have hA0' := Lib.hid hA0
      clear hnd hA0 bO2 bE2 bV2 hb2' hb1' hck2' hrt' bO' hB3' bV' bE'
      go_loopw [8, 34] (fun _ i wr => ∃ k : Nat, i = .int .i64 k ∧ k ≤ nV ∧ ApAt w wr w2.heap.size #[.slice pv nV cv, .int .u64 fv, .int .u64 dv, .int .i64 lv, .int .i64 xv] #[.slice pa nA ca, .slice pd nD cd, .int .u64 fe, .int .u64 de, .int .i64 le_, .int .i64 xe] (tv.take k)) (fun _ i _ => nV - (intOf i).toNat)
      case atStart => exact ⟨0, rfl, by omega, hA0'.out⟩
      case round =>
        obtain ⟨wo, rfl⟩ : ∃ wo : World, wo = wr := ⟨_, rfl⟩
        obtain ⟨M, hM⟩ : ∃ M, w2.heap.size = M := ⟨_, rfl⟩
        rw [hM] at hrel ⊢
        clear hA0' cV2 hV2l
        obtain ⟨k, rfl, hk, hA⟩ := hrel
        by_cases hlt : k < nV
        · obtain ⟨t, ht⟩ : ∃ t, tv[k]? = some t := ⟨_, List.getElem?_eq_getElem (by rw [hnV'.out]; exact hlt)⟩
          obtain ⟨a, b, rfl, hab, hbl, q0, q1, q2, q3, q4⟩ := tbl_at (hTv'.out.below hA.below) ht
          have htk := take_next ht
          obtain ⟨w5, hr, hA5, hK5⟩ := (hA.alloc (.cells #[.int .i64 t.num, .int .i64 t.level, .int .i64 t.size, .string t.first, .string t.last] 76)).put (hv2'.out t (List.mem_of_getElem? ht)) (by rw [List.length_take]; omega) (take_new hnd'.out ht)
          obtain ⟨tn, tl, tz, tf, ta_⟩ := t
          simp only at q0 q1 q2 q3 q4 hr
          rw [← htk] at hA5
          have bT := (Blk.new wo 76 #[.int .i64 tn, .int .i64 tl, .int .i64 tz, .string tf, .string ta_]).cell
          have hA5' := Lib.hid hA5
          have n1 : 0 < nV := by omega
          clear hA htk hA5 hK5 ht
          go_wp2
          exact ⟨⟨k + 1, by rw [Int.natCast_add]; rfl, by omega, hA5'.out⟩, by simp only [intOf]; omega⟩
        · obtain rfl : nV = k := by omega
          rw [← hnV'.out, List.take_length, hnV'.out] at hA
          have cE3 := hA.be.cell
          have hA' := Lib.hid hA
          clear hA
          go_wp2
          go_loopw [10, 11, 12, 46] (fun _ _ _ i wr => ∃ (k : Nat) (l : List Tbl), i = .int .i64 k ∧ k ≤ nD ∧ dropT tv td = dropT l (td.drop k) ∧ (∀ t ∈ l, t ∈ tv) ∧ l.length ≤ nV ∧ ApAt w wr M #[.slice pv nV cv, .int .u64 fv, .int .u64 dv, .int .i64 lv, .int .i64 xv] #[.slice pa nA ca, .slice pd nD cd, .int .u64 fe, .int .u64 de, .int .i64 le_, .int .i64 xe] l) (fun _ _ _ i _ => nD - (intOf i).toNat)
          case atStart => exact ⟨0, tv, rfl, by omega, by rw [List.drop_zero], fun _ h => h, by rw [hnV'.out]; exact Nat.le_refl _, hA'.out⟩
          case round =>
            obtain ⟨wo, rfl⟩ : ∃ wo : World, wo = wr := ⟨_, rfl⟩
            clear hA' cE3
            obtain ⟨k, l, rfl, hk, hdr, hsub, hll, hA⟩ := hrel
            by_cases hlt : k < nD
            · obtain ⟨n, ht⟩ : ∃ t, td[k]? = some t := ⟨_, List.getElem?_eq_getElem (by rw [hnD'.out]; exact hlt)⟩
              obtain ⟨a, b, rfl, hab, hbl, q0⟩ := int_at (hTd'.out.below hA.below) ht
              obtain ⟨i1, i2⟩ := he4'.out n (List.mem_of_getElem? ht)
              rw [drop_next ht] at hdr
              have hds : dropT l (n :: td.drop (k + 1)) = if l.any (fun t => decide (t.num = n)) then dropT (l.filter fun t => !decide (t.num = n)) (td.drop (k + 1)) else none := rfl
              rw [hds] at hdr
              obtain ⟨t0, hlk⟩ := hA.look i1 i2
              obtain ⟨tn, tl, tz, tf, ta_⟩ := t0
              simp only at hlk
              have n1 : 0 < nD := by omega
              have hA2 := hA.alloc (.cells #[.int .i64 tn, .int .i64 tl, .int .i64 tz, .string tf, .string ta_] 76)
              cases hany : l.any (fun t => decide (t.num = n)) with
              | false =>
                rw [hany] at hdr hlk
                rw [if_neg (by simp)] at hdr
                rw [hdr] at hR
                subst hR
                obtain ⟨W9, hW9, bW9, kW9⟩ := ver_set rfl hA2.bo (.slice none 0 0) (.int .u64 0) (.int .u64 0) (.int .i64 0) (.int .i64 0)
                have cO := hA2.bo.cell
                have fO := hA2.bo.frozen
                have hA2' := Lib.hid hA2
                have bW9' := Lib.hid bW9
                clear hA hA2 hds hdr bW9
                go_wp2
                have cW9 := bW9'.out.cell
                refine bodyPost_ret (v := .tuple #[.agg vZero, .int .i64 4]) (by simp [results, Tryz.results62, go_sem, cW9]) rfl ⟨_, rfl, VerOwn.zero _ _, hA2'.out.below.trans (kW9.below (fun j _ e => by omega) hA2'.out.below.size)⟩
              | true =>
                rw [hany] at hdr hlk
                rw [if_pos rfl] at hdr
                obtain ⟨w5, hr5, hA5, hK5⟩ := hA2.drop i1 i2 hany 0
                have hA5' := Lib.hid hA5
                have hsub2 : ∀ t ∈ l.filter (fun t => !decide (t.num = n)), t ∈ tv := fun t h => hsub t (List.mem_filter.1 h).1
                have hll2 := Nat.le_trans (List.length_filter_le (fun t => !decide (t.num = n)) l) hll
                have hsub2' := Lib.hid hsub2
                have hdr' := Lib.hid hdr
                clear hA hA2 hA5 hK5 hds hdr hsub2 hsub
                go_wp2
                exact ⟨⟨k + 1, _, by rw [Int.natCast_add]; rfl, by omega, hdr'.out, hsub2'.out, hll2, hA5'.out⟩, by simp only [intOf]; omega⟩
            · obtain rfl : nD = k := by omega
              rw [show td.drop nD = [] from List.drop_eq_nil_of_le (by rw [hnD'.out]; exact Nat.le_refl _)] at hdr
              rw [hdr] at hR
              have hR2 : (match addT l ta with | none => (Ver.zero, (3 : Int)) | some l' => if ((Ver.mk tv fv dv lv xv).with_ ⟨ta, td, fe, de, le_, xe⟩ l').ok = false then (Ver.zero, 11) else ((Ver.mk tv fv dv lv xv).with_ ⟨ta, td, fe, de, le_, xe⟩ l', 0)) = R := hR
              have hR' := Lib.hid hR2
              clear hR hR2 hdr
              have cE4 := hA.be.cell
              have hA' := Lib.hid hA
              have hsub' := Lib.hid hsub
              clear hA hsub
              go_wp2
              go_loopw [14, 15, 16, 65] (fun _ _ _ i wr => ∃ (k : Nat) (l' : List Tbl), i = .int .i64 k ∧ k ≤ nA ∧ addT l ta = addT l' (ta.drop k) ∧ (∀ t ∈ l', t ∈ tv ∨ t ∈ ta) ∧ l'.length ≤ nV + k ∧ ApAt w wr M #[.slice pv nV cv, .int .u64 fv, .int .u64 dv, .int .i64 lv, .int .i64 xv] #[.slice pa nA ca, .slice pd nD cd, .int .u64 fe, .int .u64 de, .int .i64 le_, .int .i64 xe] l') (fun _ _ _ i _ => nA - (intOf i).toNat)
              case atStart => exact ⟨0, l, rfl, by omega, by rw [List.drop_zero], fun t h => .inl (hsub'.out t h), by omega, hA'.out⟩
              case round =>
                obtain ⟨wo, rfl⟩ : ∃ wo : World, wo = wr := ⟨_, rfl⟩
                clear hA' cE4 hll hsub'
                obtain ⟨k, l', rfl, hk, hdr, hsub, hll, hA⟩ := hrel
                by_cases hlt : k < nA
                · obtain ⟨t, ht⟩ : ∃ t, ta[k]? = some t := ⟨_, List.getElem?_eq_getElem (by rw [hnA'.out]; exact hlt)⟩
                  obtain ⟨a, b, rfl, hab, hbl, q0, q1, q2, q3, q4⟩ := tbl_at (hTa'.out.below hA.below) ht
                  have hlg := he3'.out t (List.mem_of_getElem? ht)
                  have hmem := List.mem_of_getElem? ht
                  rw [drop_next ht] at hdr
                  have hds : addT l' (t :: ta.drop (k + 1)) = if l'.any (fun u => decide (u.num = t.num)) then none else addT (l' ++ [t]) (ta.drop (k + 1)) := rfl
                  rw [hds] at hdr
                  have hA2 := hA.alloc (.cells #[.int .i64 t.num, .int .i64 t.level, .int .i64 t.size, .string t.first, .string t.last] 76)
                  have bT := Blk.new wo 76 #[.int .i64 t.num, .int .i64 t.level, .int .i64 t.size, .string t.first, .string t.last]
                  obtain ⟨t0, hlk⟩ := hA2.look hlg.1 hlg.2.1
                  obtain ⟨tn, tl, tz, tf, tx⟩ := t0
                  simp only at hlk
                  have n1 : 0 < nA := by omega
                  have hA3 := hA2.alloc (.cells #[.int .i64 tn, .int .i64 tl, .int .i64 tz, .string tf, .string tx] 76)
                  have bT3 := bT.alloc (.cells #[.int .i64 tn, .int .i64 tl, .int .i64 tz, .string tf, .string tx] 76)
                  have cT := bT.cell
                  have cT3 := bT3.cell
                  cases hany : l'.any (fun u => decide (u.num = t.num)) with
                  | true =>
                    rw [hany] at hdr hlk
                    rw [if_pos rfl] at hdr
                    have hR3 := hR'.out
                    rw [hdr] at hR3
                    have hR4 : (Ver.zero, (3 : Int)) = R := hR3
                    subst hR4
                    obtain ⟨W9, hW9, bW9, kW9⟩ := ver_set rfl hA3.bo (.slice none 0 0) (.int .u64 0) (.int .u64 0) (.int .i64 0) (.int .i64 0)
                    have cO := hA3.bo.cell
                    have fO := hA3.bo.frozen
                    have hA3' := Lib.hid hA3
                    have bW9' := Lib.hid bW9
                    obtain ⟨un, ul, uz, uf, ux⟩ := t
                    simp only at q0 q1 q2 q3 q4 hlk cT cT3 hW9 cO fO
                    clear hA hA2 hA3 hds hdr bW9 bT bT3 hR3 hR' cT3
                    go_wp2
                    have cW9 := bW9'.out.cell
                    refine bodyPost_ret (v := .tuple #[.agg vZero, .int .i64 3]) (by simp [results, Tryz.results62, go_sem, cW9]) rfl ⟨_, rfl, VerOwn.zero _ _, hA3'.out.below.trans (kW9.below (fun j _ e => by omega) hA3'.out.below.size)⟩
                  | false =>
                    rw [hany] at hdr hlk
                    rw [if_neg (by simp)] at hdr
                    have hnew : ∀ u ∈ l', u.num ≠ t.num := fun u hu => by simpa using List.any_eq_false.1 hany u hu
                    obtain ⟨w5, hr5, hA5, hK5⟩ := hA3.put hlg (by omega) hnew
                    have hA5' := Lib.hid hA5
                    have hsub2 : ∀ u ∈ l' ++ [t], u ∈ tv ∨ u ∈ ta := fun u h => (List.mem_append.1 h).elim (hsub u) fun h => .inr (by simp at h; rw [h]; exact hmem)
                    have hll2 : (l' ++ [t]).length ≤ nV + (k + 1) := by rw [List.length_append]; simp; omega
                    have hsub2' := Lib.hid hsub2
                    have hdr' := Lib.hid hdr
                    have hll2' := Lib.hid hll2
                    obtain ⟨un, ul, uz, uf, ux⟩ := t
                    simp only at q0 q1 q2 q3 q4 hlk cT cT3 hr5
                    clear hA hA2 hA3 hA5 hK5 hds hdr hsub2 hsub hll2 bT bT3 cT hmem hlg hnew ht hany
                    go_wp2
                    exact ⟨⟨k + 1, _, by rw [Int.natCast_add]; rfl, by omega, hdr'.out, hsub2'.out, hll2'.out, hA5'.out⟩, by simp only [intOf]; omega⟩
                · obtain rfl : nA = k := by omega
                  rw [show ta.drop nA = [] from List.drop_eq_nil_of_le (by rw [hnA'.out]; exact Nat.le_refl _)] at hdr
                  have hR3 := hR'.out
                  rw [hdr] at hR3
                  have hR4 : (if ((Ver.mk tv fv dv lv xv).with_ ⟨ta, td, fe, de, le_, xe⟩ l').ok = false then (Ver.zero, (11 : Int)) else ((Ver.mk tv fv dv lv xv).with_ ⟨ta, td, fe, de, le_, xe⟩ l', 0)) = R := hR3
                  have hR5 := Lib.hid hR4
                  clear hR' hR3 hR4 hdr
                  have cV5 := hA.bv.cell
                  have cE5 := hA.be.cell
                  have hA' := Lib.hid hA
                  have hsub' := Lib.hid hsub
                  have hAo := hA.alloc (.cells #[.slice none 0 0, .int .u64 (max (fv : Int) (fe : Int)), .int .u64 (max (dv : Int) (de : Int)), .int .i64 (max lv le_), .int .i64 (max xv xe)] 30)
                  have bO0 := Blk.new wo 30 #[.slice none 0 0, .int .u64 (max (fv : Int) (fe : Int)), .int .u64 (max (dv : Int) (de : Int)), .int .i64 (max lv le_), .int .i64 (max xv xe)]
                  obtain ⟨D, hown, hsz, g2, g3⟩ := hAo.map
                  have g2' := Lib.hid g2
                  have hsub3' := Lib.hid hsub
                  have g3' := Lib.hid g3
                  have hsz' := Lib.hid hsz
                  have bO0' := Lib.hid bO0
                  have hAo' := Lib.hid hAo
                  clear hA hsub g2 g3 hsz hA' hAo bO0
                  go_wp2_with (at_range; refine wpList_range_own _ rfl _ 150 rfl 3 76 keyI Tryz.underlying150 rawR M l'.length D rfl hown ?_; intro w0 hrg0 hg0 hs0)
                  go_frame
                  rw [World.size_alloc]
                  have hMl := hAo'.out.map.lt
                  rw [World.size_alloc] at hrg0 hMl
                  have hMo : M < wo.heap.size := by
                    rcases Nat.lt_or_ge M wo.heap.size with h | h
                    · exact h
                    · obtain rfl : M = wo.heap.size := by omega
                      exact absurd rfl (ranges_ne_blk hrg0 (bO0'.out.keeps ((Keeps.refl (fun _ => False) _).grown hg0 (fun _ e => nomatch e)) id)).2
                  have hR0 : RgAt w w0 M wo.heap.size (wo.heap.size + 1) l'.length D (Maps.has D) (Maps.size D) (max (fv : Int) (fe : Int)) (max (dv : Int) (de : Int)) (max lv le_) (max xv xe) [] := by
                    have hk0 : Keeps (fun _ => False) (wo.alloc (.cells #[.slice none 0 0, .int .u64 (max (fv : Int) (fe : Int)), .int .u64 (max (dv : Int) (de : Int)), .int .i64 (max lv le_), .int .i64 (max xv xe)] 30)) w0 := (Keeps.refl (fun _ => False) _).grown hg0 (fun _ e => nomatch e)
                    have hM2 := hAo'.out.hM
                    exact ⟨hrg0, hAo'.out.below.trans (hk0.below (fun _ _ e => e.elim) hAo'.out.below.size), hAo'.out.bo.keeps hk0 id, ⟨none, 0, bO0'.out.keeps hk0 id, RowK.Own.nil _ _ _⟩, by omega⟩
                  have hC0 : CollK Tryz.prog 3 (fun n : Int => Value.int .i64 n) (tabf l') (Maps.has D) [] := CollK.start g2'.out g3'.out
                  have hR0' := Lib.hid hR0
                  have hC0' := Lib.hid hC0
                  clear hR0 hC0 hrg0 hg0 hs0 hown bO0' hMl hMo
                  go_loopw [19] (fun _ wr => ∃ (left : Lit → Bool) (cnt : Nat) (ss : List Tbl), RgAt w wr M wo.heap.size (wo.heap.size + 1) l'.length D left cnt (max (fv : Int) (fe : Int)) (max (dv : Int) (de : Int)) (max lv le_) (max xv xe) ss ∧ ss.length + cnt ≤ l'.length ∧ CollK Tryz.prog 3 (fun n : Int => Value.int .i64 n) (tabf l') left (ss.map Tbl.num) ∧ ∀ t ∈ ss, t ∈ l') (fun _ wr => wr.rangeLeft M (wo.heap.size + 1))
                  case atStart => exact ⟨_, _, [], hR0'.out, by rw [hsz'.out]; simp, hC0'.out, fun _ h => nomatch h⟩
                  case round =>
                    obtain ⟨left, cnt, ss, hRg, hcs, hC, hsub⟩ := hrel
                    clear hR0' hC0'
                    have hnl : l'.length ≤ 400000 := by omega
                    obtain ⟨wx, rfl⟩ : ∃ wx : World, wx = wr := ⟨_, rfl⟩
                    go_wp2_with (at_next; refine wpList_next_ranges _ rfl _ rfl 3 keyI rawR id id (fun key kl hk => ⟨key, rfl⟩) (fun v _ _ => ⟨v, rfl⟩) M (wo.heap.size + 1) l'.length _ _ _ rfl hRg.rg ?_ ?_)
                    · intro hc0 hl0
                      have hperm : ss.Perm l' := by
                        have hn1 : ss.Nodup := nodup_of_nums hC.1
                        have hn2 : l'.Nodup := nodup_of_nums hAo'.out.nodup
                        refine (List.perm_ext_iff_of_nodup hn1 hn2).2 fun t => ⟨hsub t, fun h => ?_⟩
                        have hm := (hC.fin hl0 t.num).2 (by rw [tabf_some, List.any_eq_true]; exact ⟨t, h, by simp⟩)
                        obtain ⟨s, hs, he⟩ := List.mem_map.1 hm
                        have e1 := getT_of hAo'.out.nodup (hsub s hs)
                        have e2 := getT_of hAo'.out.nodup h
                        rw [he, e2] at e1
                        rw [Option.some.inj e1]; exact hs
                      have hndl := hAo'.out.nodup
                      obtain ⟨pO, cO, bO, oO⟩ := hRg.row
                      have hBl := hRg.below
                      have hbo := hRg.bo
                      have hSo := sortTb_calls oO (by have := hperm.length_eq; omega)
                      have hne1 := oO.blk_ne bO (by decide)
                      have hne2 := oO.blk_ne hbo (by decide)
                      have hlo := fun j hj => (oO.lt j hj).1
                      obtain ⟨N, hN⟩ : ∃ N, ss.length = N := ⟨_, rfl⟩
                      rw [hN] at bO hSo hne1 hne2 hlo
                      have cO0 := bO.cell
                      have hNl : N ≤ 400000 := by have := hperm.length_eq; omega
                      have hSo' := Lib.hid hSo
                      have bO' := Lib.hid bO
                      have hbo' := Lib.hid hbo
                      have hBl' := Lib.hid hBl
                      have hperm' := Lib.hid hperm
                      have hN' := Lib.hid hN
                      have hndl' := Lib.hid hndl
                      have hlo' := Lib.hid hlo
                      clear hRg hC hsub hperm hAo' oO bO hbo hBl hSo hN hl0 hndl hlo
                      go_wp2_with fail
                      (with_reducible refine hSo'.out.mono ?_)
                      rintro e ws ⟨rfl, s, ⟨hp1, hp2⟩, oS, kS⟩
                      obtain rfl : s = sortT l' := sortT_of_perm (hp1.trans hperm'.out) hndl'.out (hp2.imp fun h => by omega)
                      have kS' := Lib.hid kS
                      have hBs := hBl'.out.trans (kS.below (fun j _ e => hlo'.out j e) hBl'.out.size)
                      have bOs := bO'.out.keeps kS hne1
                      have bos := hbo'.out.keeps kS hne2
                      have mx1 : max (fv : Int) (fe : Int) = ((max fv fe : Nat) : Int) := by omega
                      have mx2 : max (dv : Int) (de : Int) = ((max dv de : Nat) : Int) := by omega
                      have hsz2 : (sortT l').length = N := by rw [hp1.length_eq, hN'.out]
                      have hmemb : ∀ t ∈ sortT l', t.lang := fun t h => (hsub3'.out t ((hp1.trans hperm'.out).mem_iff.1 h)).elim (hv2'.out t) (he3'.out t)
                      obtain ⟨V, hV⟩ : ∃ V, (Ver.mk tv fv dv lv xv).with_ ⟨ta, td, fe, de, le_, xe⟩ l' = V := ⟨_, rfl⟩
                      have hVt : V.tables = sortT l' := by rw [← hV]; rfl
                      have hR6 := hR5.out
                      rw [hV] at hR6
                      have hVi : ∀ W, Below ws.heap.size ws W → VerIs W (.agg #[.slice pO N cO, .int .u64 (max (fv : Int) (fe : Int)), .int .u64 (max (dv : Int) (de : Int)), .int .i64 (max lv le_), .int .i64 (max xv xe)]) V := fun W hb => by
                        rw [← hV]
                        refine ⟨⟨pO, cO, ?_, ?_⟩, ?_, ?_, ?_⟩
                        · rw [mx1, mx2]; show _ = Value.agg #[.slice pO (sortT l').length cO, _, _, _, _]; rw [hsz2]; rfl
                        · rw [← hsz2, hp1.length_eq] at oS; exact (oS.at_ rkT_ok).below hb
                        · show (sortT l').length ≤ 1000000; omega
                        · exact hmemb
                        · show max fv fe < _ ∧ max dv de < _ ∧ _ ≤ max lv le_ ∧ max lv le_ < _ ∧ _ ≤ max xv xe ∧ max xv xe < _; omega
                      have hCk := fun W hb => check_calls _ V W (hVi W hb)
                      have hVo : VerOwn w.heap.size ws (.agg #[.slice pO N cO, .int .u64 (max (fv : Int) (fe : Int)), .int .u64 (max (dv : Int) (de : Int)), .int .i64 (max lv le_), .int .i64 (max xv xe)]) V := by
                        rw [← hV]
                        refine ⟨_, by rw [mx1, mx2]; rfl, ?_⟩
                        exact oS
                      have cOs := bOs.cell
                      have hVo' := Lib.hid hVo
                      have hCk' := Lib.hid hCk
                      have hBs' := Lib.hid hBs
                      have bOs' := Lib.hid bOs
                      have bos' := Lib.hid bos
                      have hR6' := Lib.hid hR6
                      have oS' := Lib.hid oS
                      clear hVo hCk hBs bOs bos hR6 hR5 hV hVt hVi mx1 mx2 hsz2 hmemb oS hp1 hp2 kS cO0 hSo' bO' hbo' hBl' hperm' hne1 hne2 hlo' hsub3' g2' g3' hsz' hW3
                      cases hVk : V.ok with
                      | false =>
                        have hR7 := hR6'.out
                        rw [hVk] at hR7
                        rw [if_pos rfl] at hR7
                        subst hR7
                        rw [hVk] at hCk'
                        have hCk3 : ∀ W, Below ws.heap.size ws W → Calls Tryz.prog 41 #[.agg #[.slice pO N cO, .int .u64 (max (fv : Int) (fe : Int)), .int .u64 (max (dv : Int) (de : Int)), .int .i64 (max lv le_), .int .i64 (max xv xe)]] W (ErrPost W 9) := hCk'.out
                        have hCk2 := Lib.hid hCk3
                        clear hCk' hCk3 hVk hR6' hVo' oS'
                        go_wp2_with (go_at_call 41; ((with_reducible refine (hCk2.out _ (Below.refl _ _)).mono ?_); rintro e w8 ⟨rfl, hb8⟩; have bO8 := bos'.out.below hb8 bos'.out.lt; have cO8 := bO8.cell; have fO8 := bO8.frozen; have hb9 := Lib.hid (hBs'.out.trans (hb8.mono hBs'.out.size)); clear hb8 cOs; obtain ⟨W9, hW9, bW9, kW9⟩ := ver_set rfl bO8 (.slice none 0 0) (.int .u64 0) (.int .u64 0) (.int .i64 0) (.int .i64 0)))
                        have cW9 := bW9.cell
                        refine bodyPost_ret (v := .tuple #[.agg vZero, .int .i64 11]) (by simp [results, Tryz.results62, go_sem, cW9]) rfl ⟨_, rfl, VerOwn.zero _ _, hb9.out.trans (kW9.below (fun j _ e => by omega) hb9.out.size)⟩
                      | true =>
                        have hR7 := hR6'.out
                        rw [hVk] at hR7
                        rw [if_neg (by simp)] at hR7
                        subst hR7
                        rw [hVk] at hCk'
                        have hCk3 : ∀ W, Below ws.heap.size ws W → Calls Tryz.prog 41 #[.agg #[.slice pO N cO, .int .u64 (max (fv : Int) (fe : Int)), .int .u64 (max (dv : Int) (de : Int)), .int .i64 (max lv le_), .int .i64 (max xv xe)]] W (ErrPost W 0) := hCk'.out
                        have hCk2 := Lib.hid hCk3
                        clear hCk' hCk3 hVk hR6'
                        go_wp2_with (go_at_call 41; ((with_reducible refine (hCk2.out _ (Below.refl _ _)).mono ?_); rintro e w8 ⟨rfl, hb8⟩; have bO8 := bos'.out.below hb8 bos'.out.lt; have cO8 := bO8.cell; have fO8 := bO8.frozen; have bM8 := (bOs'.out.below hb8 bOs'.out.lt).cell; have hb9 := Lib.hid (hBs'.out.trans (hb8.mono hBs'.out.size)); have hb8' := Lib.hid hb8; have bO8' := Lib.hid bO8; clear hb8 cOs; obtain ⟨W9, hW9, bW9, kW9⟩ := ver_set rfl bO8 (.slice pO N cO) (.int .u64 (max (fv : Int) (fe : Int))) (.int .u64 (max (dv : Int) (de : Int))) (.int .i64 (max lv le_)) (.int .i64 (max xv xe)); clear bO8))
                        have cW9 := bW9.cell
                        have hVf : VerOwn w.heap.size W9 (.agg #[.slice pO N cO, .int .u64 (max (fv : Int) (fe : Int)), .int .u64 (max (dv : Int) (de : Int)), .int .i64 (max lv le_), .int .i64 (max xv xe)]) V := (hVo'.out.later hb8'.out).keeps bO8'.out kW9
                        refine bodyPost_ret (v := .tuple #[.agg #[.slice pO N cO, .int .u64 (max (fv : Int) (fe : Int)), .int .u64 (max (dv : Int) (de : Int)), .int .i64 (max lv le_), .int .i64 (max xv xe)], .int .i64 0]) (by simp [results, Tryz.results62, go_sem, cW9]) rfl ⟨_, rfl, hVf, hb9.out.trans (kW9.below (fun j _ e => by omega) hb9.out.size)⟩
                    · intro x c kl yd yp w5 cnt2 hkey hlk hv hat hrg2 hlt hg2 hs2 hen
                      have hsm : (tabf l' x).isSome = true := by rw [← (g2'.out x kl hkey).1]; exact has_true_of_atKey hat
                      obtain ⟨n, rfl⟩ : ∃ n, x = .int .i64 n := by
                        rcases Classical.em (∃ n, x = .int .i64 n) with h | h
                        · exact h
                        · rw [tabf_not _ h] at hsm; cases hsm
                      obtain ⟨t, htn⟩ : ∃ t, getT_ l' n = some t := by
                        rw [tabf_int, Option.isSome_map] at hsm
                        exact Option.isSome_iff_exists.1 hsm
                      obtain ⟨htm, rfl⟩ := getT_mem htn
                      have hc : c = t.v := by
                        have h1 := (g2'.out _ kl hkey).2 t.v .nil (by rw [tabf_int, htn]; rfl)
                        rw [hat] at h1
                        unfold rawR at hv
                        injection hv with hv
                        injection hv with hv _
                        rw [← hv] at h1
                        injection h1
                      subst hc
                      have hC2 := hC.step keyI (fun a b h => by injection h) g2'.out hkey hlk hat
                      have hR2 := hRg.next (by have := hRg.hO; omega) hg2 hrg2
                      obtain ⟨pO, cO, bO, _⟩ := hR2.row
                      have hR3 := (hR2.alloc (.cells #[.int .i64 t.num, .int .i64 t.level, .int .i64 t.size, .string t.first, .string t.last] 76)).alloc (.cells #[.int .i64 t.num, .int .i64 t.level, .int .i64 t.size, .string t.first, .string t.last] 76)
                      have bT := Blk.new w5 76 #[.int .i64 t.num, .int .i64 t.level, .int .i64 t.size, .string t.first, .string t.last]
                      have bO1 := bO.alloc (.cells #[.int .i64 t.num, .int .i64 t.level, .int .i64 t.size, .string t.first, .string t.last] 76)
                      obtain ⟨p6, c6, w6, e6, bO6, hR6⟩ := hR3.app (bO1.alloc _) (t := t) (g := w5.heap.size + 1) (by
                        have := (Blk.new (w5.alloc (.cells #[.int .i64 t.num, .int .i64 t.level, .int .i64 t.size, .string t.first, .string t.last] 76)) 76 #[.int .i64 t.num, .int .i64 t.level, .int .i64 t.size, .string t.first, .string t.last]).cell
                        rw [World.size_alloc] at this
                        intro j u hj
                        rw [this]
                        simpa [rkT, Tbl.cells] using hj) (by omega)
                      have hen' : (Instr.entry (.pointer (some ⟨wo.heap.size + 1, 0, none⟩))).run Tryz.prog w5 = .ok (.tuple #[.int .i64 t.num, .agg #[.int .i64 t.num, .int .i64 t.level, .int .i64 t.size, .string t.first, .string t.last]]) w5 := hen
                      have cT := bT.cell
                      have cO1 := bO1.cell
                      have cO6 := bO6.cell
                      have fO6 := bO6.frozen
                      have hmes : cnt2 < cnt := hlt
                      have hl0 := hRg.rg.left_eq
                      have hC2' := Lib.hid hC2
                      have hR6' := Lib.hid hR6
                      have hl0' := Lib.hid hl0
                      have hsub2 : ∀ s ∈ ss ++ [t], s ∈ l' := fun s h => (List.mem_append.1 h).elim (hsub s) fun h => by simp at h; rw [h]; exact htm
                      have hsub2' := Lib.hid hsub2
                      obtain ⟨N, hN⟩ : ∃ N, ss.length = N := ⟨_, rfl⟩
                      rw [hN] at e6 cO1 cO6 hR6' hcs
                      have hN' := Lib.hid hN
                      clear hen hRg hR2 hR3 bT bO bO1 bO6 hR6 hC2 hC hrg2 hg2 hlt hat hv hlk hkey hsm htn htm hsub hsub2 hl0 hN hs2
                      obtain ⟨tn, tl, tz, tf, tx⟩ := t
                      simp only at e6 hen' cT
                      go_wp2_with fail
                      exact ⟨⟨_, cnt2, ss ++ [⟨tn, tl, tz, tf, tx⟩], hR6'.out, by rw [List.length_append, hN'.out]; simp; omega, by rw [List.map_append]; exact hC2'.out, hsub2'.out⟩, by rw [hR6'.out.rg.left_eq, hl0'.out]; exact hmes⟩
end Go.Proofs.YtabcdodjkfknlaaGreatDoor
namespace Go.Proofs.YtabcdodjkfknlaaGreatDoor
open Go.RowKit
attribute [local go_sem ↓] dapp_op dslK_op
/-- a number's four bytes, the highest first -/
def be32 (n : Nat) : List UInt8 := [UInt8.ofNat (n / 16777216), UInt8.ofNat (n / 65536 % 256), UInt8.ofNat (n / 256 % 256), UInt8.ofNat (n % 256)]
/-- the number of the first four bytes -/
def rd32 (l : List UInt8) : Nat := match l with
  | a :: b :: c :: d :: _ => ((a.toNat * 256 + b.toNat) * 256 + c.toNat) * 256 + d.toNat
  | _ => 0
theorem rd32_be {n : Nat} (h : n < 4294967296) (rest : List UInt8) : rd32 (be32 n ++ rest) = n := by
  unfold be32
  show ((_ * 256 + _) * 256 + _) * 256 + _ = n
  rw [ofNat_toNat (by omega), ofNat_toNat (by omega), ofNat_toNat (by omega), ofNat_toNat (by omega)]
  omega
set_option maxHeartbeats 1000000 in
set_option maxRecDepth 100000 in
theorem put4_calls (B : Nat) (v : Value) (l : List UInt8) (n : Nat) (w : World) (h : BOwn B w v l) (hB : B ≤ w.heap.size) (hn : n < 4294967296) (hl : l.length ≤ 1000000000) :
    Calls Tryz.prog 98 #[v, .int .u32 n] w fun e w' => ∃ p c, e = .returned (.slice p (l.length + 4) c) ∧ BOwn B w' (.slice p (l.length + 4) c) (l ++ be32 n) ∧ Keeps (fun j => v.ownBlock = some j) w w' := by
  obtain ⟨p, c, rfl⟩ := h.slice
  have hbe : be32 n = [UInt8.ofNat (n / 16777216), UInt8.ofNat (n / 65536 % 256), UInt8.ofNat (n / 256 % 256), UInt8.ofNat (n % 256)] := rfl
  have x0 := ofNat_toNat (n := n / 16777216) (by omega)
  have x1 := ofNat_toNat (n := n / 65536 % 256) (by omega)
  have x2 := ofNat_toNat (n := n / 256 % 256) (by omega)
  have x3 := ofNat_toNat (n := n % 256) (by omega)
  have y0 : (n : Int) / 16777216 = ((n / 16777216 : Nat) : Int) := by omega
  have y1 : (n : Int) / 65536 % 256 = ((n / 65536 % 256 : Nat) : Int) := by omega
  have y2 : (n : Int) / 256 % 256 = ((n / 256 % 256 : Nat) : Int) := by omega
  have y3 : (n : Int) % 256 = ((n % 256 : Nat) : Int) := by omega
  have hA := (Below.refl w.heap.size w).alloc (Nat.le_refl _) (.cells #[.int .u8 ((n / 16777216 : Nat) : Int), .int .u8 ((n / 65536 % 256 : Nat) : Int), .int .u8 ((n / 256 % 256 : Nat) : Int), .int .u8 ((n % 256 : Nat) : Int)] 5)
  have hb : Bytes (w.alloc (.cells #[.int .u8 ((n / 16777216 : Nat) : Int), .int .u8 ((n / 65536 % 256 : Nat) : Int), .int .u8 ((n / 256 % 256 : Nat) : Int), .int .u8 ((n % 256 : Nat) : Int)] 5)) (.slice (some ⟨w.heap.size, 0, none⟩) 4 4) (be32 n) := by
    refine .inl (.inr ⟨_, _, _, rfl, Nat.le_refl _, fun i y hy => ?_⟩)
    rw [Nat.zero_add, (Blk.new w 5 _).cell]
    rw [hbe] at hy
    rcases i with _ | _ | _ | _ | i
    · obtain rfl := Option.some.inj hy; rw [x0]; rfl
    · obtain rfl := Option.some.inj hy; rw [x1]; rfl
    · obtain rfl := Option.some.inj hy; rw [x2]; rfl
    · obtain rfl := Option.some.inj hy; rw [x3]; rfl
    · simp at hy
  have h1 := h.later hA
  obtain ⟨p1, c1, w1, e1, o1, k1⟩ := h1.put hb (by simp [hbe]; omega) (Nat.le_trans hB hA.size)
  have o1' := Lib.hid o1
  have k1' := Lib.hid ((Keeps.of_below (S := fun j => (Value.slice p l.length c).ownBlock = some j) hA).trans k1)
  have e1' : (dappOp #[43, 43] 43 #[.slice p l.length c, .slice (some ⟨w.heap.size, 0, none⟩) 4 4]).run Tryz.prog (w.alloc (.cells #[.int .u8 ((n / 16777216 : Nat) : Int), .int .u8 ((n / 65536 % 256 : Nat) : Int), .int .u8 ((n / 256 % 256 : Nat) : Int), .int .u8 ((n % 256 : Nat) : Int)] 5)) = .ok (.slice p1 (l.length + 4) c1) w1 := e1
  obtain ⟨L, hL⟩ : ∃ L, l.length = L := ⟨_, rfl⟩
  have hL' := Lib.hid hL
  rw [hL] at e1' k1' ⊢
  clear e1 o1 k1 h1 hb hA x0 x1 x2 x3 hbe h hL
  rw [← y0, ← y1, ← y2, ← y3] at e1'
  clear y0 y1 y2 y3
  go_enter Tryz.func98, Tryz.ntmps98
  go_wp2
  go_ret
  exact ⟨p1, c1, rfl, by rw [← hL'.out]; exact o1'.out, k1'.out⟩
/-- bytes one behind the other, as a number -/
theorem or_add {a b : Nat} (k m : Nat) (hm : m = 2 ^ k) (hb : b < m) (hab : a * m + b < 4294967296) : bits .or .u32 ((a * m : Nat) : Int) (b : Int) = ((a * m + b : Nat) : Int) := by
  rw [u32_or_nat _ _ (by omega) (by omega), hm, ← Nat.shiftLeft_eq, ← Nat.shiftLeft_add_eq_or_of_lt (by rw [← hm]; exact hb)]
theorem u32w {a : Int} (h1 : 0 ≤ a) (h2 : a < 4294967296) : IntKind.u32.wrap a = a := by
  simp [IntKind.wrap, IntKind.bits, IntKind.signed]; omega
theorem or4_e4 (A B : Nat) : A * 16777216 + B * 65536 = (A * 256 + B) * 65536 := by omega
theorem or4_e5 (X D : Nat) : X * 65536 + D * 256 = (X * 256 + D) * 256 := by omega
set_option maxRecDepth 100000 in
theorem or4 {A B D F : Nat} (ha : A < 256) (hb : B < 256) (hd : D < 256) (hf : F < 256) :
    bits .or .u32 (bits .or .u32 (bits .or .u32 (IntKind.u32.wrap (IntKind.u32.wrap A * 16777216)) (IntKind.u32.wrap (IntKind.u32.wrap B * 65536))) (IntKind.u32.wrap (IntKind.u32.wrap D * 256))) (IntKind.u32.wrap F) = ((((A * 256 + B) * 256 + D) * 256 + F : Nat) : Int) := by
  have wA : IntKind.u32.wrap (A : Int) = (A : Int) := u32w (by omega) (by omega)
  have wB : IntKind.u32.wrap (B : Int) = (B : Int) := u32w (by omega) (by omega)
  have wD : IntKind.u32.wrap (D : Int) = (D : Int) := u32w (by omega) (by omega)
  have wF : IntKind.u32.wrap (F : Int) = (F : Int) := u32w (by omega) (by omega)
  have e1 : IntKind.u32.wrap ((A : Int) * 16777216) = ((A * 16777216 : Nat) : Int) := (u32w (a := (A : Int) * 16777216) (by omega) (by omega)).trans (by omega)
  have e2 : IntKind.u32.wrap ((B : Int) * 65536) = ((B * 65536 : Nat) : Int) := (u32w (a := (B : Int) * 65536) (by omega) (by omega)).trans (by omega)
  have e3 : IntKind.u32.wrap ((D : Int) * 256) = ((D * 256 : Nat) : Int) := (u32w (a := (D : Int) * 256) (by omega) (by omega)).trans (by omega)
  rw [wA, wB, wD, wF, e1, e2, e3, or_add 24 16777216 (by decide) (by omega) (by omega), or4_e4, or_add 16 65536 (by decide) (by omega) (by omega), or4_e5, or_add 8 256 (by decide) (by omega) (by omega)]
set_option maxHeartbeats 2000000 in
set_option maxRecDepth 100000 in
theorem get4_calls (v : Value) (l : List UInt8) (w : World) (h : Bytes w v l) (hl : 4 ≤ l.length) (hl2 : l.length ≤ 100000000) :
    Calls Tryz.prog 102 #[v] w fun e w' => e = .returned (.int .u32 (rd32 l)) ∧ w.drew = w' := by
  obtain ⟨p, c, rfl⟩ := h.slice
  obtain ⟨a, hx0⟩ : ∃ a, l[0]? = some a := ⟨_, List.getElem?_eq_getElem (by omega)⟩
  obtain ⟨b, hx1⟩ : ∃ a, l[1]? = some a := ⟨_, List.getElem?_eq_getElem (by omega)⟩
  obtain ⟨d, hx2⟩ : ∃ a, l[2]? = some a := ⟨_, List.getElem?_eq_getElem (by omega)⟩
  obtain ⟨e, hx3⟩ : ∃ a, l[3]? = some a := ⟨_, List.getElem?_eq_getElem (by omega)⟩
  obtain ⟨g, o, rfl, c0⟩ := h.cellAt hx0
  obtain ⟨g1, o1, e1, c1⟩ := h.cellAt hx1
  obtain ⟨rfl, rfl⟩ : g = g1 ∧ o = o1 := by injection e1 with e1; injection e1 with x y; exact ⟨x, y⟩
  obtain ⟨g2, o2, e2, c2⟩ := h.cellAt hx2
  obtain ⟨rfl, rfl⟩ : g = g2 ∧ o = o2 := by injection e2 with e2; injection e2 with x y; exact ⟨x, y⟩
  obtain ⟨g3, o3, e3, c3⟩ := h.cellAt hx3
  obtain ⟨rfl, rfl⟩ : g = g3 ∧ o = o3 := by injection e3 with e3; injection e3 with x y; exact ⟨x, y⟩
  have hr : rd32 l = ((a.toNat * 256 + b.toNat) * 256 + d.toNat) * 256 + e.toNat := by
    match l, hl with
    | x0 :: x1 :: x2 :: x3 :: r, _ =>
      obtain rfl : x0 = a := by simpa using hx0
      obtain rfl : x1 = b := by simpa using hx1
      obtain rfl : x2 = d := by simpa using hx2
      obtain rfl : x3 = e := by simpa using hx3
      rfl
  rw [hr]
  have ha := a.toNat_lt
  have hb := b.toNat_lt
  have hd := d.toNat_lt
  have he := e.toNat_lt
  generalize a.toNat = A at *
  generalize b.toNat = B at *
  generalize d.toNat = D at *
  generalize e.toNat = F at *
  rw [Nat.add_zero] at c0
  obtain ⟨L, hL⟩ : ∃ L, l.length = L := ⟨_, rfl⟩
  rw [hL] at hl hl2 ⊢
  clear hr hx0 hx1 hx2 hx3 h e1 e2 e3 hL
  have b0 : (0 : Int) < (L : Int) := by omega
  have b1 : (1 : Int) < (L : Int) := by omega
  have b2 : (2 : Int) < (L : Int) := by omega
  have b3 : (3 : Int) < (L : Int) := by omega
  have n0 : 0 < L := by omega
  have n1 : 1 < L := by omega
  have n2 : 2 < L := by omega
  have n3 : 3 < L := by omega
  go_enter Tryz.func102, Tryz.ntmps102
  go_wp2
  refine wp_region_s (fun w' => w'.cell? ⟨g, o, none⟩ = some (.int .u8 A) ∧ w'.cell? ⟨g, o + 1, none⟩ = some (.int .u8 B) ∧ w'.cell? ⟨g, o + 2, none⟩ = some (.int .u8 D) ∧ w'.cell? ⟨g, o + 3, none⟩ = some (.int .u8 F)) [] [(true, 0), (true, 1), (true, 2), (true, 3), (true, 4), (true, 5), (true, 6), (true, 7), (true, 8), (true, 9), (true, 10), (true, 11), (true, 12), (true, 13), (true, 14), (true, 15), (true, 16), (true, 17), (true, 18), (true, 19), (true, 20), (true, 21), (true, 22)] (by kernel_rfl) (by kernel_rfl) (by kernel_rfl) (by kernel_rfl) (fun _ _ _ _ _ h => h) ⟨c0, c1, c2, c3⟩ ?_
  repeat
    refine wpS_take (v := ?_) rfl (.inl ⟨by rfl, fun w' hS => ?_⟩) ?_
    rotate_left
    · (try dsimp only at hS); go_simp; try with_reducible rfl
    simp only [Act.put, List.setIfInBounds_toArray, List.set_cons_zero, List.set_cons_succ]
  refine wpS_end ?_
  go_wp2
  go_ret
  exact ⟨ret_int (or4 ha hb hd he), rfl⟩
end Go.Proofs.YtabcdodjkfknlaaGreatDoor
