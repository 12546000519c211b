/- Walk: the law SchemaBlanks, of a schema of no more than so many bytes. -/
import Derived.Test.YtkibaaljpbcjeaaDoorSP2
import Derived.Test.YtkibaaljpbcjeaaDoorSQ7
namespace Go.Proofs.YtkibaaljpbcjeaaDoor
open Go.RowKit
/-- bytes that are only read -/
def HowAt (w : World) (v : Value) (l : List UInt8) : Prop := ∃ cs, RowV w v l.length cs ∧ ∀ (i : Nat) (z : UInt8), l[i]? = some z → cs[i]? = some (.int .u8 z.toNat)
theorem HowAt.later {w w' : World} {v : Value} {l : List UInt8} (h : HowAt w v l) (hb : Below w.heap.size w w') : HowAt w' v l := by
  obtain ⟨cs, h1, h2⟩ := h
  exact ⟨cs, h1.below hb, h2⟩
theorem HowAt.form {w : World} {v : Value} {l : List UInt8} (h : HowAt w v l) : ∃ p c, v = .slice p l.length c := by
  obtain ⟨cs, h1, _⟩ := h
  exact h1.form
theorem HowAt.cell {w : World} {p : Option Addr} {n c : Nat} {l : List UInt8} (h : HowAt w (.slice p n c) l) {i : Nat} (hn : n = l.length) (hi : i < l.length) : ∃ g o, p = some ⟨g, o, none⟩ ∧ n ≤ c ∧ g < w.heap.size ∧ w.cell? ⟨g, o + i, none⟩ = some (.int .u8 l[i].toNat) := by
  obtain ⟨cs, h1, h2⟩ := h
  subst hn
  obtain ⟨g, o, rfl, hc, hcell⟩ := h1.cell (by omega)
  obtain ⟨h3, h4⟩ := hcell i _ (h2 i l[i] (List.getElem?_eq_getElem hi))
  exact ⟨g, o, rfl, hc, h3, h4⟩
/-- which end the n-th line gets -/
def howK (l : List UInt8) (n : Nat) : Nat := match l[n]? with
  | some z => z.toNat % 5
  | none => 0
theorem howK_in {l : List UInt8} {n : Nat} (h : n < l.length) : howK l n = l[n].toNat % 5 := by unfold howK; rw [List.getElem?_eq_getElem h]
theorem howK_out {l : List UInt8} {n : Nat} (h : l.length ≤ n) : howK l n = 0 := by unfold howK; rw [List.getElem?_eq_none h]
theorem drop_at (s : ByteArray) (j : Nat) (h : j < s.size) : s.data.toList.drop j = s[j] :: s.data.toList.drop (j + 1) := by
  have hl : s.data.toList.length = s.size := by rw [Lib.size_eq]
  rw [List.drop_eq_getElem_cons (by omega)]
  rfl
theorem ext_at (s : ByteArray) (j : Nat) (h : j < s.size) : (s.extract j (j + 1)).data.toList = [s[j]] := by
  rw [Lib.extract_data, show j + 1 - j = 1 by omega, drop_at s j h]; rfl
theorem bdd (x y : ByteArray) : (x ++ y).data.toList = x.data.toList ++ y.data.toList := by simp
/-- the text so far -/
structure OInv (l : List UInt8) (s : ByteArray) (R : List UInt8) (j cnt : Nat) (O : ByteArray) : Prop where
  eq : O.data.toList ++ other (howK l) (s.data.toList.drop j) cnt = R
  le : cnt ≤ j
theorem OInv.size {l : List UInt8} {s : ByteArray} {R : List UInt8} {j cnt : Nat} {O : ByteArray} (h : OInv l s R j cnt O) (hR : R.length ≤ 24000) : O.size ≤ 24000 := by
  have := congrArg List.length h.eq
  rw [List.length_append, ← Lib.size_eq] at this
  omega
theorem OInv.char {l : List UInt8} {s : ByteArray} {R : List UInt8} {j cnt : Nat} {O : ByteArray} (h : OInv l s R j cnt O) (hj : j < s.size) (hc : ¬ s[j] = 10) : OInv l s R (j + 1) cnt (O ++ s.extract j (j + 1)) := by
  refine ⟨?_, by have := h.le; omega⟩
  have e := h.eq
  rw [drop_at s j hj, other_cons, if_neg hc] at e
  rw [bdd, ext_at s j hj, List.append_assoc]
  exact e
theorem OInv.line {l : List UInt8} {s : ByteArray} {R : List UInt8} {j cnt : Nat} {O S : ByteArray} (h : OInv l s R j cnt O) (hj : j < s.size) (hc : s[j] = 10) (hS : S.data.toList = suf (howK l cnt)) : OInv l s R (j + 1) (cnt + 1) (O ++ S) := by
  refine ⟨?_, by have := h.le; omega⟩
  have e := h.eq
  rw [drop_at s j hj, other_cons, if_pos hc] at e
  rw [bdd, hS, List.append_assoc]
  exact e
theorem mod5 (z : UInt8) : (z.toNat % 5 = 0 ∧ (z.toNat : Int) % 5 = 0 ∧ Int.tmod (z.toNat : Int) 5 = 0) ∨ (z.toNat % 5 = 1 ∧ (z.toNat : Int) % 5 = 1 ∧ Int.tmod (z.toNat : Int) 5 = 1) ∨ (z.toNat % 5 = 2 ∧ (z.toNat : Int) % 5 = 2 ∧ Int.tmod (z.toNat : Int) 5 = 2) ∨ (z.toNat % 5 = 3 ∧ (z.toNat : Int) % 5 = 3 ∧ Int.tmod (z.toNat : Int) 5 = 3) ∨ (z.toNat % 5 = 4 ∧ (z.toNat : Int) % 5 = 4 ∧ Int.tmod (z.toNat : Int) 5 = 4) := by
  have e : Int.tmod (z.toNat : Int) 5 = (z.toNat : Int) % 5 := Int.tmod_eq_emod_of_nonneg (by omega)
  rw [e]; omega
set_option maxHeartbeats 8000000 in
set_option maxRecDepth 100000 in
theorem schemaBlanks_calls (v v1 : Value) (ts : List TyD) (l : List UInt8) (m : Int) (w : World) (hS : SchV w v ts) (hf : fitsS ts) (hW : tysW ts ≤ 20000000) (hH : HowAt w v1 l) (hlm : l.length ≤ maxLen) (hm : w.cell? ⟨0, 0, none⟩ = some (.int .i64 m)) :
    Calls Tryd.prog 6 #[.agg #[v], v1] w fun e w' => e = .returned (.bool true) ∧ Below w.heap.size w w' := by
  have hg : 0 < w.heap.size := World.block_lt_of_cell? w _ hm
  obtain ⟨p, c, rfl⟩ := hS.form
  obtain ⟨ph, ch, rfl⟩ := hH.form
  obtain ⟨w1, e1⟩ : ∃ w1, w.alloc (.cells #[.slice p ts.length c] 25) = w1 := ⟨_, rfl⟩
  have hb1 := (Below.refl w.heap.size w).alloc (Nat.le_refl _) (.cells #[.slice p ts.length c] 25)
  have bx1 := Blk.new w 25 #[.slice p ts.length c]
  have hz1 : w1.heap.size = w.heap.size + 1 := by rw [← e1]; simp
  rw [e1] at hb1 bx1
  have hlater : ∀ W, Below w.heap.size w W → 0 < W.heap.size ∧ W.cell? ⟨0, 0, none⟩ = some (.int .i64 m) := fun W hb => ⟨Nat.lt_of_lt_of_le hg hb.size, by rw [hb.cell (p := ⟨0, 0, none⟩) hg]; exact hm⟩
  have F := fixed_calls m w1 (hlater w1 hb1).1 (hlater w1 hb1).2
  have hlater' := Lib.hid hlater
  have F' := Lib.hid F
  have hb1' := Lib.hid hb1
  have bx1' := Lib.hid bx1
  have hS' := Lib.hid hS
  have hH' := Lib.hid hH
  unfold maxLen at hlm
  generalize hln : l.length = nl at *
  have hln' := Lib.hid hln
  clear hlater F hg hm hb1 bx1 hS hH hln
  go_enter Tryd.func6, Tryd.ntmps6
  go_wp2_with fail
  refine F'.out.mono ?_
  rintro e w2 ⟨rfl, hb2⟩
  have l2 := hb2.size
  have B2 := hb1'.out.trans (hb2.mono (by omega))
  have bx2 := bx1'.out.below hb2 (by omega)
  have c2 := bx2.cell
  have lx2 := bx2.lt
  have hS2 := hS'.out.later B2
  have P2 := few_calls _ ts w2 hS2 hf (by omega)
  have P2' := Lib.hid P2
  have B2' := Lib.hid B2
  have bx2' := Lib.hid bx2
  clear P2 B2 bx2 hS2 hb2
  cases hfw : few ts
  · rw [hfw] at P2'
    clear hfw
    go_wp2_with fail
    refine P2'.out.mono ?_
    rintro e w3 ⟨rfl, hb3⟩
    have B3 := Lib.hid (B2'.out.trans (hb3.mono (by omega)))
    go_wp2_with fail
    go_ret
    exact ⟨rfl, B3.out⟩
  rw [hfw] at P2'
  have hfw' := Lib.hid hfw
  clear hfw
  by_cases h100 : 100 < nl
  · go_wp2_with fail
    refine P2'.out.mono ?_
    rintro e w3 ⟨rfl, hb3⟩
    have B3 := Lib.hid (B2'.out.trans (hb3.mono (by omega)))
    go_wp2_with fail
    go_ret
    exact ⟨rfl, B3.out⟩
  go_wp2_with fail
  refine P2'.out.mono ?_
  rintro e w3 ⟨rfl, hb3⟩
  have l3 := hb3.size
  have B3 := B2'.out.trans (hb3.mono (by omega))
  have bx3 := bx2'.out.below hb3 lx2
  have c3 := bx3.cell
  have lx3 := bx3.lt
  have P3 := print_calls _ ts w3 (hS'.out.later B3) (by omega)
  have P3' := Lib.hid P3
  have B3' := Lib.hid B3
  have bx3' := Lib.hid bx3
  clear P3 B3 bx3 hb3 c2 P2'
  cases hT : tysT ts with
  | none =>
    rw [hT] at P3'
    clear hT
    go_wp2_with fail
    refine P3'.out.mono ?_
    intro e w4 h4
    obtain ⟨h4, hb4⟩ := h4
    rcases h4 with ⟨y, hy, _⟩ | ⟨_, rfl⟩
    · cases hy
    have B4 := Lib.hid (B3'.out.trans (hb4.mono (by omega)))
    clear hb4
    go_wp2_with fail
    go_ret
    exact ⟨rfl, B4.out⟩
  | some x =>
    have hxl := few_len hfw'.out hT
    have hol := few_other hfw'.out hT (howK l) 0
    have hback : parseG ((linesB ⟨(other (howK l) x 0).toArray⟩).map (·.data.toList)) 0 [] = (some ts, 0) := by
      rw [parse_both, mk_data]
      exact other_back hT _
    rw [hT] at P3'
    have hback' := Lib.hid hback
    clear hT hback
    go_wp2_with fail
    refine P3'.out.mono ?_
    intro e w4 h4
    obtain ⟨rfl, hb4⟩ := h4.yes rfl
    have l4 := hb4.size
    have B4 := B3'.out.trans (hb4.mono (by omega))
    have bx4 := bx3'.out.below hb4 lx3
    have hI0 : OInv l ⟨x.toArray⟩ (other (howK l) x 0) 0 0 ⟨#[]⟩ := ⟨rfl, Nat.le_refl _⟩
    have hsx : (⟨x.toArray⟩ : ByteArray).size ≤ 21800 := by rw [mk_size]; exact hxl
    generalize (⟨x.toArray⟩ : ByteArray) = s at *
    generalize other (howK l) x 0 = R at *
    have hI0' := Lib.hid hI0
    have B4' := Lib.hid B4
    have bx4' := Lib.hid bx4
    clear hI0 B4 bx4 hb4 h4 c3 P3'
    go_wp2_with fail
    go_loopw [7, 8, 9] (fun ov nv iv wr => ∃ (j cnt : Nat) (O : ByteArray), j ≤ s.size ∧ iv = .int .i64 j ∧ nv = .int .i64 cnt ∧ ov = .string O ∧ OInv l s R j cnt O ∧ Blk wr w.heap.size 25 #[.slice p ts.length c] ∧ Below w.heap.size w wr ∧ w.heap.size + 1 ≤ wr.heap.size) (fun _ _ i _ => s.size - (intOf i).toNat)
    case atStart => exact ⟨0, 0, ⟨#[]⟩, Nat.zero_le _, rfl, rfl, rfl, hI0'.out, bx4'.out, B4'.out, by omega⟩
    case round =>
      obtain ⟨j, cnt, O, hj, rfl, rfl, rfl, hI, hX, hB, hz⟩ := hrel
      have hOs := hI.size hol
      have hcj := hI.le
      by_cases hlt : j < s.size
      · by_cases hc : s[j] = 10
        · have hci : (s[j].toNat : Int) = 10 := by rw [hc]; rfl
          have hlin := fun S h => hI.line (S := S) hlt hc h
          have hX' := Lib.hid hX
          have hB' := Lib.hid hB
          have hlin' := Lib.hid hlin
          have lxr := hX.lt
          clear hlin hX hI hc
          by_cases hcn : cnt < nl
          · have hcl : cnt < l.length := by rw [hln'.out]; exact hcn
            obtain ⟨g, o, rfl, hcc, lgr, hcell⟩ := (hH'.out.later hB).cell (i := cnt) hln'.out.symm hcl
            have hK := howK_in hcl
            generalize l[cnt] = z at *
            clear hB
            rcases mod5 z with ⟨h5, hm1, hm2⟩ | ⟨h5, hm1, hm2⟩ | ⟨h5, hm1, hm2⟩ | ⟨h5, hm1, hm2⟩ | ⟨h5, hm1, hm2⟩
            all_goals
              rw [h5] at hK
              have hbb := Lib.hid ((Below.refl wr.heap.size wr).alloc (Nat.le_refl _) (.cells #[.string ⟨#[10]⟩, .string ⟨#[32, 9, 10]⟩, .string ⟨#[10, 10]⟩, .string ⟨#[10, 47, 47, 32, 116, 121, 112, 101, 32, 120, 10]⟩, .string ⟨#[10, 32, 9]⟩] 9))
              go_wp2_with fail
              go_roundw
              case rel => exact ⟨j + 1, cnt + 1, _, by omega, by go_num, by go_num, rfl, hlin'.out _ (by rw [hK]; rfl), hX'.out.below hbb.out lxr, hB'.out.trans (hbb.out.mono (by omega)), by simp; omega⟩
              case measure => simp [intOf]; omega
          · have hK := howK_out (l := l) (n := cnt) (by rw [hln'.out]; omega)
            have hbb := Lib.hid ((Below.refl wr.heap.size wr).alloc (Nat.le_refl _) (.cells #[.string ⟨#[10]⟩, .string ⟨#[32, 9, 10]⟩, .string ⟨#[10, 10]⟩, .string ⟨#[10, 47, 47, 32, 116, 121, 112, 101, 32, 120, 10]⟩, .string ⟨#[10, 32, 9]⟩] 9))
            clear hB
            go_wp2_with fail
            go_roundw
            case rel => exact ⟨j + 1, cnt + 1, _, by omega, by go_num, by go_num, rfl, hlin'.out _ (by rw [hK]; rfl), hX'.out.below hbb.out lxr, hB'.out.trans (hbb.out.mono (by omega)), by simp; omega⟩
            case measure => simp [intOf]; omega
        · have hci : ¬ (s[j].toNat : Int) = 10 := fun e => hc (by
            apply UInt8.toNat_inj.1
            have : s[j].toNat = 10 := by omega
            rw [this]; rfl)
          have hI2 := Lib.hid (hI.char hlt hc)
          have hX' := Lib.hid hX
          have hB' := Lib.hid hB
          clear hI hX hB hc
          go_wp2_with fail
          go_roundw
          case rel => exact ⟨j + 1, cnt, _, by omega, by go_num, rfl, rfl, hI2.out, hX'.out, hB'.out, by omega⟩
          case measure => simp [intOf]; omega
      · obtain rfl : j = s.size := by omega
        have hO : O.data.toList = R := by
          have e := hI.eq
          rw [List.drop_eq_nil_of_le (by rw [Lib.size_eq]; exact Nat.le_refl _)] at e
          rw [← e]
          show _ = O.data.toList ++ []
          rw [List.append_nil]
        have hOe : O = ⟨R.toArray⟩ := data_inj hO
        subst hOe
        obtain ⟨hg5, hm5⟩ := hlater'.out wr hB
        have P5 := parse_calls ⟨R.toArray⟩ m wr (by omega) hg5 hm5
        have P5' := Lib.hid P5
        have B5' := Lib.hid hB
        have bx5' := Lib.hid hX
        have lx5 := hX.lt
        clear P5 hI hO hg5 hm5 hB hX
        go_wp2_with fail
        refine P5'.out.mono ?_
        intro e w6 h6
        obtain ⟨q, d, us, he, hSc, hb6⟩ := h6.yes hback'.out
        subst he
        have l6 := hb6.size
        have B6 := B5'.out.trans (hb6.mono (by omega))
        have bx6 := bx5'.out.below hb6 lx5
        have hV6 : SchV w6 (.slice q ts.length d) ts := SchV.of_sch hSc (N := 20000000) (by unfold maxLen; decide) (tsSmall_of hW)
        have hV6a := hS'.out.later B6
        have hb7 := (Below.refl w6.heap.size w6).alloc (Nat.le_refl _) (.cells #[.slice q ts.length d] 25)
        have S := same_calls _ _ ts ts _ (hV6a.later hb7) (hV6.later hb7)
        have B7 := B6.trans (hb7.mono (by omega))
        have c6 := bx6.cell
        have l26 := bx6.lt
        have hz7 : (w6.alloc (.cells #[.slice q ts.length d] 25)).heap.size = w6.heap.size + 1 := by simp
        have S' := Lib.hid S
        have B7' := Lib.hid B7
        clear S B7 hb7 B6 bx6 hV6 hV6a hSc hb6 h6
        go_wp2_with fail
        refine S'.out.mono ?_
        rintro e w7 ⟨b, rfl, hbe, hb8⟩
        obtain rfl : b = true := hbe.2 trivial
        have B8 := Lib.hid (B7'.out.trans (hb8.mono (by omega)))
        clear hb8 hbe
        go_wp2_with fail
        go_ret
        exact ⟨rfl, B8.out⟩
end Go.Proofs.YtkibaaljpbcjeaaDoor
