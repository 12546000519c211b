/- Walk: the law FilesTorn. -/
import Derived.Test.YtabcdodjkfknlaaGreatDoorPN28
import Derived.Test.YtabcdodjkfknlaaGreatDoorPT01
import Derived.Test.YtabcdodjkfknlaaGreatDoorPT02
import Derived.Test.YtabcdodjkfknlaaGreatDoorPT03
namespace Go.Proofs.YtabcdodjkfknlaaGreatDoor
open Go.RowKit
attribute [local go_sem ↓] dapp_op dslK_op
attribute [local go_sem] Oper.semAt_some
/-- a version as an argument, and an edit -/
structure VerArg (w : World) (p : Option Addr) (c : Nat) (v : Ver) : Prop where
  is : VerIs w (.agg #[.slice p v.tables.length c, .int .u64 v.floor, .int .u64 v.head, .int .i64 v.log, .int .i64 v.next]) v
  cap : v.tables.length ≤ c
  slim : slim v.tables
theorem VerArg.later {w w' : World} {p : Option Addr} {c : Nat} {v : Ver} (h : VerArg w p c v) (hb : Below w.heap.size w w') : VerArg w' p c v := ⟨h.is.later hb, h.cap, h.slim⟩
theorem VerArg.capOk {w : World} {p : Option Addr} {c : Nat} {v : Ver} (h : VerArg w p c v) : capOk (.agg #[.slice p v.tables.length c, .int .u64 v.floor, .int .u64 v.head, .int .i64 v.log, .int .i64 v.next]) := by
  intro p' n' c' b1 b2 b3 b4 e
  injection e with e
  have := congrArg (fun a => a[0]?) e
  simp only [List.getElem?_toArray, List.getElem?_cons_zero, Option.some.injEq] at this
  injection this with _ e1 e2
  rw [← e1, ← e2]
  exact h.cap
structure EdtArg (w : World) (p : Option Addr) (q : Option Addr) (d : Nat) (x : Edt) : Prop where
  add : rkT.At w p x.add
  drop : rkI.At w q x.drop
  nil : q = none → d = 0
  len : x.add.length ≤ 1000000 ∧ x.drop.length ≤ 2000000
  lang : ∀ t ∈ x.add, t.lang
  langI : ∀ t ∈ x.drop, -9223372036854775808 ≤ t ∧ t < 9223372036854775808
  nums : x.floor < 18446744073709551616 ∧ x.head < 18446744073709551616 ∧ -9223372036854775808 ≤ x.log ∧ x.log < 9223372036854775808 ∧ -9223372036854775808 ≤ x.next ∧ x.next < 9223372036854775808
  slim : slim x.add
theorem EdtArg.later {w w' : World} {p q : Option Addr} {d : Nat} {x : Edt} (h : EdtArg w p q d x) (hb : Below w.heap.size w w') : EdtArg w' p q d x := ⟨h.add.below hb, h.drop.below hb, h.nil, h.len, h.lang, h.langI, h.nums, h.slim⟩
theorem EdtArg.is {w : World} {p q : Option Addr} {d : Nat} {x : Edt} (h : EdtArg w p q d x) (c : Nat) (hf : x.few = true) : EdtAt w (.agg #[.slice p x.add.length c, .slice q x.drop.length d, .int .u64 x.floor, .int .u64 x.head, .int .i64 x.log, .int .i64 x.next]) x := by
  unfold Edt.few at hf
  rw [Bool.and_eq_true, Bool.and_eq_true, decide_eq_true_eq, decide_eq_true_eq] at hf
  exact ⟨⟨p, c, q, d, rfl, h.add, h.drop⟩, ⟨h.len.1, by omega⟩, h.lang, h.langI, h.nums⟩
/-- the law returns true -/
def LawTrue (w : World) (e : Ending) (w' : World) : Prop := e = .returned (.bool true) ∧ Below w.heap.size w w'
def tornR : RD := RD.new 16777216
theorem torn_up : Okd tornR := Okd.new _
set_option maxHeartbeats 8000000 in
set_option maxRecDepth 100000 in
theorem filesTorn_calls (p q pa : Option Addr) (c ca d : Nat) (v : Ver) (x : Edt) (cut : Nat) (w : World) (hs : StdF w) (hv : VerArg w p c v) (hx : EdtArg w pa q d x) (hcut : cut < 65536) :
    Calls Tryz.prog 4 #[.agg #[.slice p v.tables.length c, .int .u64 v.floor, .int .u64 v.head, .int .i64 v.log, .int .i64 v.next], .agg #[.slice pa x.add.length ca, .slice q x.drop.length d, .int .u64 x.floor, .int .u64 x.head, .int .i64 x.log, .int .i64 x.next], .int .u16 cut] w (LawTrue w) := by
  obtain ⟨V, hV⟩ : ∃ V : Value, (.agg #[.slice p v.tables.length c, .int .u64 v.floor, .int .u64 v.head, .int .i64 v.log, .int .i64 v.next] : Value) = V := ⟨_, rfl⟩
  obtain ⟨W1, hW1⟩ : ∃ W1, w.alloc (.cells #[.slice p v.tables.length c, .int .u64 v.floor, .int .u64 v.head, .int .i64 v.log, .int .i64 v.next] 30) = W1 := ⟨_, rfl⟩
  have bV1 : Blk W1 w.heap.size 30 #[.slice p v.tables.length c, .int .u64 v.floor, .int .u64 v.head, .int .i64 v.log, .int .i64 v.next] := by rw [← hW1]; exact Blk.new w _ _
  have hb1 : Below w.heap.size w W1 := by rw [← hW1]; exact (Below.refl _ w).alloc (Nat.le_refl _) _
  obtain ⟨W2, hW2⟩ : ∃ W2, W1.alloc (.cells #[.slice pa x.add.length ca, .slice q x.drop.length d, .int .u64 x.floor, .int .u64 x.head, .int .i64 x.log, .int .i64 x.next] 33) = W2 := ⟨_, rfl⟩
  have hb2 : Below W1.heap.size W1 W2 := by rw [← hW2]; exact (Below.refl _ W1).alloc (Nat.le_refl _) _
  have bX2 : Blk W2 W1.heap.size 33 #[.slice pa x.add.length ca, .slice q x.drop.length d, .int .u64 x.floor, .int .u64 x.head, .int .i64 x.log, .int .i64 x.next] := by rw [← hW2]; exact Blk.new W1 _ _
  have bV2 := bV1.below hb2 bV1.lt
  have hB2 := hb1.trans (hb2.mono hb1.size)
  obtain ⟨gx, hgx⟩ : ∃ g, W1.heap.size = g := ⟨_, rfl⟩
  rw [hgx] at bX2
  have hv2 := hv.later hB2
  have hx2 := hx.later hB2
  have hs2 := hs.next hB2
  have hF := Lib.hid (fixed21_calls W2 hs2)
  have hB2' := Lib.hid hB2
  have bV2' := Lib.hid bV2
  have bX2' := Lib.hid bX2
  have hv2' := Lib.hid hv2
  have hx2' := Lib.hid hx2
  have hs2' := Lib.hid hs2
  have hv0 := Lib.hid hv
  have hx0 := Lib.hid hx
  have hs0 := Lib.hid hs
  clear hv hx hs hB2 bV2 bX2 hv2 hx2 hs2 hb1 hb2 bV1 hV
  obtain ⟨N1, hN1⟩ : ∃ N, v.tables.length = N := ⟨_, rfl⟩
  obtain ⟨N2, hN2⟩ : ∃ N, x.add.length = N := ⟨_, rfl⟩
  obtain ⟨N3, hN3⟩ : ∃ N, x.drop.length = N := ⟨_, rfl⟩
  have hN1' := Lib.hid hN1
  have hN2' := Lib.hid hN2
  have hN3' := Lib.hid hN3
  rw [hN1] at bV2' hW1 ⊢
  rw [hN2, hN3] at bX2' hW2 ⊢
  clear hN1 hN2 hN3
  go_enter Tryz.func4, Tryz.ntmps4
  go_wp2_with fail
  refine hF.out.mono ?_
  rintro e w3 ⟨rfl, b3⟩
  have bV3 := Lib.hid (bV2'.out.below b3 bV2'.out.lt)
  have bX3 := Lib.hid (bX2'.out.below b3 bX2'.out.lt)
  have hB3 := Lib.hid (hB2'.out.trans (b3.mono hB2'.out.size))
  have hv3 := Lib.hid (hv2'.out.later b3)
  have hx3 := Lib.hid (hx2'.out.later b3)
  have hs3 := Lib.hid (hs2'.out.next b3)
  have hC := few21_calls _ v w3 hv3.out.is hv3.out.slim
  obtain ⟨F1, hF1⟩ : ∃ F, v.few = F := ⟨_, rfl⟩
  rw [hF1, hN1'.out] at hC
  have hF1' := Lib.hid hF1
  have hC' := Lib.hid hC
  have cV3 := bV3.out.cell
  clear b3 hF1 hC hF bV2' bX2' hv2' hx2' hs2' hB2'
  go_wp2_with fail
  refine hC'.out.mono ?_
  rintro e w4 ⟨rfl, b4⟩
  have bV4 := Lib.hid (bV3.out.below b4 bV3.out.lt)
  have bX4 := Lib.hid (bX3.out.below b4 bX3.out.lt)
  have hB4 := Lib.hid (hB3.out.trans (b4.mono hB3.out.size))
  have hv4 := Lib.hid (hv3.out.later b4)
  have hx4 := Lib.hid (hx3.out.later b4)
  have hs4 := Lib.hid (hs3.out.next b4)
  clear b4 hC' bV3 bX3 hv3 hx3 hs3 cV3 hB3
  cases F1 with
  | false =>
    go_wp2_with fail
    go_ret
    exact ⟨rfl, hB4.out⟩
  | true =>
    have hC := few16_calls pa q ca d x w4 hx4.out.add hx4.out.len.1 hx4.out.len.2 hx4.out.slim
    obtain ⟨F2, hF2⟩ : ∃ F, x.few = F := ⟨_, rfl⟩
    rw [hF2, hN2'.out, hN3'.out] at hC
    have hF2' := Lib.hid hF2
    have hC' := Lib.hid hC
    have cX4 := bX4.out.cell
    clear hC hF2
    go_wp2_with fail
    refine hC'.out.mono ?_
    rintro e w5 ⟨rfl, b5⟩
    have bV5 := Lib.hid (bV4.out.below b5 bV4.out.lt)
    have bX5 := Lib.hid (bX4.out.below b5 bX4.out.lt)
    have hB5 := Lib.hid (hB4.out.trans (b5.mono hB4.out.size))
    have hv5 := Lib.hid (hv4.out.later b5)
    have hx5 := Lib.hid (hx4.out.later b5)
    have hs5 := Lib.hid (hs4.out.next b5)
    clear b5 hC' bV4 bX4 hv4 hx4 hs4 cX4 hB4
    cases F2 with
    | false =>
      go_wp2_with fail
      go_ret
      exact ⟨rfl, hB5.out⟩
    | true =>
      have hC := check16_calls _ v w5 hv5.out.is hv5.out.capOk
      obtain ⟨F3, hF3⟩ : ∃ F, v.ok = F := ⟨_, rfl⟩
      rw [hF3, hN1'.out] at hC
      have hF3' := Lib.hid hF3
      have cV5 := bV5.out.cell
      cases F3 with
      | false =>
        have hC : Calls Tryz.prog 15 #[.agg #[.slice p N1 c, .int .u64 v.floor, .int .u64 v.head, .int .i64 v.log, .int .i64 v.next]] w5 (ErrPost w5 9) := hC
        have hC' := Lib.hid hC
        clear hC hF3
        go_wp2_with fail
        refine hC'.out.mono ?_
        rintro e w6 ⟨rfl, b6⟩
        have hB6 := Lib.hid (hB5.out.trans (b6.mono hB5.out.size))
        clear b6
        go_wp2_with fail
        go_ret
        exact ⟨rfl, hB6.out⟩
      | true =>
        have hC : Calls Tryz.prog 15 #[.agg #[.slice p N1 c, .int .u64 v.floor, .int .u64 v.head, .int .i64 v.log, .int .i64 v.next]] w5 (ErrPost w5 0) := hC
        have hC' := Lib.hid hC
        clear hC hF3
        go_wp2_with fail
        refine hC'.out.mono ?_
        rintro e w6 ⟨rfl, b6⟩
        have bV6 := Lib.hid (bV5.out.below b6 bV5.out.lt)
        have bX6 := Lib.hid (bX5.out.below b6 bX5.out.lt)
        have hB6 := Lib.hid (hB5.out.trans (b6.mono hB5.out.size))
        have hv6 := Lib.hid (hv5.out.later b6)
        have hx6 := Lib.hid (hx5.out.later b6)
        have hs6 := Lib.hid (hs5.out.next b6)
        clear b6 hC' bV5 bX5 hv5 hx5 hs5 cV5 hB5
        have hC := right16_calls pa q ca d x w6 hx6.out.add hx6.out.drop hF2'.out hx6.out.nil
        obtain ⟨F4, hF4⟩ : ∃ F, x.right = F := ⟨_, rfl⟩
        rw [hF4, hN2'.out, hN3'.out] at hC
        have hF4' := Lib.hid hF4
        have hC' := Lib.hid hC
        have cX6 := bX6.out.cell
        clear hC hF4
        go_wp2_with fail
        refine hC'.out.mono ?_
        rintro e w7 ⟨rfl, b7⟩
        have bV7 := Lib.hid (bV6.out.below b7 bV6.out.lt)
        have bX7 := Lib.hid (bX6.out.below b7 bX6.out.lt)
        have hB7 := Lib.hid (hB6.out.trans (b7.mono hB6.out.size))
        have hv7 := Lib.hid (hv6.out.later b7)
        have hx7 := Lib.hid (hx6.out.later b7)
        have hs7 := Lib.hid (hs6.out.next b7)
        clear b7 hC' bV6 bX6 hv6 hx6 hs6 cX6 hB6
        cases F4 with
        | false =>
          go_wp2_with fail
          go_ret
          exact ⟨rfl, hB7.out⟩
        | true =>
          have cV7 := bV7.out.cell
          by_cases hbig : 1000000 < v.next
          · go_wp2_with fail
            go_ret
            exact ⟨rfl, hB7.out⟩
          · obtain ⟨hk1, _, _⟩ := Ver.ok_iff.1 hF3'.out
            have hn1 : 1 ≤ v.next := by
              unfold Ver.headOk at hk1
              simp only [Bool.and_eq_true, decide_eq_true_eq] at hk1
              exact hk1.1.1.1.1
            go_wp2_with fail
            refine (new_at 16777216 w7).mono ?_
            rintro e w8 ⟨rfl, h8⟩
            have h8 : At w7 w8 (w7.heap.size + 2) tornR 0 := h8
            obtain ⟨D, hD_⟩ : ∃ D, w7.heap.size + 2 = D := ⟨_, rfl⟩
            obtain ⟨B, hB_⟩ : ∃ B, w7.heap.size = B := ⟨_, rfl⟩
            have bl8 := h8.below
            obtain ⟨O, hDA⟩ := DAt.of_at h8
            rw [hD_] at hDA ⊢
            rw [hB_] at bl8 hDA
            have bV8 := Lib.hid (bV7.out.below (by rw [hB_]; exact bl8) bV7.out.lt)
            have bX8 := Lib.hid (bX7.out.below (by rw [hB_]; exact bl8) bX7.out.lt)
            have hB8 := Lib.hid (hB7.out.trans ((show Below w7.heap.size w7 w8 by rw [hB_]; exact bl8).mono hB7.out.size))
            have hv8 := Lib.hid (hv7.out.later (by rw [hB_]; exact bl8))
            have hx8 := Lib.hid (hx7.out.later (by rw [hB_]; exact bl8))
            have hs8 := Lib.hid (hs7.out.next (by rw [hB_]; exact bl8))
            have lV8 : w.heap.size < B := by rw [← hB_]; exact bV7.out.lt
            have lX8 : gx < B := by rw [← hB_]; exact bX7.out.lt
            have hbulk := bulk_few hF1'.out hv8.out.is.lang hv8.out.is.nums
            have hname : fname 109 v.next.toNat ≠ [] := by unfold fname; rw [if_pos ⟨rfl, by omega, by omega⟩]; exact List.cons_ne_nil _ _
            have hSt : Started tornR v := startR_ok torn_up hF3'.out hname rfl (by show (0 : Nat) + _ + 11 ≤ 16777216; omega)
            have hfits : v.up.whole.fits := whole_fits (up_ok hF3'.out (by omega)) ⟨hv8.out.is.nums.1, hv8.out.is.nums.2.1⟩ (by have := few_tables hF1'.out; show v.tables.length ≤ _; omega) (few_sizes hF1'.out)
            have hC := start_calls hDA hv8.out.is hs8.out (by have := few_tables hF1'.out; omega) (by unfold Ver.bulk at hbulk; omega) (few_sizes hF1'.out) (by omega)
            rw [hN1'.out] at hC
            have hC' := Lib.hid hC
            have hDA' := Lib.hid hDA
            have C8 := Lib.hid bl8
            have hB_' := Lib.hid hB_
            have hD_' := Lib.hid hD_
            have hSt' := Lib.hid hSt
            have hname' := Lib.hid hname
            have hfits' := Lib.hid hfits
            have hnb := Lib.hid hv8.out.is.nums
            have hlang := Lib.hid hv8.out.is.lang
            have cV8 := bV8.out.cell
            clear hC hDA hB_ hD_ h8 bl8 hSt hname hfits bV7 bX7 hB7 hv7 hx7 hs7 cV7 hk1
            go_wp2_with fail
            refine hC'.out.mono ?_
            rintro e w9 ⟨v9, rfl, o9, hG9⟩
            rw [hSt'.out.err] at o9 ⊢
            obtain ⟨p9, k9, rfl⟩ : ∃ p k, v9 = .agg #[.slice p N1 k, .int .u64 v.floor, .int .u64 v.head, .int .i64 v.log, .int .i64 (v.next + 1)] := by
              obtain ⟨p, k, e, _⟩ := o9.agg
              exact ⟨p, k, by rw [← hN1'.out]; exact e⟩
            have bV9 := hG9.blk2 hDA'.out bV8.out nd_ver
            have bX9 := hG9.blk2 hDA'.out bX8.out nd_edt
            have hB9 := hG9.base hDA'.out hB8.out (by omega)
            have C9 := hG9.base hDA'.out C8.out (Nat.le_refl _)
            obtain ⟨O1, hD9, _, _⟩ := hG9
            have o9 : VerOwn w8.heap.size w9 (.agg #[.slice p9 N1 k9, .int .u64 v.floor, .int .u64 v.head, .int .i64 v.log, .int .i64 (v.next + 1)]) v.up := o9
            obtain ⟨X9, hX9⟩ : ∃ X, w9.alloc (.cells #[.slice p9 N1 k9, .int .u64 v.floor, .int .u64 v.head, .int .i64 v.log, .int .i64 (v.next + 1)] 30) = X := ⟨_, rfl⟩
            have hA9 : Below w9.heap.size w9 X9 := by rw [← hX9]; exact (Below.refl _ w9).alloc (Nat.le_refl _) _
            have bU : Blk X9 w9.heap.size 30 #[.slice p9 N1 k9, .int .u64 v.floor, .int .u64 v.head, .int .i64 v.log, .int .i64 (v.next + 1)] := by rw [← hX9]; exact Blk.new w9 _ _
            obtain ⟨U, hU⟩ : ∃ U, w9.heap.size = U := ⟨_, rfl⟩
            rw [hU] at bU
            have bXX := bX9.below hA9 bX9.lt
            have hBX := hB9.trans (hA9.mono hB9.size)
            have hXx := hx0.out.later hBX
            have hxl := edt_len hF2'.out hF4'.out ⟨hXx.nums.1, hXx.nums.2.1⟩
            have hC := encode16_calls _ x X9 (hXx.is ca hF2'.out) hF2'.out hF4'.out
            rw [hN2'.out, hN3'.out] at hC
            have hC2 := Lib.hid hC
            have hBX' := Lib.hid hBX
            have CX := Lib.hid (C9.trans (hA9.mono (Nat.le_trans (by rw [← hB_'.out]; exact Nat.le_refl _) C9.size)))
            have hDX := Lib.hid (hD9.later hA9)
            have oX := Lib.hid (o9.later hA9)
            have bUX := Lib.hid bU
            have bXX' := Lib.hid bXX
            have hX9' := Lib.hid hX9
            have hU' := Lib.hid hU
            have cX9 := bX9.cell
            have lX9 := bX9.lt
            clear hC hBX bU bXX hX9 hU hA9 hXx o9 hB9 C9 bV9 bX9 hC' hDA' bV8 bX8 hv8 hx8 hs8 hB8 cV8 hD9
            go_wp2_with fail
            rw [hX9'.out]
            refine hC2.out.mono ?_
            rintro e w10 ⟨p10, c10, rfl, o10, b10⟩
            have hC := seal03_calls _ x.bytes w10 o10.bytes (by omega)
            obtain ⟨L, hL⟩ : ∃ L, x.bytes.length = L := ⟨_, rfl⟩
            obtain ⟨bs, hbs⟩ : ∃ bs, x.bytes = bs := ⟨_, rfl⟩
            rw [hbs] at hC hL o10
            rw [hbs]
            rw [hL] at hC ⊢
            rw [hbs, hL] at hxl
            have hC3 := Lib.hid hC
            have hL' := Lib.hid hL
            have D10 := Lib.hid (hDX.out.later b10)
            have U10 := Lib.hid (bUX.out.below b10 bUX.out.lt)
            have O10 := Lib.hid (oX.out.later b10)
            have B10 := Lib.hid (hBX'.out.trans (b10.mono hBX'.out.size))
            have C10 := Lib.hid (CX.out.trans (b10.mono (Nat.le_trans (by rw [← hB_'.out]; exact Nat.le_refl _) CX.out.size)))
            clear hC hL hbs b10 o10 hC2 cX9 lX9 hDX bUX oX hBX' hX9'
            go_wp2_with fail
            refine hC3.out.mono ?_
            rintro e w11 ⟨n11, hn11, p11, c11, rfl, o11, b11⟩
            rw [hU'.out]
            obtain ⟨fr, hfr⟩ : ∃ fr, be32 bs.length ++ be32 n11 ++ bs = fr := ⟨_, rfl⟩
            rw [hfr] at o11 ⊢
            obtain ⟨Q, hQ⟩ : ∃ Q, fr.length = Q := ⟨_, rfl⟩
            have hQ8 : Q = 8 + L := by rw [← hQ, ← hfr, List.length_append, List.length_append, hL'.out]; show 4 + 4 + L = _; omega
            obtain ⟨J, hJ⟩ : ∃ J, cut % Q = J := ⟨_, rfl⟩
            have hJl : J < Q := by rw [← hJ]; exact Nat.mod_lt _ (by omega)
            obtain ⟨rest, hrest⟩ : ∃ rest, fr.take J = rest := ⟨_, rfl⟩
            have hrl : rest.length = J := by rw [← hrest, List.length_take, hQ]; omega
            have hnt : (nextL rest).1 ≠ 0 := by
              rw [← hrest, ← hfr]
              exact next_torn (by rw [hL'.out]; omega) (by rw [hL'.out]; omega)
            obtain ⟨t1, t2, t3, t4⟩ := torn_load hSt'.out hF3'.out hname'.out hfits'.out (by omega) hnt (by show (0 : Nat) + _ + 11 + _ ≤ 16777216; omega)
            have D11 := D10.out.later b11
            have U11 := U10.out.below b11 U10.out.lt
            have O11 := O10.out.later b11
            have B11 := B10.out.trans (b11.mono B10.out.size)
            have C11 := C10.out.trans (b11.mono (Nat.le_trans (by rw [← hB_'.out]; exact Nat.le_refl _) C10.out.size))
            have hby : Bytes w11 (.slice p11 J c11) rest := by
              have h1 := o11.bytes
              rw [hQ] at h1
              rw [← hrest]
              exact h1.take (by omega)
            have hno : ∀ g, (Value.slice p11 J c11).ownBlock = some g → rest ≠ [] → ¬ O1 g := by
              intro g hg _ e
              have h1 := (D10.out.lt g e).2
              have h2 : (Value.slice p11 fr.length c11).ownBlock = some g := by
                cases p11 with
                | none => cases hg
                | some a => exact hg
              have h3 := (o11.lt g h2).1
              omega
            obtain ⟨F, hFe⟩ : ∃ F, (⟨(fname 109 v.next.toNat).toArray⟩ : ByteArray) = F := ⟨_, rfl⟩
            have hFl : F.data.toList = fname 109 v.next.toNat := by rw [← hFe]
            have hFs : F.size ≤ maxLen := by
              rw [Lib.size_eq, hFl]
              have := (fname_dName rfl hname'.out).2.1
              unfold maxLen; omega
            have hNm := refName_calls 109 v.next w11.drew
            rw [hFe] at hNm
            have hNm : Calls Tryz.prog 12 #[.int .u8 109, .int .i64 v.next] w11.drew fun e w' => e = .returned (.string F) ∧ Below w11.drew.heap.size w11.drew w' := hNm
            have dr : Below w11.heap.size w11 w11.drew := (Below.refl w11.heap.size w11).drew
            have hsl := fun W => bsl_to p11 Q c11 J (by have := (hby.len).2; have h1 := o11.bytes; have := h1.len.2; rw [hQ] at this; omega) W
            have hcQ : ((cut : Int)).tmod (Q : Int) = (J : Int) := by
              rw [Int.tmod_eq_emod_of_nonneg (by omega), ← hJ]; omega
            have hcQ2 : (cut : Int) % (Q : Int) = (J : Int) := by rw [← hJ]; omega
            have hQ0 : ¬ (Q : Int) = 0 := by omega
            have hQ00 : ¬ Q = 0 := by omega
            have hcw : IntKind.i64.wrap (cut : Int) = (cut : Int) := IntWalk.i64_in _ (by omega)
            rw [hQ]
            have hNm' := Lib.hid hNm
            have t1' := Lib.hid t1
            have t2' := Lib.hid t2
            have t3' := Lib.hid t3
            have t4' := Lib.hid t4
            have D11' := Lib.hid (D11.later dr)
            have U11' := Lib.hid (U11.below dr U11.lt)
            have O11' := Lib.hid (O11.later dr)
            have B11' := Lib.hid (B11.trans (dr.mono B11.size))
            have C11' := Lib.hid (C11.trans (dr.mono (Nat.le_trans (by rw [← hB_'.out]; exact Nat.le_refl _) C11.size)))
            have hQle : Q ≤ 15010 := by omega
            have hby' := Lib.hid (hby.later dr)
            have hno' := Lib.hid hno
            have hFl' := Lib.hid hFl
            have hrl' := Lib.hid hrl
            have hFs' := Lib.hid hFs
            clear hNm t1 t2 t3 t4 D11 U11 O11 B11 C11 hby hno hFl hFe hFs hrl hnt hrest hQ hQ8 hfr hJ o11 b11 dr hC3 D10 U10 O10 B10
            go_wp2_with fail
            refine wp_region_s (fun _ => True) [] [(true, 0), (true, 1), (true, 3), (true, 4), (true, 5), (true, 6), (true, 7), (true, 8), (true, 9), (false, 2), (false, 10), (true, 11)] (by kernel_rfl) (by kernel_rfl) (by kernel_rfl) (by kernel_rfl) (fun _ _ _ _ _ h => h) trivial ?_
            repeat
              refine wpS_take (v := ?_) rfl (.inl ⟨by rfl, fun w' hS => ?_⟩) ?_
              rotate_left
              · (try dsimp only at hS); go_simp; try with_reducible rfl
              simp only [Act.put, List.setIfInBounds_toArray, List.set_cons_zero, List.set_cons_succ]
            refine wpS_go rfl ?_
            go_wp2_with fail
            refine hNm'.out.mono ?_
            rintro e w12 ⟨rfl, b12⟩
            have D12 := D11'.out.later b12
            have hAp := append_do D12 F (hby'.out.later b12) hno'.out hFs'.out (by omega) (by rw [hrl'.out]; omega)
            rw [hFl'.out, t1'.out] at hAp
            have hAp' := Lib.hid hAp
            have U12 := Lib.hid (U11'.out.below b12 U11'.out.lt)
            have O12 := Lib.hid (O11'.out.later b12)
            have B12 := Lib.hid (B11'.out.trans (b12.mono B11'.out.size))
            have C12 := Lib.hid (C11'.out.trans (b12.mono (Nat.le_trans (by rw [← hB_'.out]; exact Nat.le_refl _) C11'.out.size)))
            have D12' := Lib.hid D12
            clear hAp b12 D12 hNm' D11' U11' O11' B11' hby' hno'
            go_wp2_with fail
            refine ⟨fun _ => trivial, ?_⟩
            refine wpS_go rfl ?_
            go_wp2_with fail
            refine hAp'.out.mono ?_
            rintro e w13 ⟨rfl, hG⟩
            have U13 := Lib.hid (hG.blk2 D12'.out U12.out nd_ver)
            have B13 := Lib.hid (hG.base D12'.out B12.out (by omega))
            have C13 := Lib.hid (hG.base D12'.out C12.out (Nat.le_refl _))
            have O13 : VerOwn w8.heap.size w13 (.agg #[.slice p9 N1 k9, .int .u64 v.floor, .int .u64 v.head, .int .i64 v.log, .int .i64 (v.next + 1)]) v.up := by
              obtain ⟨sv, e, ho⟩ := O12.out
              exact ⟨sv, e, hG.row2 D12'.out ho nd_tbl⟩
            have O13' := Lib.hid O13
            obtain ⟨O2, D13, _, _⟩ := hG
            have D13' := Lib.hid D13
            clear D13 O13 U12 O12 B12 hAp' D12'
            go_wp2_with fail
            refine ⟨fun _ => trivial, ?_⟩
            refine wpS_take (v := ?_) rfl (.inl ⟨by rfl, fun w' hS => ?_⟩) ?_
            rotate_left
            · (try dsimp only at hS); go_simp; try with_reducible rfl
            simp only [Act.put, List.setIfInBounds_toArray, List.set_cons_zero, List.set_cons_succ]
            refine wpS_end ?_
            have hrd : ∀ s, (((startR tornR v).1.append (fname 109 v.next.toNat) rest).readB s).length ≤ 200000 := by
              refine readB_le 200000 fun s c hc => ?_
              have hnl := (fname_dName rfl hname'.out).2.1
              rw [t4'.out] at hc
              by_cases e1 : s = fname 109 v.next.toNat
              · rw [if_pos e1] at hc
                obtain rfl := Option.some.inj hc
                rw [List.length_append, sealL_len, hrl'.out]
                have := hbulk
                unfold Ver.bulk at this
                omega
              · rw [if_neg e1, hSt'.out.view] at hc
                by_cases e2 : s = currentL
                · rw [if_pos e2] at hc
                  obtain rfl := Option.some.inj hc
                  omega
                · rw [if_neg e2] at hc
                  by_cases e3 : s = freshL
                  · rw [if_pos e3] at hc; cases hc
                  · rw [if_neg e3, if_neg e1] at hc
                    cases hc
            have hLo : ∀ W, Below w13.heap.size w13 W → Calls Tryz.prog 22 #[.pointer (some ⟨D, 0, none⟩)] W (LoadPost W (v.up, v.next, 0)) := by
              intro W hW
              have hAt : At w7 W D ((startR tornR v).1.append (fname 109 v.next.toNat) rest) (6 + 1) := by
                have h1 := (D13'.out.later hW)
                have h2 := C13.out.trans (hW.mono (Nat.le_trans (by rw [← hB_'.out]; exact Nat.le_refl _) C13.out.size))
                rw [← hB_'.out] at h1 h2
                exact h1.at_ h2
              have := load_calls hAt (by omega) hrd (hs0.out.next (B13.out.trans (hW.mono B13.out.size)))
              rw [t2'.out] at this
              exact this
            have hLo' := Lib.hid hLo
            clear hLo hrd
            go_wp2_with fail
            refine (hLo'.out _ (Below.refl _ _)).mono ?_
            rintro e w14 ⟨v14, rfl, o14, b14⟩
            obtain ⟨p14, k14, rfl⟩ : ∃ p k, v14 = .agg #[.slice p N1 k, .int .u64 v.floor, .int .u64 v.head, .int .i64 v.log, .int .i64 (v.next + 1)] := by
              obtain ⟨p, k, e, _⟩ := o14.agg
              exact ⟨p, k, by rw [← hN1'.out]; exact e⟩
            have o14 : VerOwn w13.heap.size w14 (.agg #[.slice p14 N1 k14, .int .u64 v.floor, .int .u64 v.head, .int .i64 v.log, .int .i64 (v.next + 1)]) v.up := o14
            have hA14 : Below w14.heap.size w14 (w14.alloc (.cells #[.slice p14 N1 k14, .int .u64 v.floor, .int .u64 v.head, .int .i64 v.log, .int .i64 (v.next + 1)] 30)) := (Below.refl _ w14).alloc (Nat.le_refl _) _
            have U14 := (U13.out.below b14 U13.out.lt)
            have hlup : ∀ t ∈ v.up.tables, t.lang := hlang.out
            have hnup : v.up.floor < 18446744073709551616 ∧ v.up.head < 18446744073709551616 ∧ -9223372036854775808 ≤ v.up.log ∧ v.up.log < 9223372036854775808 ∧ -9223372036854775808 ≤ v.up.next ∧ v.up.next < 9223372036854775808 := by
              obtain ⟨n1, n2, n3, n4, n5, n6⟩ := hnb.out
              show v.floor < _ ∧ v.head < _ ∧ _ ≤ v.log ∧ v.log < _ ∧ _ ≤ v.next + 1 ∧ v.next + 1 < _
              omega
            have htl : v.up.tables.length ≤ 1000000 := by have := few_tables hF1'.out; show v.tables.length ≤ _; omega
            have i1 := ((O13'.out.later b14).later hA14).is2 htl hlup hnup
            have i2 := (o14.later hA14).is2 htl hlup hnup
            have c6 := Lib.hid (same21_calls _ _ _ _ _ i1 i2)
            have b15 := Lib.hid ((B13.out.trans (b14.mono B13.out.size)).trans (hA14.mono (Nat.le_trans B13.out.size b14.size)))
            have q3 := U14.cell
            have q3l := U14.lt
            clear i1 i2 hlup hnup htl b14 o14 hA14 U14 O13' U13 hLo'
            rw [show ((v.up, v.next, (0 : Int)) : Ver × Int × Int).2.1 = v.next from rfl, show ((v.up, v.next, (0 : Int)) : Ver × Int × Int).2.2 = 0 from rfl]
            go_wp2_with fail
            refine c6.out.mono ?_
            rintro e w15 ⟨b, rfl, hbt, hb7⟩
            obtain rfl : b = true := hbt.2 (by trivial)
            have hb8 := Lib.hid (b15.out.trans (hb7.mono b15.out.size))
            clear hb7 hbt q3 c6
            go_wp2_with fail
            go_ret
            exact ⟨rfl, hb8.out⟩
end Go.Proofs.YtabcdodjkfknlaaGreatDoor
