/- Walk: the law FilesCrash. The law FilesCrash holds for every two versions, fuse and what is kept, where what it reads is of bulk at most 1048576; its tied card. -/
import Derived.Test.YtabcdodjkfknlaaGreatDoorPT04
import Derived.Test.YtabcdodjkfknlaaGreatDoorPC01
import Derived.Test.YtabcdodjkfknlaaGreatDoorPC02
import Derived.Test.YtabcdodjkfknlaaGreatDoorPT05
import Derived.Carry
namespace Go.Proofs.YtabcdodjkfknlaaGreatDoor
open Go.RowKit
attribute [local go_sem ↓] dapp_op dslK_op
attribute [local go_sem] Oper.semAt_some
/-- the two boxed versions, and what stands -/
structure CrAt (w wr : World) (gx : Nat) (cv cx : Array Value) : Prop where
  bV : Blk wr w.heap.size 30 cv
  bX : Blk wr gx 30 cx
  base : Below w.heap.size w wr
theorem CrAt.later {w wr w' : World} {gx : Nat} {cv cx : Array Value} (h : CrAt w wr gx cv cx) (hb : Below wr.heap.size wr w') : CrAt w w' gx cv cx :=
  ⟨h.bV.below hb h.bV.lt, h.bX.below hb h.bX.lt, h.base.trans (hb.mono h.base.size)⟩
structure CrDk (w w7 wr : World) (gx D : Nat) (cv cx : Array Value) (r : RD) (m : Nat) (O : Nat → Prop) : Prop where
  st : CrAt w wr gx cv cx
  disk : DAt wr w7.heap.size D O r m
  kept : Below w7.heap.size w7 wr
  lo : w.heap.size ≤ w7.heap.size
section
variable {w w7 wr w' : World} {gx D m : Nat} {cv cx : Array Value} {r : RD} {O : Nat → Prop}
theorem CrDk.later (h : CrDk w w7 wr gx D cv cx r m O) (hb : Below wr.heap.size wr w') : CrDk w w7 w' gx D cv cx r m O :=
  ⟨h.st.later hb, h.disk.later hb, h.kept.trans (hb.mono h.disk.le), h.lo⟩
theorem CrDk.go (h : CrDk w w7 wr gx D cv cx r m O) {r' : RD} {m' : Nat} (hG : DGo wr w7.heap.size D O r' m' w') : ∃ O', CrDk w w7 w' gx D cv cx r' m' O' := by
  have h1 := hG.blk2 h.disk h.st.bV nd_ver
  have h2 := hG.blk2 h.disk h.st.bX nd_ver
  have h3 := hG.base h.disk h.st.base h.lo
  have h4 := hG.base h.disk h.kept (Nat.le_refl _)
  obtain ⟨O', hD, _, _⟩ := hG
  exact ⟨O', ⟨h1, h2, h3⟩, hD, h4, h.lo⟩
theorem CrDk.at_ (h : CrDk w w7 wr gx D cv cx r m O) : At w7 wr D r m := h.disk.at_ h.kept
theorem CrDk.own (h : CrDk w w7 wr gx D cv cx r m O) {r' : RD} {m' B : Nat} (hG : DGo wr w7.heap.size D O r' m' w') {v : Value} {x : Ver} (ho : VerOwn B wr v x) : VerOwn B w' v x := by
  obtain ⟨sv, e, ho⟩ := ho
  exact ⟨sv, e, hG.row2 h.disk ho nd_tbl⟩
end
theorem VerOwn.five {B : Nat} {w : World} {v : Value} {x : Ver} (h : VerOwn B w v x) : ∃ (p : Option Addr) (n c : Nat) (f g l m : Int), v = .agg #[.slice p n c, .int .u64 f, .int .u64 g, .int .i64 l, .int .i64 m] := by
  obtain ⟨p, c, rfl, _⟩ := h.agg
  exact ⟨_, _, _, _, _, _, _, rfl⟩
def vcells (p : Option Addr) (n c : Nat) (v : Ver) : Array Value := #[.slice p n c, .int .u64 v.floor, .int .u64 v.head, .int .i64 v.log, .int .i64 v.next]
/-- what a version says, within the bounds that Same asks for -/
def VLim (x : Ver) : Prop := x.tables.length ≤ 1000000 ∧ (∀ t ∈ x.tables, t.lang) ∧ (x.floor < 18446744073709551616 ∧ x.head < 18446744073709551616 ∧ -9223372036854775808 ≤ x.log ∧ x.log < 9223372036854775808 ∧ -9223372036854775808 ≤ x.next ∧ x.next < 9223372036854775808)
theorem VerIs.lim_up {w : World} {vv : Value} {v : Ver} (h : VerIs w vv v) (hn : v.next ≤ 1000000) : VLim v.up := by
  obtain ⟨n1, n2, n3, n4, n5, n6⟩ := h.nums
  exact ⟨h.len, h.lang, n1, n2, n3, n4, by show -9223372036854775808 ≤ v.next + 1; omega, by show v.next + 1 < 9223372036854775808; omega⟩
theorem crash_tidy {v u : Ver} (hv : Fit v) (hu : Fit u) (hne : v.next < u.next) (n : Int) (keep : List UInt8) :
    ∃ E x y k j, (startR ((startR crashR0 v).1.fused n) u).2 = (x, k, E) ∧ loadR ((startR ((startR crashR0 v).1.fused n) u).1.crash keep) = (y, j, 0) ∧ ((E = 0 ∧ y = u.up) ∨ (E = 6 ∧ (y = v.up ∨ y = u.up))) ∧
    ∀ s, (((startR ((startR crashR0 v).1.fused n) u).1.crash keep).readB s).length ≤ 200000 := by
  obtain ⟨h, hr⟩ := crash_sum hv hu hne n keep
  rcases h with ⟨h1, h2⟩ | ⟨h1, h2 | h2⟩
  · exact ⟨_, _, _, _, _, h1, h2, .inl ⟨rfl, rfl⟩, hr⟩
  · exact ⟨_, _, _, _, _, h1, h2, .inr ⟨rfl, .inl rfl⟩, hr⟩
  · exact ⟨_, _, _, _, _, h1, h2, .inr ⟨rfl, .inr rfl⟩, hr⟩
set_option maxHeartbeats 8000000 in
set_option maxRecDepth 100000 in
theorem filesCrash_calls (p q pk : Option Addr) (c d ck : Nat) (v u : Ver) (fz : Nat) (keep : List UInt8) (w : World) (hs : StdF w) (hv : VerArg w p c v) (hu : VerArg w q d u) (hf : fz < 256) (hk : Bytes w (.slice pk keep.length ck) keep) (hkl : ∀ g, (Value.slice pk keep.length ck).ownBlock = some g → keep ≠ [] → g < w.heap.size) :
    Calls Tryz.prog 6 #[.agg #[.slice p v.tables.length c, .int .u64 v.floor, .int .u64 v.head, .int .i64 v.log, .int .i64 v.next], .agg #[.slice q u.tables.length d, .int .u64 u.floor, .int .u64 u.head, .int .i64 u.log, .int .i64 u.next], .int .u8 fz, .slice pk keep.length ck] w (LawTrue w) := by
  obtain ⟨W1, hW1⟩ : ∃ W1, w.alloc (.cells #[.slice p v.tables.length c, .int .u64 v.floor, .int .u64 v.head, .int .i64 v.log, .int .i64 v.next] 30) = W1 := ⟨_, rfl⟩
  have bV1 : Blk W1 w.heap.size 30 #[.slice p v.tables.length c, .int .u64 v.floor, .int .u64 v.head, .int .i64 v.log, .int .i64 v.next] := by rw [← hW1]; exact Blk.new w _ _
  have hb1 : Below w.heap.size w W1 := by rw [← hW1]; exact (Below.refl _ w).alloc (Nat.le_refl _) _
  obtain ⟨W2, hW2⟩ : ∃ W2, W1.alloc (.cells #[.slice q u.tables.length d, .int .u64 u.floor, .int .u64 u.head, .int .i64 u.log, .int .i64 u.next] 30) = W2 := ⟨_, rfl⟩
  have hb2 : Below W1.heap.size W1 W2 := by rw [← hW2]; exact (Below.refl _ W1).alloc (Nat.le_refl _) _
  have bX2 : Blk W2 W1.heap.size 30 #[.slice q u.tables.length d, .int .u64 u.floor, .int .u64 u.head, .int .i64 u.log, .int .i64 u.next] := by rw [← hW2]; exact Blk.new W1 _ _
  have bV2 := bV1.below hb2 bV1.lt
  have hB2 := hb1.trans (hb2.mono hb1.size)
  obtain ⟨gx, hgx⟩ : ∃ g, W1.heap.size = g := ⟨_, rfl⟩
  rw [hgx] at bX2
  have S2 : CrAt w W2 gx #[.slice p v.tables.length c, .int .u64 v.floor, .int .u64 v.head, .int .i64 v.log, .int .i64 v.next] #[.slice q u.tables.length d, .int .u64 u.floor, .int .u64 u.head, .int .i64 u.log, .int .i64 u.next] := ⟨bV2, bX2, hB2⟩
  have hF := Lib.hid (fixed21_calls W2 (hs.next hB2))
  have hv0 := Lib.hid hv
  have hu0 := Lib.hid hu
  have hs0 := Lib.hid hs
  have hk0 := Lib.hid hk
  have hkl0 := Lib.hid hkl
  clear hv hu hs hk hkl hB2 bV2 bX2 hb1 hb2 bV1
  obtain ⟨N1, hN1⟩ : ∃ N, v.tables.length = N := ⟨_, rfl⟩
  obtain ⟨N2, hN2⟩ : ∃ N, u.tables.length = N := ⟨_, rfl⟩
  obtain ⟨K, hK⟩ : ∃ K, keep.length = K := ⟨_, rfl⟩
  have hN1' := Lib.hid hN1
  have hN2' := Lib.hid hN2
  have hK' := Lib.hid hK
  rw [hN1, hN2] at S2
  rw [hN1] at hW1 ⊢
  rw [hN2] at hW2 ⊢
  rw [hK] at hk0 hkl0 ⊢
  have S2' := Lib.hid S2
  clear hN1 hN2 hK S2
  go_enter Tryz.func6, Tryz.ntmps6
  go_wp2_with fail
  refine hF.out.mono ?_
  rintro e w3 ⟨rfl, b3⟩
  have S3 := Lib.hid (S2'.out.later b3)
  have hC := few21_calls _ v w3 (hv0.out.later S3.out.base).is hv0.out.slim
  obtain ⟨F1, hF1⟩ : ∃ F, v.few = F := ⟨_, rfl⟩
  rw [hF1, hN1'.out] at hC
  have hF1' := Lib.hid hF1
  have hC' := Lib.hid hC
  have cV3 := S3.out.bV.cell
  clear b3 hF1 hC hF S2'
  go_wp2_with fail
  refine hC'.out.mono ?_
  rintro e w4 ⟨rfl, b4⟩
  have S4 := Lib.hid (S3.out.later b4)
  clear b4 hC' S3 cV3
  cases F1 with
  | false =>
    go_wp2_with fail
    go_ret
    exact ⟨rfl, S4.out.base⟩
  | true =>
    have hC := few21_calls _ u w4 (hu0.out.later S4.out.base).is hu0.out.slim
    obtain ⟨F2, hF2⟩ : ∃ F, u.few = F := ⟨_, rfl⟩
    rw [hF2, hN2'.out] at hC
    have hF2' := Lib.hid hF2
    have hC' := Lib.hid hC
    have cX4 := S4.out.bX.cell
    clear hC hF2
    go_wp2_with fail
    refine hC'.out.mono ?_
    rintro e w5 ⟨rfl, b5⟩
    have S5 := Lib.hid (S4.out.later b5)
    clear b5 hC' S4 cX4
    cases F2 with
    | false =>
      go_wp2_with fail
      go_ret
      exact ⟨rfl, S5.out.base⟩
    | true =>
      by_cases hKb : 100 < K
      · have hKb' : (100 : Int) < (K : Int) := by omega
        go_wp2_with fail
        go_ret
        exact ⟨rfl, S5.out.base⟩
      · have hKb' : ¬ (100 : Int) < (K : Int) := by omega
        have hC := check16_calls _ v w5 (hv0.out.later S5.out.base).is (hv0.out.later S5.out.base).capOk
        obtain ⟨F3, hF3⟩ : ∃ F, v.ok = F := ⟨_, rfl⟩
        rw [hF3, hN1'.out] at hC
        have hF3' := Lib.hid hF3
        have cV5 := S5.out.bV.cell
        cases F3 with
        | false =>
          have hC : Calls Tryz.prog 15 #[.agg #[.slice p N1 c, .int .u64 v.floor, .int .u64 v.head, .int .i64 v.log, .int .i64 v.next]] w5 (ErrPost w5 9) := hC
          have hC' := Lib.hid hC
          clear hC hF3
          go_wp2_with fail
          refine hC'.out.mono ?_
          rintro e w6 ⟨rfl, b6⟩
          have hB6 := Lib.hid (S5.out.later b6).base
          clear b6
          go_wp2_with fail
          go_ret
          exact ⟨rfl, hB6.out⟩
        | true =>
          have hC : Calls Tryz.prog 15 #[.agg #[.slice p N1 c, .int .u64 v.floor, .int .u64 v.head, .int .i64 v.log, .int .i64 v.next]] w5 (ErrPost w5 0) := hC
          have hC' := Lib.hid hC
          clear hC hF3
          go_wp2_with fail
          refine hC'.out.mono ?_
          rintro e w6 ⟨rfl, b6⟩
          have S6 := Lib.hid (S5.out.later b6)
          clear b6 hC' S5 cV5
          have hC := check16_calls _ u w6 (hu0.out.later S6.out.base).is (hu0.out.later S6.out.base).capOk
          obtain ⟨F4, hF4⟩ : ∃ F, u.ok = F := ⟨_, rfl⟩
          rw [hF4, hN2'.out] at hC
          have hF4' := Lib.hid hF4
          have cX6 := S6.out.bX.cell
          cases F4 with
          | false =>
            have hC : Calls Tryz.prog 15 #[.agg #[.slice q N2 d, .int .u64 u.floor, .int .u64 u.head, .int .i64 u.log, .int .i64 u.next]] w6 (ErrPost w6 9) := hC
            have hC' := Lib.hid hC
            clear hC hF4
            go_wp2_with fail
            refine hC'.out.mono ?_
            rintro e w7 ⟨rfl, b7⟩
            have hB7 := Lib.hid (S6.out.later b7).base
            clear b7
            go_wp2_with fail
            go_ret
            exact ⟨rfl, hB7.out⟩
          | true =>
            have hC : Calls Tryz.prog 15 #[.agg #[.slice q N2 d, .int .u64 u.floor, .int .u64 u.head, .int .i64 u.log, .int .i64 u.next]] w6 (ErrPost w6 0) := hC
            have hC' := Lib.hid hC
            clear hC hF4
            go_wp2_with fail
            refine hC'.out.mono ?_
            rintro e w7 ⟨rfl, b7⟩
            have S7 := Lib.hid (S6.out.later b7)
            clear b7 hC' S6 cX6
            have cV7 := S7.out.bV.cell
            have cX7 := S7.out.bX.cell
            by_cases hge : u.next ≤ v.next
            · go_wp2_with fail
              go_ret
              exact ⟨rfl, S7.out.base⟩
            · by_cases hbig : 1000000 < u.next
              · go_wp2_with fail
                go_ret
                exact ⟨rfl, S7.out.base⟩
              · obtain ⟨hk1, _, _⟩ := Ver.ok_iff.1 hF3'.out
                have hn1 : 1 ≤ v.next := by
                  unfold Ver.headOk at hk1
                  simp only [Bool.and_eq_true, decide_eq_true_eq] at hk1
                  exact hk1.1.1.1.1
                have hvI := (hv0.out.later S7.out.base).is
                have huI := (hu0.out.later S7.out.base).is
                have hfv : Fit v := ⟨hF3'.out, by unfold fname; rw [if_pos ⟨rfl, by omega, by omega⟩]; exact List.cons_ne_nil _ _, bulk_few hF1'.out hvI.lang hvI.nums, whole_fits (up_ok hF3'.out (by omega)) ⟨hvI.nums.1, hvI.nums.2.1⟩ (by have := few_tables hF1'.out; show v.tables.length ≤ _; omega) (few_sizes hF1'.out)⟩
                have hfu : Fit u := ⟨hF4'.out, by unfold fname; rw [if_pos ⟨rfl, by omega, by omega⟩]; exact List.cons_ne_nil _ _, bulk_few hF2'.out huI.lang huI.nums, whole_fits (up_ok hF4'.out (by omega)) ⟨huI.nums.1, huI.nums.2.1⟩ (by have := few_tables hF2'.out; show u.tables.length ≤ _; omega) (few_sizes hF2'.out)⟩
                have hlv := Lib.hid (hvI.lim_up (by omega))
                have hlu := Lib.hid (huI.lim_up (by omega))
                obtain ⟨nf, hnf⟩ : ∃ n, fz % 16 = n := ⟨_, rfl⟩
                have hnl : nf < 16 := by omega
                have r1 : ((fz : Int)).tmod 16 = (nf : Int) := by rw [Int.tmod_eq_emod_of_nonneg (by omega)]; omega
                have r1b : ((fz : Int)) % 16 = (nf : Int) := by omega
                have r2 : IntKind.u8.wrap (nf : Int) = (nf : Int) := (show ∀ n : Nat, n < 16 → IntKind.u8.wrap (n : Int) = (n : Int) by decide) nf hnl
                have r3 : IntKind.i64.wrap (nf : Int) = (nf : Int) := IntWalk.i64_in _ (by omega)
                have hct := Lib.hid (crash_tidy hfv hfu (by omega) (nf : Int) keep)
                have hfv' := Lib.hid hfv
                have hfu' := Lib.hid hfu
                clear hk1 hvI huI hfv hfu hnf
                go_wp2_with fail
                refine (new_at 16777216 w7).mono ?_
                rintro e w8 ⟨rfl, h8⟩
                have h8 : At w7 w8 (w7.heap.size + 2) crashR0 0 := h8
                obtain ⟨D, hD_⟩ : ∃ D, w7.heap.size + 2 = D := ⟨_, rfl⟩
                have bl8 := h8.below
                obtain ⟨O, hDA⟩ := DAt.of_at h8
                rw [hD_] at hDA ⊢
                have K8 := Lib.hid (⟨S7.out.later bl8, hDA, bl8, S7.out.base.size⟩ : CrDk w w7 w8 gx D #[.slice p N1 c, .int .u64 v.floor, .int .u64 v.head, .int .i64 v.log, .int .i64 v.next] #[.slice q N2 d, .int .u64 u.floor, .int .u64 u.head, .int .i64 u.log, .int .i64 u.next] crashR0 0 O)
                have hC := start_calls K8.out.disk (hv0.out.later K8.out.st.base).is (hs0.out.next K8.out.st.base) (by have := few_tables hF1'.out; omega) (by have := hfv'.out.bulk; unfold Ver.bulk at this; omega) (few_sizes hF1'.out) (by omega)
                rw [hN1'.out] at hC
                have hC' := Lib.hid hC
                have cV8 := K8.out.st.bV.cell
                clear hC hDA hD_ h8 bl8 S7 cV7 cX7
                go_wp2_with fail
                refine hC'.out.mono ?_
                rintro e w9 ⟨v9, rfl, o9, hG9⟩
                rw [hfv'.out.new.err] at o9 ⊢
                have o9 : VerOwn w8.heap.size w9 v9 v.up := o9
                obtain ⟨ap, an, ac, a2, a3, a4, a5, rfl⟩ := o9.five
                obtain ⟨O9, K9⟩ := K8.out.go hG9
                obtain ⟨X9, hX9⟩ : ∃ X, w9.alloc (.cells #[.slice ap an ac, .int .u64 a2, .int .u64 a3, .int .i64 a4, .int .i64 a5] 30) = X := ⟨_, rfl⟩
                have hA9 : Below w9.heap.size w9 X9 := by rw [← hX9]; exact (Below.refl _ w9).alloc (Nat.le_refl _) _
                have bU : Blk X9 w9.heap.size 30 #[.slice ap an ac, .int .u64 a2, .int .u64 a3, .int .i64 a4, .int .i64 a5] := by rw [← hX9]; exact Blk.new w9 _ _
                obtain ⟨U, hU⟩ : ∃ U, w9.heap.size = U := ⟨_, rfl⟩
                rw [hU] at bU
                have KX := Lib.hid (K9.later hA9)
                have oX := Lib.hid (o9.later hA9)
                have bUX := Lib.hid bU
                obtain ⟨R1, hR1⟩ : ∃ R, (startR crashR0 v).1 = R := ⟨_, rfl⟩
                rw [hR1] at KX hct
                have hC2 := Lib.hid (fuse_do KX.out.disk (nf : Int) (by omega))
                have hX9' := Lib.hid hX9
                have hU' := Lib.hid hU
                clear hC' K8 cV8 hG9 o9 K9 hA9 bU hX9 hU hR1
                rw [show ((v.up, v.next, (0 : Int)) : Ver × Int × Int).2.1 = v.next from rfl, show ((v.up, v.next, (0 : Int)) : Ver × Int × Int).2.2 = 0 from rfl]
                go_wp2_with fail
                rw [hX9'.out]
                refine hC2.out.mono ?_
                rintro e w10 ⟨rfl, hG10⟩
                rw [hU'.out]
                obtain ⟨O10, K10⟩ := KX.out.go hG10
                have bU10 := Lib.hid (hG10.blk2 KX.out.disk bUX.out nd_ver)
                have o10 := Lib.hid (KX.out.own hG10 oX.out)
                have K10' := Lib.hid K10
                obtain ⟨R2, hR2⟩ : ∃ R, R1.fused (nf : Int) = R := ⟨_, rfl⟩
                rw [hR2] at K10' hct
                have hC := start_calls K10'.out.disk (hu0.out.later K10'.out.st.base).is (hs0.out.next K10'.out.st.base) (by have := few_tables hF2'.out; omega) (by have := hfu'.out.bulk; unfold Ver.bulk at this; omega) (few_sizes hF2'.out) (by omega)
                rw [hN2'.out] at hC
                have hC' := Lib.hid hC
                have cX10 := K10'.out.st.bX.cell
                clear hC KX bUX oX hC2 hX9' hG10 K10 hR2 hU'
                go_wp2_with fail
                refine hC'.out.mono ?_
                rintro e w11 ⟨v11, rfl, o11, hG11⟩
                obtain ⟨E, x, y, k, j, e1, e2, hcase, hrd⟩ := hct.out
                rw [e1] at o11 ⊢
                rw [show ((x, k, E) : Ver × Int × Int).2.1 = k from rfl, show ((x, k, E) : Ver × Int × Int).2.2 = E from rfl]
                obtain ⟨xp, xn, xc, x2, x3, x4, x5, rfl⟩ := o11.five
                obtain ⟨O11, K11⟩ := K10'.out.go hG11
                have bU11 := hG11.blk2 K10'.out.disk bU10.out nd_ver
                have oU11 := K10'.out.own hG11 o10.out
                obtain ⟨X11, hX11⟩ : ∃ X, w11.alloc (.cells #[.slice xp xn xc, .int .u64 x2, .int .u64 x3, .int .i64 x4, .int .i64 x5] 30) = X := ⟨_, rfl⟩
                have hA11 : Below w11.heap.size w11 X11 := by rw [← hX11]; exact (Below.refl _ w11).alloc (Nat.le_refl _) _
                have KY := Lib.hid (K11.later hA11)
                have bUY := Lib.hid (bU11.below hA11 bU11.lt)
                have oUY := Lib.hid (oU11.later hA11)
                obtain ⟨R3, hR3⟩ : ∃ R, (startR R2 u).1 = R := ⟨_, rfl⟩
                rw [hR3] at KY e2 hrd
                have e2' := Lib.hid e2
                have hrd' := Lib.hid hrd
                have hcase' := Lib.hid hcase
                have hC := crash_do KY.out.disk (hk0.out.later KY.out.st.base) (fun g hg hne => ⟨fun ho => by
                  have h1 := hkl0.out g hg hne
                  have h2 := (KY.out.disk.lt g ho).1
                  have h3 := KY.out.lo
                  omega, Nat.lt_of_lt_of_le (hkl0.out g hg hne) KY.out.st.base.size⟩) (by omega) (by rw [hK'.out]; omega)
                have hC2 := Lib.hid hC
                have hX11' := Lib.hid hX11
                clear hC' K10' cX10 hG11 o11 K11 hA11 hX11 hR3 bU11 oU11 bU10 o10 hC e1 e2 hrd hct hcase
                go_wp2_with fail
                rw [hX11'.out]
                refine hC2.out.mono ?_
                rintro e w12 ⟨rfl, hG12⟩
                obtain ⟨O12, K12⟩ := KY.out.go hG12
                have bU12 := Lib.hid (hG12.blk2 KY.out.disk bUY.out nd_ver)
                have oU12 := Lib.hid (KY.out.own hG12 oUY.out)
                have hC := load_calls K12.at_ (by omega) hrd'.out (hs0.out.next K12.st.base)
                rw [e2'.out] at hC
                have hC' := Lib.hid hC
                have K12' := Lib.hid K12
                clear hC KY bUY oUY hC2 hX11' hG12 K12
                go_wp2_with fail
                refine hC'.out.mono ?_
                rintro e w13 ⟨v13, rfl, o13, b13⟩
                rw [show ((y, j, (0 : Int)) : Ver × Int × Int).2.1 = j from rfl, show ((y, j, (0 : Int)) : Ver × Int × Int).2.2 = 0 from rfl]
                have o13 : VerOwn w12.heap.size w13 v13 y := o13
                obtain ⟨yp, yn, yc, y2, y3, y4, y5, rfl⟩ := o13.five
                have S13 := (K12'.out.later b13).st
                have bU13 := bU12.out.below b13 bU12.out.lt
                have oU13 := oU12.out.later b13
                have hw1 : IntKind.i64.wrap (u.next + 1) = u.next + 1 := IntWalk.i64_in _ (by omega)
                obtain ⟨X13, hX13⟩ : ∃ X, (w13.alloc (.cells #[.slice yp yn yc, .int .u64 y2, .int .u64 y3, .int .i64 y4, .int .i64 y5] 30)).alloc (.cells #[.slice q N2 d, .int .u64 u.floor, .int .u64 u.head, .int .i64 u.log, .int .i64 (u.next + 1)] 30) = X := ⟨_, rfl⟩
                have hA13 : Below w13.heap.size w13 X13 := by rw [← hX13]; exact ((Below.refl _ w13).alloc (Nat.le_refl _) _).alloc (by simp) _
                have bJ : Blk X13 w13.heap.size 30 #[.slice yp yn yc, .int .u64 y2, .int .u64 y3, .int .i64 y4, .int .i64 y5] := by rw [← hX13]; exact (Blk.new w13 _ _).alloc _
                have S14 := Lib.hid (S13.later hA13)
                have hylim : VLim y := by
                  rcases hcase'.out with ⟨_, rfl⟩ | ⟨_, rfl | rfl⟩
                  · exact hlu.out
                  · exact hlv.out
                  · exact hlu.out
                have iy := (o13.later hA13).is2 hylim.1 hylim.2.1 hylim.2.2
                have iu := Lib.hid ((oU13.later hA13).is2 hlv.out.1 hlv.out.2.1 hlv.out.2.2)
                have iw : VerIs X13 (.agg #[.slice q N2 d, .int .u64 u.floor, .int .u64 u.head, .int .i64 u.log, .int .i64 (u.next + 1)]) u.up := by
                  obtain ⟨⟨p', c', e, hAt⟩, _, _, _⟩ := (hu0.out.later S14.out.base).is
                  obtain ⟨e1, e2⟩ : q = p' ∧ d = c' := by
                    injection e with e
                    have := congrArg (fun a => a[0]?) e
                    simp only [List.getElem?_toArray, List.getElem?_cons_zero, Option.some.injEq] at this
                    injection this with e1 _ e2
                    exact ⟨e1, e2⟩
                  subst e1 e2
                  exact ⟨⟨q, d, by rw [← hN2'.out]; rfl, hAt⟩, hlu.out.1, hlu.out.2.1, hlu.out.2.2⟩
                have c14 := Lib.hid (same21_calls _ _ _ _ _ iy iw)
                have iy' := Lib.hid iy
                have bJ' := Lib.hid bJ
                have bU14 := Lib.hid (bU13.below hA13 bU13.lt)
                have hX13' := Lib.hid hX13
                have cX13 := S13.bX.cell
                have lX13 := S13.bX.lt
                clear hC' K12' bU12 oU12 o13 b13 S13 bU13 oU13 hX13 hA13 bJ hylim iy iw
                rcases hcase'.out with ⟨rfl, hy⟩ | ⟨rfl, hy⟩
                · go_wp2_with fail
                  rw [hX13'.out]
                  refine c14.out.mono ?_
                  rintro e w15 ⟨b, rfl, hbt, hb15⟩
                  obtain rfl : b = true := hbt.2 hy
                  have b15 := Lib.hid ((S14.out.later hb15).base)
                  clear hb15 hbt
                  go_wp2_with fail
                  go_ret
                  exact ⟨rfl, b15.out⟩
                · go_wp2_with fail
                  rw [hX13'.out]
                  refine c14.out.mono ?_
                  rintro e w15 ⟨b, rfl, hbt, hb15⟩
                  cases b with
                  | true =>
                    have b15 := Lib.hid ((S14.out.later hb15).base)
                    clear hb15 hbt
                    go_wp2_with fail
                    go_ret
                    exact ⟨rfl, b15.out⟩
                  | false =>
                    have hyv : y = v.up := by
                      rcases hy with h | h
                      · exact h
                      · have := hbt.2 h; cases this
                    have c15 := Lib.hid (same21_calls _ _ _ _ _ (iy'.out.later hb15) (iu.out.later hb15))
                    have S15 := Lib.hid (S14.out.later hb15)
                    have cJ := (bJ'.out.below hb15 bJ'.out.lt).cell
                    have cU := (bU14.out.below hb15 bU14.out.lt).cell
                    have hyv' := Lib.hid hyv
                    clear hb15 hbt hy hyv c14 hcase'
                    go_wp2_with fail
                    refine c15.out.mono ?_
                    rintro e w16 ⟨b, rfl, hbt, hb16⟩
                    obtain rfl : b = true := hbt.2 hyv'.out
                    have b16 := Lib.hid ((S15.out.later hb16).base)
                    clear hb16 hbt
                    go_wp2_with fail
                    go_ret
                    exact ⟨rfl, b16.out⟩
end Go.Proofs.YtabcdodjkfknlaaGreatDoor
namespace Go.Proofs.YtabcdodjkfknlaaGreatDoor
open Go.ChangeShapes Go.WideShapes Go.ChangeAt Go.RowKit Go.Deep
theorem cellsU8 : Tryz.prog.cellsOf 5 = 1 := by kernel_rfl
section
variable {H : Type} {enc : TypeId × Value → H} {w : World} {base : Nat} {spare : Nat → Bool} {held : Bool}
theorem open_bytes01 {fuel : Nat} {c3 : Value} {x : DataW H × List MemPlace} (h : DataW.trod enc Tryz.prog w base spare held fuel 43 [c3] = some x) :
    ∃ l : List UInt8, Bytes w c3 l ∧ l.length ≤ maxLen ∧ ∀ j, c3.ownBlock = some j → l ≠ [] → j < w.heap.size := by
  rcases open_ints Tryz.underlying43 Tryz.underlying5 cellsU8 h with ⟨hcs, _⟩ | ⟨a, len, cap, zs, hcs, _, hl, hm, hz, _, hcell, hwz⟩
  · simp at hcs
    subst hcs
    exact ⟨[], .inl (.inl ⟨rfl, rfl⟩), Nat.zero_le _, fun j hj => (by cases hj)⟩
  · simp at hcs
    subst hcs
    have hlz : len ≤ zs.length := by rw [hz]; split <;> omega
    by_cases h0 : len = 0
    · subst h0
      exact ⟨[], .inr ⟨a, cap, rfl, rfl⟩, Nat.zero_le _, fun j _ hp => absurd rfl hp⟩
    · obtain ⟨ab, ao, spot⟩ := a
      have hspot : spot = none := by simpa [Addr.add] using World.cell?_spot (hcell 0 (by omega))
      subst hspot
      have hlt : ab < w.heap.size := by
        have := World.block_lt_of_cell? w _ (hcell 0 (by omega))
        rwa [Addr.add_lit] at this
      refine ⟨(zs.take len).map fun n => UInt8.ofNat n.toNat, .inl (.inr ⟨ab, ao, cap, ?_, ?_, fun i y hy => ?_⟩), ?_, fun j hj _ => ?_⟩
      · rw [List.length_map, List.length_take, Nat.min_eq_left hlz]
      · rw [List.length_map, List.length_take]; omega
      · rw [List.getElem?_map, List.getElem?_take] at hy
        split at hy
        · rename_i hi
          have hzi : zs[i]? = some zs[i] := List.getElem?_eq_getElem (by omega)
          rw [hzi] at hy
          obtain rfl := Option.some.inj hy
          have hc := hcell i (by omega)
          rw [Addr.add_lit, List.getD_eq_getElem?_getD, hzi] at hc
          obtain ⟨m, hm1, hm2⟩ := u8_nat (hwz zs[i] (List.getElem_mem _))
          rw [hc]
          simp only [Option.getD_some]
          rw [hm1]
          simp only [Int.toNat_natCast, UInt8.toNat_ofNat']
          rw [Nat.mod_eq_of_lt hm2]
        · cases hy
      · rw [List.length_map, List.length_take]; omega
      · obtain rfl := Option.some.inj hj; exact hlt
end
def fcrashArgs : Array Value := #[.agg #[.slice none 0 0, .int .u64 0, .int .u64 0, .int .i64 0, .int .i64 0], .agg #[.slice none 0 0, .int .u64 0, .int .u64 0, .int .i64 0, .int .i64 0], .int .u8 0, .slice none 0 0]
theorem fcrash_laid (os : Os) : laidMet Tryz.prog Rows.filesCrashUptoRow.laid ((laidWorld os).forCall (fun _ _ => 0) ⟨#[], fcrashArgs, []⟩).memory :=
  laidMet_of_run' 8 (by kernel_rfl) (by kernel_rfl)
theorem fcrash_reads (os : Os) {H : Type} (enc : TypeId × Value → H) : ∃ places, DataW.whole enc Tryz.prog ((laidWorld os).forCall (fun _ _ => 0) ⟨#[], fcrashArgs, []⟩).memory Tryz.f6.params.toList Rows.filesCrashSpec.vars false fcrashArgs.toList 8 = some ([.agg [.nil, .lit (.int .u64 0), .lit (.int .u64 0), .lit (.int .i64 0), .lit (.int .i64 0)], .agg [.nil, .lit (.int .u64 0), .lit (.int .u64 0), .lit (.int .i64 0), .lit (.int .i64 0)], .lit (.int .u8 0), .nil], [], places) :=
  ⟨[], by kernel_rfl⟩
set_option maxRecDepth 100000 in
theorem fcrash_lifted (os : Os) (started : os.Started) (H : Type) (enc : TypeId × Value → H) (F : Stop.Interp) :
    ReturnsInHanded {} Tryz.checked os 6 .any ((Rows.OpenSpec.upto Rows.filesCrashSpec).preRow enc Tryz.prog Tryz.f6 Rows.filesCrashUptoRow.domain false Rows.filesCrashUptoRow.laid) (((Rows.OpenSpec.upto Rows.filesCrashSpec).at F).post enc Tryz.prog Tryz.f6 false true false false) := by
  obtain ⟨places, hx⟩ := fcrash_reads os enc
  refine returnsInHanded_of_row (C := Tryz.checked) (s := Rows.OpenSpec.upto Rows.filesCrashSpec) own started (by kernel_rfl) Tryz.func6
    (witness_row_at (enc := enc) (C := Tryz.checked) false (laidWorld os) fcrashArgs rfl (by kernel_rfl) (by kernel_rfl) (by kernel_rfl)
      (OpenSpec.preRow_of_cond 8 hx (by kernel_rfl) (fun k hk => by cases hk; kernel_rfl) (by kernel_rfl) (fcrash_laid os))) ?_
  intro W base args ds gs before hval0 hW k1 k2 k3 hlaid hsh _
  have hval : ∀ (j : Nat) t v, Tryz.f6.params[j]? = some t → args[j]? = some v → Value.okWide Tryz.prog W .any base t v := hval0
  have hW' := hW
  obtain ⟨p, q, hA0, hV, rfl, hfz, hnd⟩ := hW
  have hA : DataW.TrodAll enc Tryz.prog W 0 (fun _ => true) true Tryz.f6.params.toList args.toList ds p := hA0
  rw [Tryz.params6] at hA hval
  obtain ⟨v0, v1, v2, v3, d0, d1, d2, d3, p0, p1, p2, p3, rfl, rfl, rfl, h0, h1, h2, h3⟩ := trodAll_four hA
  obtain ⟨rfl, rfl⟩ := trodVars_none hV
  have hcond : Rows.uptoSmall H [d0, d1, d2, d3] = true := by
    first
      | exact k1 _ rfl
      | exact k2 _ rfl
      | exact k3 _ rfl
  obtain ⟨cs0, rfl, hsz0⟩ := okWide_struct Tryz.underlying30 (hval 0 30 v0 rfl rfl)
  obtain ⟨cs1, rfl, hsz1⟩ := okWide_struct Tryz.underlying30 (hval 1 30 v1 rfl rfl)
  obtain ⟨n, rfl, rfl, rfl, hn⟩ := open_int Tryz.underlying5 (hval 2 5 v2 rfl rfl) h2
  obtain ⟨fz, rfl, hfz8⟩ := u8_nat hn
  obtain ⟨pk, nk, ck, rfl⟩ := okWide_slice Tryz.underlying43 (hval 3 43 v3 rfl rfl)
  have h0k := h0
  have h1k := h1
  have h3k := h3
  obtain ⟨fuel0, hf0⟩ := h0
  obtain ⟨fuel1, hf1⟩ := h1
  obtain ⟨fuel3, hf3⟩ := h3
  clear hA0 hval0
  simp only [List.append_nil] at hW'
  have hlt : ∀ x ∈ p0 ++ (p1 ++ p3), x.block < W.heap.size := fun x hx => by simpa using hW'.lt x (by simpa using hx)
  have hargs0 : ∀ (W' : World), Below W.heap.size W W' → DataW.Trod enc Tryz.prog W' 0 (fun b => decide (b < W.heap.size)) true 30 (.agg cs0) d0 p0 :=
    fun W' hn => Below.trod laidOut (by kernel_rfl) (of_decide_eq_true (by kernel_rfl)) h0k hn fun x hx => hlt x (List.mem_append.2 (.inl hx))
  have hargs1 : ∀ (W' : World), Below W.heap.size W W' → DataW.Trod enc Tryz.prog W' 0 (fun b => decide (b < W.heap.size)) true 30 (.agg cs1) d1 p1 :=
    fun W' hn => Below.trod laidOut (by kernel_rfl) (of_decide_eq_true (by kernel_rfl)) h1k hn fun x hx => hlt x (List.mem_append.2 (.inr (List.mem_append.2 (.inl hx))))
  have hargs3 : ∀ (W' : World), Below W.heap.size W W' → DataW.Trod enc Tryz.prog W' 0 (fun b => decide (b < W.heap.size)) true 43 (.slice pk nk ck) d3 p3 :=
    fun W' hn => Below.trod laidOut (by kernel_rfl) (of_decide_eq_true (by kernel_rfl)) h3k hn fun x hx => hlt x (List.mem_append.2 (.inr (List.mem_append.2 (.inr hx))))
  have hb : Rows.uptoBulk d0 + (Rows.uptoBulk d1 + (Rows.uptoBulk (.lit (.int .u8 (fz : Int)) : DataW H) + (Rows.uptoBulk d3 + 0))) ≤ 1048576 := of_decide_eq_true hcond
  simp only [Value.cells] at hf0 hf1
  obtain ⟨pv, cv, v, rfl, hv⟩ := open_ver (by simpa [cellsVer] using hsz0) hf0 (by show Rows.uptoBulk d0 ≤ _; omega)
  obtain ⟨pu, cu, u, rfl, hu⟩ := open_ver (by simpa [cellsVer] using hsz1) hf1 (by show Rows.uptoBulk d1 ≤ _; omega)
  obtain ⟨keep, hby, _, hkl⟩ := open_bytes01 hf3
  obtain ⟨pk', ck', e⟩ := hby.slice
  obtain ⟨rfl, rfl, rfl⟩ : pk = pk' ∧ nk = keep.length ∧ ck = ck' := by injection e with a b c; exact ⟨a, b, c⟩
  refine (filesCrash_calls pv pu pk cv cu ck v u fz keep W (std_of_laid hlaid hsh) hv hu hfz8 hby hkl).mono fun e W' ⟨he, hB⟩ => ?_
  subst he
  exact ⟨_, rfl, _, _, _, [], _, [], hW', trodAll_mk1 (shut_bool Tryz.underlying4 _), trodAll_mk4 (hargs0 _ hB) (hargs1 _ hB) (shut_int Tryz.underlying5 hn) (hargs3 _ hB), rfl, hB.frame _, fun h => by cases h⟩
theorem fcrash_said : Rows.FilesCrashUptoSaid :=
  OpenClaim.holds_of_cond 6 Tryz.f6 rfl rfl rfl rfl rfl rfl rfl ⟨rfl, rfl, rfl, rfl, rfl⟩ rfl rfl rfl rfl rfl (by kernel_rfl) Tryz.func6 (by kernel_rfl)
    (of_decide_eq_true (by kernel_rfl)) (by unfold Func.isWrapper; first | (rw [if_pos (by decide +kernel)]; kernel_rfl) | (rw [if_neg (by decide +kernel)]; exact ⟨rfl, rfl⟩))
    (fun os started H enc _ F => by rw [OpenClaim.pre_eq_preRow]; exact fcrash_lifted os started H enc F)
theorem fcrash_plain (f : FuncId) (fn : Func) (hf : Tryz.pinned.checked.prog.funcNamed "sentry/sentrylaw21.FilesCrash" = some f) (hfn : Tryz.pinned.checked.prog.funcs[f]? = some fn) :
    true = Tryz.pinned.checked.prog.looks [] ∧ ∀ (j : Nat) t, fn.params[j]? = some t → Tryz.pinned.checked.prog.wantsStandIn t = false := by
  obtain rfl : f = 6 := Option.some.inj ((show Tryz.prog.funcNamed "sentry/sentrylaw21.FilesCrash" = some 6 by kernel_rfl).symm.trans hf) |>.symm
  obtain rfl : fn = Tryz.f6 := (Option.some.inj (Tryz.func6.symm.trans hfn)).symm
  refine ⟨by kernel_rfl, fun j t ht => ?_⟩
  rw [Tryz.params6] at ht
  have hm : t = 30 ∨ t = 30 ∨ t = 5 ∨ t = 43 := by simpa using Array.mem_of_getElem? ht
  rcases hm with rfl | rfl | rfl | rfl
  · exact (show Tryz.prog.wantsStandIn 30 = false by kernel_rfl)
  · exact (show Tryz.prog.wantsStandIn 30 = false by kernel_rfl)
  · exact (show Tryz.prog.wantsStandIn 5 = false by kernel_rfl)
  · exact (show Tryz.prog.wantsStandIn 43 = false by kernel_rfl)
theorem fcrash_card : Rows.FilesCrashUptoCardSaid :=
  Claim7.holds_tied_plain_at .later [] _ _ _ _ fcrash_said (fun _ h => by cases h) (by kernel_rfl) (fun _ h => by cases h) filesCrashUpto_row_tie rfl ⟨rfl, rfl⟩ (by kernel_rfl) rfl fcrash_plain (by kernel_rfl)
#print axioms fcrash_card
end Go.Proofs.YtabcdodjkfknlaaGreatDoor
