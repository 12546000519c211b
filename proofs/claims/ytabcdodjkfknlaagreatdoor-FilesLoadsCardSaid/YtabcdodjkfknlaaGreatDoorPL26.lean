/- Load: a manifest's bytes and the version so far, in memory. Walks: Load. -/
import Derived.Test.YtabcdodjkfknlaaGreatDoorPL15
namespace Go.Proofs.YtabcdodjkfknlaaGreatDoor
open Go.RowKit
/-- bytes left and the version so far -/
structure LoAt (w wr : World) (V : Nat) (p : Option Addr) (n c : Nat) (bl : List UInt8) (v : Ver) : Prop where
  below : Below w.heap.size w wr
  bz : Blk wr w.heap.size 30 vZero
  bytes : Bytes wr (.slice p n c) bl
  low : ∀ g, (Value.slice p n c).ownBlock = some g → bl ≠ [] → g < V
  row : ∃ sv, Blk wr V 30 #[sv, .int .u64 v.floor, .int .u64 v.head, .int .i64 v.log, .int .i64 v.next] ∧ rkT.Own w.heap.size wr sv v.tables
  hV : w.heap.size < V
  good : v.good (200000 - bl.length)
  len : bl.length ≤ 200000
section
variable {w wr w' : World} {V : Nat} {p : Option Addr} {n c : Nat} {bl : List UInt8} {v v' : Ver}
theorem LoAt.later (h : LoAt w wr V p n c bl v) (hb : Below wr.heap.size wr w') : LoAt w w' V p n c bl v := by
  obtain ⟨h1, h2, h3, h4, ⟨sv, h5, h6⟩, h7, h8, h9⟩ := h
  exact ⟨h1.trans (hb.mono h1.size), h2.below hb h2.lt, h3.later hb, h4, ⟨sv, h5.below hb h5.lt, h6.later hb⟩, h7, h8, h9⟩
theorem LoAt.cut (h : LoAt w wr V p n c bl v) {i : Nat} (hi : i ≤ n) (hg : v.good (200000 - (bl.drop i).length)) : LoAt w wr V (if c = i then p else p.map (·.add i)) (n - i) (c - i) (bl.drop i) v := by
  obtain ⟨h1, h2, h3, h4, h5, h7, h8, h9⟩ := h
  refine ⟨h1, h2, h3.drop hi, ?_, h5, h7, hg, by rw [List.length_drop]; omega⟩
  intro g hg hl
  refine h4 g ?_ (fun e => by rw [e] at hl; simp at hl)
  cases p with
  | none => split at hg <;> cases hg
  | some a =>
    split at hg
    · exact hg
    · have : (Value.slice (some a) n c).ownBlock = (Value.slice (some (a.add i)) (n - i) (c - i)).ownBlock := by
        show some a.block = some (a.add i).block
        rw [addK_blk]
      rw [this]; exact hg
theorem LoAt.set_ (h : LoAt w wr V p n c bl v) {sv : Value} (ho : rkT.Own w.heap.size wr sv v'.tables) (hg : v'.good (200000 - bl.length)) :
    ∃ W, ((((wr.setCell ⟨V, 0, none⟩ sv).setCell ⟨V, 1, none⟩ (.int .u64 v'.floor)).setCell ⟨V, 2, none⟩ (.int .u64 v'.head)).setCell ⟨V, 3, none⟩ (.int .i64 v'.log)).setCell ⟨V, 4, none⟩ (.int .i64 v'.next) = W ∧ LoAt w W V p n c bl v' := by
  obtain ⟨h1, h2, h3, h4, ⟨s0, h5, h6⟩, h7, h8, h9⟩ := h
  obtain ⟨W, e, hb, hk⟩ := ver_set rfl h5 sv (.int .u64 v'.floor) (.int .u64 v'.head) (.int .i64 v'.log) (.int .i64 v'.next)
  refine ⟨W, e, h1.trans (hk.below (fun j _ e => by omega) h1.size), h2.keeps hk (fun e => by omega), h3.keepsP hk fun g hg hl e => by have := h4 g hg hl; omega, h4, ⟨sv, hb, ho.keeps hk fun j hj e => ho.blk_ne h5 (by decide) (by rw [hj, e])⟩, h7, hg, h9⟩
theorem LoAt.verIs (h : LoAt w wr V p n c bl v) : ∃ sp sc, Blk wr V 30 #[.slice sp v.tables.length sc, .int .u64 v.floor, .int .u64 v.head, .int .i64 v.log, .int .i64 v.next] ∧ rkT.Own w.heap.size wr (.slice sp v.tables.length sc) v.tables ∧ VerIs wr (.agg #[.slice sp v.tables.length sc, .int .u64 v.floor, .int .u64 v.head, .int .i64 v.log, .int .i64 v.next]) v := by
  obtain ⟨h1, h2, h3, h4, ⟨s0, h5, h6⟩, h7, h8, h9⟩ := h
  obtain ⟨sp, sc, rfl⟩ := h6.slice
  exact ⟨sp, sc, h5, h6, VerOwn.is ⟨_, rfl, h6⟩ h8 (by omega)⟩
end
theorem Edt.good.mono {e : Edt} {n m : Nat} (h : e.good n) (hn : n ≤ m) : e.good m := ⟨Nat.le_trans h.add hn, Nat.le_trans h.drop hn, h.lang, h.langI, h.nums⟩
theorem Ver.good.mono {e : Ver} {n m : Nat} (h : e.good n) (hn : n ≤ m) : e.good m := ⟨Nat.le_trans h.tables hn, h.lang, h.nums⟩
theorem first_good (n : Nat) : Ver.first.good n := ⟨Nat.zero_le _, fun _ h => (by cases h), by decide⟩
end Go.Proofs.YtabcdodjkfknlaaGreatDoor
namespace Go.Proofs.YtabcdodjkfknlaaGreatDoor
open Go.RowKit
attribute [local go_sem ↓] dapp_op dslK_op
attribute [local go_sem] Oper.semAt_some
abbrev currentB : ByteArray := ⟨#[99, 117, 114, 114, 101, 110, 116]⟩
abbrev freshB : ByteArray := ⟨#[99, 117, 114, 114, 101, 110, 116, 46, 110, 101, 119]⟩
/-- the answer that is only an error -/
theorem load_bad {w w1 : World} {E : Int} (hb : Below w.heap.size w w1) : LoadPost w (Ver.zero, 0, E) (.returned (.tuple #[.agg vZero, .int .i64 0, .int .i64 E])) w1 := ⟨_, rfl, VerOwn.zero _ _, hb⟩
def sliceLen (v : Value) : Nat := match v with | .slice _ n _ => n | _ => 0
set_option maxHeartbeats 4000000 in
set_option maxRecDepth 100000 in
theorem load_calls {w0 w : World} {D m : Nat} {r : RD} (h : At w0 w D r m) (hm : m ≤ 4000) (hb : ∀ s, (r.readB s).length ≤ 200000) (hs : StdF w) :
    Calls Tryz.prog 22 #[.pointer (some ⟨D, 0, none⟩)] w (LoadPost w (loadR r)) := by
  obtain ⟨X, hX⟩ : ∃ X, loadR r = X := ⟨_, rfl⟩
  rw [hX]
  unfold loadR at hX
  have hRd := fun W (hb : Below w.heap.size w W) (s : ByteArray) (hs : s.size ≤ maxLen) => read_at (h.later hb) s hm hs
  have hR1 := fun W (hb : Below w.heap.size w W) => hRd W hb currentB (by decide)
  have hR1 : ∀ W, Below w.heap.size w W → Calls Tryz.prog 59 #[.pointer (some ⟨D, 0, none⟩), .string currentB] W (ReadPost W (r.findE currentL) (r.readB currentL)) := hR1
  obtain ⟨b1, hb1⟩ : ∃ b, r.readB currentL = b := ⟨_, rfl⟩
  obtain ⟨e1, he1⟩ : ∃ e, r.findE currentL = e := ⟨_, rfl⟩
  have hl1 : b1.length ≤ 200000 := by rw [← hb1]; exact hb _
  rw [he1, hb1] at hX
  simp only [he1, hb1] at hR1
  have hAl := (Below.refl w.heap.size w).alloc (Nat.le_refl _) (.cells vZero 30)
  have bZ := Blk.new w 30 vZero
  have hR1' := Lib.hid (hR1 _ hAl)
  have hRd' := Lib.hid hRd
  have hAl' := Lib.hid hAl
  have bZ' := Lib.hid bZ
  have hs' := Lib.hid hs
  have hb' := Lib.hid hb
  clear hR1 hRd hAl bZ hs hb
  by_cases h0 : e1 = 0
  · subst h0
    rw [if_neg (by simp)] at hX
    obtain ⟨F, hfn⟩ : ∃ F, fnum b1 = F := ⟨_, rfl⟩
    rw [hfn] at hX
    have hNum : ∀ W, StdF W → Calls Tryz.prog 9 #[.string ⟨b1.toArray⟩] W fun e w' => e = .returned (.tuple (numV F)) ∧ Below W.heap.size W w' := fun W hW => by
      have hh := number_name_calls ⟨b1.toArray⟩ W (by rw [Lib.size_eq]; show b1.length ≤ _; omega) hW
      unfold NumPost_ at hh
      rw [show (⟨b1.toArray⟩ : ByteArray).data.toList = b1 from rfl, hfn] at hh
      exact hh
    cases F with
    | none =>
      have hX2 : (Ver.zero, (0 : Int), (9 : Int)) = X := hX
      subst hX2
      have hN1 : ∀ W, StdF W → Calls Tryz.prog 9 #[.string ⟨b1.toArray⟩] W fun e w' => e = .returned (.tuple #[.int .u8 0, .int .i64 0, .bool false]) ∧ Below W.heap.size W w' := hNum
      have hN2 := Lib.hid hN1
      clear hX hN1 hNum
      go_enter Tryz.func22, Tryz.ntmps22
      go_wp2_with (first
        | (go_at_call 59; (refine hR1'.out.mono ?_; rintro e w1 ⟨v1, rfl, o1, hb1⟩; have bZ1 := Lib.hid (bZ'.out.below hb1 bZ'.out.lt); have hb2 := Lib.hid (hAl'.out.trans (hb1.mono hAl'.out.size)); have hcv := bytes_string (Bytes.of_own o1); obtain ⟨p1, c1, rfl⟩ := own_slice o1; have hs1 := hs'.out.next hb2.out; clear o1 hb1))
        | (go_at_call 9; (refine (hN2.out w1 hs1).mono ?_; rintro e w2 ⟨rfl, hb3⟩; have hb4 := Lib.hid (hb2.out.trans (hb3.mono hb2.out.size)); have bZ2 := Lib.hid (bZ1.out.below hb3 bZ1.out.lt); have hs2 := hs1.next hb3; clear hb3; have cZ := bZ2.out.cell; have fZ := bZ2.out.frozen; obtain ⟨W9, hW9, bW9, kW9⟩ := ver_set rfl bZ2.out (.slice none 0 0) (.int .u64 0) (.int .u64 0) (.int .i64 0) (.int .i64 0))))
      have cW9 := bW9.cell
      refine bodyPost_ret (v := .tuple #[.agg vZero, .int .i64 0, .int .i64 9]) (by simp [results, Tryz.results22, go_sem, cW9]) rfl (load_bad (hb4.out.trans (kW9.below (fun j _ e => by omega) hb4.out.size)))
    | some kn =>
      obtain ⟨k, n⟩ := kn
      have hX2 : (if k ≠ 109 then (Ver.zero, (0 : Int), (9 : Int)) else if r.findE b1 ≠ 0 then (Ver.zero, 0, r.findE b1) else loadM n (r.readB b1)) = X := hX
      have hN1 : ∀ W, StdF W → Calls Tryz.prog 9 #[.string ⟨b1.toArray⟩] W fun e w' => e = .returned (.tuple #[.int .u8 k.toNat, .int .i64 n, .bool true]) ∧ Below W.heap.size W w' := hNum
      have hN2 := Lib.hid hN1
      clear hX hN1 hNum
      by_cases hk : k = 109
      · subst hk
        rw [if_neg (by simp)] at hX2
        have hN3 : ∀ W, StdF W → Calls Tryz.prog 9 #[.string ⟨b1.toArray⟩] W fun e w' => e = .returned (.tuple #[.int .u8 109, .int .i64 n, .bool true]) ∧ Below W.heap.size W w' := hN2.out
        clear hN2
        have hN2 := Lib.hid hN3
        clear hN3
        obtain ⟨e2, he2⟩ : ∃ e, r.findE b1 = e := ⟨_, rfl⟩
        obtain ⟨b2, hb2_⟩ : ∃ b, r.readB b1 = b := ⟨_, rfl⟩
        have hl2 : b2.length ≤ 200000 := by rw [← hb2_]; exact hb'.out _
        rw [he2, hb2_] at hX2
        have hR2 : ∀ W, Below w.heap.size w W → Calls Tryz.prog 59 #[.pointer (some ⟨D, 0, none⟩), .string ⟨b1.toArray⟩] W (ReadPost W e2 b2) := fun W hW => by
          have hh := hRd'.out W hW ⟨b1.toArray⟩ (by rw [Lib.size_eq]; show b1.length ≤ _; unfold maxLen; omega)
          rw [show (⟨b1.toArray⟩ : ByteArray).data.toList = b1 from rfl, he2, hb2_] at hh
          exact hh
        have hR2' := Lib.hid hR2
        clear hR2 hRd' hb'
        by_cases h2 : e2 = 0
        · subst h2
          rw [if_neg (by simp)] at hX2
          go_enter Tryz.func22, Tryz.ntmps22
          go_wp2_with (first
            | (go_at_call_of 59 (Value.string { data := #[99, 117, 114, 114, 101, 110, 116] }); (refine hR1'.out.mono ?_; rintro e w1 ⟨v1, rfl, o1, hb1⟩; have bZ1 := Lib.hid (bZ'.out.below hb1 bZ'.out.lt); have hb2 := Lib.hid (hAl'.out.trans (hb1.mono hAl'.out.size)); have hcv := bytes_string (Bytes.of_own o1); have hBy := Lib.hid (Bytes.of_own o1); obtain ⟨p1, c1, rfl⟩ := own_slice o1; have hs1 := hs'.out.next hb2.out; clear o1 hb1))
            | (go_at_call 9; (refine (hN2.out w1 hs1).mono ?_; rintro e w2 ⟨rfl, hb3⟩; have hb4 := Lib.hid (hb2.out.trans (hb3.mono hb2.out.size)); have bZ2 := Lib.hid (bZ1.out.below hb3 bZ1.out.lt); have hs2 := hs1.next hb3; have hcv2 := bytes_string (hBy.out.later hb3); clear hb3 hcv))
            | (go_at_call_of 59 (Value.string { data := b1.toArray }); (refine (hR2'.out w2 hb4.out).mono ?_; rintro e w3 ⟨v3, rfl, o3, hb5⟩; have bZ3 := Lib.hid (bZ2.out.below hb5 bZ2.out.lt); have hb6 := Lib.hid (hb4.out.trans (hb5.mono hb4.out.size)); obtain ⟨p3, c3, rfl⟩ := own_slice o3; have hs3 := hs2.next hb5; have o3' := Lib.hid o3; clear o3 hb5)))
          have hL0 : LoAt w (w3.alloc (.cells #[.slice none 0 0, .int .u64 0, .int .u64 0, .int .i64 0, .int .i64 1] 30)) w3.heap.size p3 b2.length c3 b2 Ver.first :=
            ⟨hb6.out.alloc hb6.out.size _, bZ3.out.alloc _, (Bytes.of_own o3'.out).later ((Below.refl _ _).alloc (Nat.le_refl _) _), fun g hg _ => (World.ownsRow.lt o3'.out g hg).2, ⟨.slice none 0 0, Blk.new _ _ _, RowK.Own.nil _ _ _⟩, bZ3.out.lt, first_good _, hl2⟩
          have hL0' := Lib.hid hL0
          obtain ⟨V, hV⟩ : ∃ V, w3.heap.size = V := ⟨_, rfl⟩
          rw [hV] at hL0' ⊢
          have hX2' := Lib.hid hX2
          clear hL0 hV o3' bZ3 hb6 hs3 hcv2 hBy hs2 hb4 bZ2 hs1 hb2 bZ1 hX2 hN2 hR2' hR1' hR1 hs' bZ' hAl'
          go_loopw [5, 11, 12, 13, 14, 15] (fun b s _ _ _ _ wr => ∃ (v : Ver) (sm : Bool) (bl : List UInt8) (p : Option Addr) (c : Nat), b = .slice p bl.length c ∧ s = .bool sm ∧ loadB Ver.first false b2 = loadB v sm bl ∧ LoAt w wr V p bl.length c bl v) (fun b _ _ _ _ _ _ => sliceLen b)
          case atStart => exact ⟨Ver.first, false, b2, p3, c3, rfl, rfl, rfl, hL0'.out⟩
          case round =>
            clear hL0'
            obtain ⟨v, sm, bl, p, c, rfl, rfl, hld, hL⟩ := hrel
            obtain ⟨wo, rfl⟩ : ∃ wo : World, wo = wr := ⟨_, rfl⟩
            have hN := Lib.hid (frame_next_calls _ bl wo hL.bytes (by have := hL.len; omega))
            have hL' := Lib.hid hL
            have hld' := Lib.hid hld
            obtain ⟨L, hLn⟩ : ∃ L, bl.length = L := ⟨_, rfl⟩
            rw [hLn] at hN hL'
            have hLn' := Lib.hid hLn
            clear hL hld
            rw [hLn]
            clear hLn
            go_wp2_with fail
            refine hN.out.mono ?_
            rintro e w4 ⟨hb4, ⟨he, rfl⟩ | ⟨he, pp, cc, rfl, oo⟩⟩
            · have hL4 := hL'.out.later hb4
              have hXe := hX2'.out
              unfold loadM at hXe
              rw [hld'.out, loadB_end he] at hXe
              have t1 : (((nextL bl).1 : Int) == 0) = false := by
                rw [beq_eq_false_iff_ne]; omega
              obtain ⟨E, hE⟩ : ∃ E : Int, ((nextL bl).1 : Int) = E := ⟨_, rfl⟩
              rw [hE] at t1 ⊢
              have hB4 := hL4.below
              obtain ⟨sp, sc, bV4, oV4, _⟩ := hL4.verIs
              have bZ4 := hL4.bz
              obtain ⟨N, hN2⟩ : ∃ N, v.tables.length = N := ⟨_, rfl⟩
              cases sm with
              | false =>
                have hX4 : (Ver.zero, (0 : Int), (9 : Int)) = X := hXe
                subst hX4
                obtain ⟨W9, hW9, bW9, kW9⟩ := ver_set rfl bZ4 (.slice none 0 0) (.int .u64 0) (.int .u64 0) (.int .i64 0) (.int .i64 0)
                have cZ := bZ4.cell
                have fZ := bZ4.frozen
                have bW9' := Lib.hid bW9
                have hB4' := Lib.hid hB4
                clear hb4 hL4 hXe hE hB4 bV4 oV4 bZ4 bW9 he hN hL' hld'
                go_wp2_with fail
                have cW9 := bW9'.out.cell
                refine bodyPost_ret (v := .tuple #[.agg vZero, .int .i64 0, .int .i64 9]) (by simp [results, Tryz.results22, go_sem, cW9]) rfl (load_bad (hB4'.out.trans (kW9.below (fun j _ e => by omega) hB4'.out.size)))
              | true =>
                have hX4 : (v, (n : Int), (0 : Int)) = X := hXe
                subst hX4
                rw [hN2] at bV4 oV4
                have hne := oV4.blk_ne bZ4 (by decide)
                obtain ⟨W9, hW9, bW9, kW9⟩ := ver_set rfl bZ4 (.slice sp N sc) (.int .u64 v.floor) (.int .u64 v.head) (.int .i64 v.log) (.int .i64 v.next)
                have cZ := bZ4.cell
                have fZ := bZ4.frozen
                have cV := bV4.cell
                have hV4 := hL4.hV
                have oW9 : VerOwn w.heap.size W9 (.agg #[.slice sp N sc, .int .u64 v.floor, .int .u64 v.head, .int .i64 v.log, .int .i64 v.next]) v := ⟨_, rfl, oV4.keeps kW9 fun j hj e => hne (by rw [hj, e])⟩
                have bW9' := Lib.hid bW9
                have oW9' := Lib.hid oW9
                have hB4' := Lib.hid hB4
                clear hb4 hL4 hXe hE hB4 bV4 oV4 bZ4 bW9 he hN hL' hld' oW9 hne hN2
                obtain ⟨tv, fv, dv, lv, xv⟩ := v
                simp only at cV hW9 bW9' oW9' kW9
                go_wp2_with fail
                have cW9 := bW9'.out.cell
                refine bodyPost_ret (v := .tuple #[.agg #[.slice sp N sc, .int .u64 fv, .int .u64 dv, .int .i64 lv, .int .i64 xv], .int .i64 n, .int .i64 0]) (by simp [results, Tryz.results22, go_sem, cW9]) rfl ⟨_, rfl, oW9'.out, hB4'.out.trans (kW9.below (fun j _ e => by omega) hB4'.out.size)⟩
            · have hL4 := hL'.out.later hb4
              obtain ⟨q, hq⟩ : ∃ q, (nextL bl).2 = q := ⟨_, rfl⟩
              have hql := nextL_len he
              rw [hq] at oo hql ⊢
              have hbl := hL4.len
              have hDec := decode_calls _ q w4 oo.bytes (by omega)
              have hgE := decodeE_good q
              have hBx := Lib.hid hL4.below
              have bZ4 := hL4.bz
              have t0 : (nextL bl).1 = 0 := he
              obtain ⟨I, hI⟩ : ∃ I, 8 + q.length = I := ⟨_, rfl⟩
              rw [hI] at hql ⊢
              obtain ⟨Q, hQ⟩ : ∃ Q, q.length = Q := ⟨_, rfl⟩
              rw [hQ] at hDec hgE hI oo ⊢
              obtain ⟨y, hy⟩ : ∃ y, decodeE q = y := ⟨_, rfl⟩
              rw [hy] at hDec hgE
              obtain ⟨x, de⟩ := y
              have hDec' := Lib.hid hDec
              have hgE' := Lib.hid hgE
              have hL4' := Lib.hid hL4
              have bZ4' := Lib.hid bZ4
              have ht0' := Lib.hid t0
              have hq' := Lib.hid hq
              have hy' := Lib.hid hy
              clear hb4 hL4 hDec hgE hL' hN oo bZ4 he t0 hq hy
              by_cases hde : de = 0
              · subst hde
                have hgx : x.good Q := hgE'.out
                go_wp2_with fail
                refine hDec'.out.mono ?_
                rintro e w5 ⟨v5, rfl, hEI, hb5⟩
                have hEA : EdtAt w5 v5 x := EdtIs.at_ hEI hgx (by omega)
                obtain ⟨av, dv, rfl, oa, od⟩ := hEI
                obtain ⟨pa, ca, rfl⟩ := oa.slice
                obtain ⟨pd, cd, rfl⟩ := od.slice
                have hA5 := (Below.refl w5.heap.size w5).alloc (Nat.le_refl _) (.cells #[.slice pa x.add.length ca, .slice pd x.drop.length cd, .int .u64 x.floor, .int .u64 x.head, .int .i64 x.log, .int .i64 x.next] 33)
                have hL6 := (hL4'.out.later hb5).later hA5
                obtain ⟨sp, sc, bV6, oV6, hVI⟩ := hL6.verIs
                have hgv := hL6.good
                have hAp := apply_calls _ _ v x _ hVI (hEA.later hA5) (by have := hgv.tables; have := hgx.add; omega)
                have hgy := applyV_good hgv hgx
                obtain ⟨y, hy2⟩ : ∃ y, applyV v x = y := ⟨_, rfl⟩
                rw [hy2] at hAp hgy
                obtain ⟨yv, ae⟩ := y
                have bE6 := (Blk.new w5 33 #[.slice pa x.add.length ca, .slice pd x.drop.length cd, .int .u64 x.floor, .int .u64 x.head, .int .i64 x.log, .int .i64 x.next]).cell
                have cV6 := bV6.cell
                have hAp' := Lib.hid hAp
                have hL6' := Lib.hid hL6
                have bV6' := Lib.hid bV6
                have hgy' := Lib.hid hgy
                have hy2' := Lib.hid hy2
                clear hAp hL6 bV6 oV6 hVI hgv hgy hy2 hA5 oa od hEA hb5 hL4' bZ4' hgx hgE' hDec'
                obtain ⟨tv, fv, dv, lv, xv⟩ := v
                obtain ⟨ta, td, fe, dq, le_, xe⟩ := x
                simp only at cV6 bE6 hAp' hL6' bV6' hy2'
                obtain ⟨nT, hnT⟩ : ∃ nT, tv.length = nT := ⟨_, rfl⟩
                obtain ⟨nA, hnA⟩ : ∃ nA, ta.length = nA := ⟨_, rfl⟩
                obtain ⟨nD, hnD⟩ : ∃ nD, td.length = nD := ⟨_, rfl⟩
                have hVl : V < w5.heap.size := by
                  have h1 := bV6'.out.lt
                  rw [World.size_alloc] at h1
                  rcases Nat.lt_or_ge V w5.heap.size with h | h
                  · exact h
                  · exfalso
                    have h2 : V = w5.heap.size := by omega
                    subst h2
                    exact absurd rfl (Blk.ne_ bV6'.out (Blk.new w5 _ _) (by decide))
                rw [hnT] at cV6 hAp' bV6'
                rw [hnA, hnD] at bE6 hAp' hL6' bV6' cV6 ⊢
                go_wp2_with fail
                refine hAp'.out.mono ?_
                rintro e w7 ⟨v7, rfl, ⟨sv7, hv7, o7⟩, hb7⟩
                obtain ⟨p7, c7, rfl⟩ := o7.slice
                subst hv7
                have hLc := hL6'.out.later hb7
                have hdl : (bl.drop I).length = L - I := by rw [List.length_drop, hLn'.out]
                have hbL := hLn'.out
                obtain ⟨W8, hW8, hL8⟩ := (hLc.cut (i := I) (by omega) (hLc.good.mono (by omega))).set_ (v' := yv) (sv := .slice p7 yv.tables.length c7) (o7.mono hL6'.out.below.size) (hgy'.out.mono (by omega))
                have bV7 := bV6'.out.below hb7 bV6'.out.lt
                have cV7 := bV7.cell
                have fV7 := bV7.frozen
                have hs2 := fun W => bsl_from p L c I (by omega) W
                obtain ⟨p8, hp8⟩ : ∃ p8, (if c = I then p else p.map (·.add I)) = p8 := ⟨_, rfl⟩
                rw [hp8] at hs2 hL8
                have hL8' := Lib.hid hL8
                have hbl2 := Lib.hid hdl
                clear hLc hL8 o7 hb7 bV7 hL6' bV6' hAp' cV6 bE6 hdl hp8
                obtain ⟨tz, fz, dz, lz, xz⟩ := yv
                simp only at hW8 hy2' hgy' hL8' ⊢
                by_cases hae : ae = 0
                · subst hae
                  have hld2 : loadB Ver.first false b2 = loadB ⟨tz, fz, dz, lz, xz⟩ true (bl.drop I) := by
                    rw [hld'.out, loadB_next ht0'.out (by rw [hq'.out, hy'.out]) (by rw [hq'.out, hy'.out]; exact congrArg Prod.snd hy2'.out), hq'.out, hy'.out, hQ, hI]
                    rw [show (applyV (Ver.mk tv fv dv lv xv) (Edt.mk ta td fe dq le_ xe, (0 : Int)).1).1 = ⟨tz, fz, dz, lz, xz⟩ from congrArg Prod.fst hy2'.out]
                  have hld3 := Lib.hid hld2
                  clear hld2 hld' hX2' hgy' hy2' hy'
                  go_wp2_with fail
                  have hLf : LoAt w W8 V p8 (bl.drop I).length (c - I) (bl.drop I) ⟨tz, fz, dz, lz, xz⟩ := by rw [hbl2.out]; exact hL8'.out
                  exact ⟨⟨⟨tz, fz, dz, lz, xz⟩, true, bl.drop I, p8, c - I, by rw [hbl2.out], rfl, hld3.out, hLf⟩, by show L - I < L; omega⟩
                · have td : (ae == 0) = false := by simpa using hae
                  have hXe := hX2'.out
                  unfold loadM at hXe
                  rw [hld'.out, loadB_app ht0'.out (by rw [hq'.out, hy'.out]) (by rw [hq'.out, hy'.out]; exact fun e => hae ((congrArg Prod.snd hy2'.out).symm.trans e))] at hXe
                  have hX4 : (Ver.zero, (0 : Int), (9 : Int)) = X := hXe
                  subst hX4
                  obtain ⟨W9, hW9, bW9, kW9⟩ := ver_set rfl hL8'.out.bz (.slice none 0 0) (.int .u64 0) (.int .u64 0) (.int .i64 0) (.int .i64 0)
                  have bW9' := Lib.hid bW9
                  have cZ8 := hL8'.out.bz.cell
                  have fZ8 := hL8'.out.bz.frozen
                  have hB8 := Lib.hid hL8'.out.below
                  clear hXe hld' hX2' hgy' hy2' hy' bW9
                  go_wp2_with fail
                  have cW9 := bW9'.out.cell
                  refine bodyPost_ret (v := .tuple #[.agg vZero, .int .i64 0, .int .i64 9]) (by simp [results, Tryz.results22, go_sem, cW9]) rfl (load_bad (hB8.out.trans (kW9.below (fun j _ e => by omega) hB8.out.size)))
              · have td : (de == 0) = false := by simpa using hde
                have hXe := hX2'.out
                unfold loadM at hXe
                rw [hld'.out, loadB_dec ht0'.out (by rw [hq'.out, hy'.out]; exact hde)] at hXe
                have hX4 : (Ver.zero, (0 : Int), (9 : Int)) = X := hXe
                subst hX4
                clear hXe hld'
                go_wp2_with (go_at_call 61; (refine hDec'.out.mono ?_; rintro e w5 ⟨v5, rfl, ⟨av, dv, rfl, oa, od⟩, hb5⟩; obtain ⟨pa, ca, rfl⟩ := oa.slice; obtain ⟨pd, cd, rfl⟩ := od.slice; have bZ5 := (bZ4'.out.below hb5 bZ4'.out.lt).alloc (.cells #[.slice pa x.add.length ca, .slice pd x.drop.length cd, .int .u64 x.floor, .int .u64 x.head, .int .i64 x.log, .int .i64 x.next] 33); have hB5 := Lib.hid ((hBx.out.trans (hb5.mono hBx.out.size)).alloc (Nat.le_trans hBx.out.size hb5.size) (.cells #[.slice pa x.add.length ca, .slice pd x.drop.length cd, .int .u64 x.floor, .int .u64 x.head, .int .i64 x.log, .int .i64 x.next] 33)); have cZ5 := bZ5.cell; have fZ5 := bZ5.frozen; clear oa od hb5; obtain ⟨W9, hW9, bW9, kW9⟩ := ver_set rfl bZ5 (.slice none 0 0) (.int .u64 0) (.int .u64 0) (.int .i64 0) (.int .i64 0); have bW9' := Lib.hid bW9; clear bW9 bZ5))
                have cW9 := bW9'.out.cell
                refine bodyPost_ret (v := .tuple #[.agg vZero, .int .i64 0, .int .i64 9]) (by simp [results, Tryz.results22, go_sem, cW9]) rfl (load_bad (hB5.out.trans (kW9.below (fun j _ e => by omega) hB5.out.size)))
        · rw [if_pos h2] at hX2
          subst hX2
          have t2 : (e2 == 0) = false := by simpa using h2
          go_enter Tryz.func22, Tryz.ntmps22
          go_wp2_with (first
            | (go_at_call_of 59 (Value.string { data := #[99, 117, 114, 114, 101, 110, 116] }); (refine hR1'.out.mono ?_; rintro e w1 ⟨v1, rfl, o1, hb1⟩; have bZ1 := Lib.hid (bZ'.out.below hb1 bZ'.out.lt); have hb2 := Lib.hid (hAl'.out.trans (hb1.mono hAl'.out.size)); have hcv := bytes_string (Bytes.of_own o1); have hBy := Lib.hid (Bytes.of_own o1); obtain ⟨p1, c1, rfl⟩ := own_slice o1; have hs1 := hs'.out.next hb2.out; clear o1 hb1))
            | (go_at_call 9; (refine (hN2.out w1 hs1).mono ?_; rintro e w2 ⟨rfl, hb3⟩; have hb4 := Lib.hid (hb2.out.trans (hb3.mono hb2.out.size)); have bZ2 := Lib.hid (bZ1.out.below hb3 bZ1.out.lt); have hs2 := hs1.next hb3; have hcv2 := bytes_string (hBy.out.later hb3); clear hb3 hcv))
            | (go_at_call_of 59 (Value.string { data := b1.toArray }); (refine (hR2'.out w2 hb4.out).mono ?_; rintro e w3 ⟨v3, rfl, o3, hb5⟩; have bZ3 := Lib.hid (bZ2.out.below hb5 bZ2.out.lt); have hb6 := Lib.hid (hb4.out.trans (hb5.mono hb4.out.size)); obtain ⟨p3, c3, rfl⟩ := own_slice o3; have hs3 := hs2.next hb5; have o3' := Lib.hid o3; clear o3 hb5; have cZ := bZ3.out.cell; have fZ := bZ3.out.frozen; obtain ⟨W9, hW9, bW9, kW9⟩ := ver_set rfl bZ3.out (.slice none 0 0) (.int .u64 0) (.int .u64 0) (.int .i64 0) (.int .i64 0))))
          have cW9 := bW9.cell
          refine bodyPost_ret (v := .tuple #[.agg vZero, .int .i64 0, .int .i64 e2]) (by simp [results, Tryz.results22, go_sem, cW9]) rfl (load_bad (hb6.out.trans (kW9.below (fun j _ e => by omega) hb6.out.size)))
      · rw [if_pos hk] at hX2
        subst hX2
        have tk : ((k.toNat : Int) == 109) = false := by
          rw [beq_eq_false_iff_ne]
          intro hh
          exact hk (UInt8.toNat_inj.1 (by show k.toNat = 109; omega))
        go_enter Tryz.func22, Tryz.ntmps22
        go_wp2_with (first
          | (go_at_call 59; (refine hR1'.out.mono ?_; rintro e w1 ⟨v1, rfl, o1, hb1⟩; have bZ1 := Lib.hid (bZ'.out.below hb1 bZ'.out.lt); have hb2 := Lib.hid (hAl'.out.trans (hb1.mono hAl'.out.size)); have hcv := bytes_string (Bytes.of_own o1); obtain ⟨p1, c1, rfl⟩ := own_slice o1; have hs1 := hs'.out.next hb2.out; clear o1 hb1))
          | (go_at_call 9; (refine (hN2.out w1 hs1).mono ?_; rintro e w2 ⟨rfl, hb3⟩; have hb4 := Lib.hid (hb2.out.trans (hb3.mono hb2.out.size)); have bZ2 := Lib.hid (bZ1.out.below hb3 bZ1.out.lt); have hs2 := hs1.next hb3; clear hb3; have cZ := bZ2.out.cell; have fZ := bZ2.out.frozen; obtain ⟨W9, hW9, bW9, kW9⟩ := ver_set rfl bZ2.out (.slice none 0 0) (.int .u64 0) (.int .u64 0) (.int .i64 0) (.int .i64 0))))
        have cW9 := bW9.cell
        refine bodyPost_ret (v := .tuple #[.agg vZero, .int .i64 0, .int .i64 9]) (by simp [results, Tryz.results22, go_sem, cW9]) rfl (load_bad (hb4.out.trans (kW9.below (fun j _ e => by omega) hb4.out.size)))
  · rw [if_pos h0] at hX
    subst hX
    have t1 : (e1 == 0) = false := by simpa using h0
    go_enter Tryz.func22, Tryz.ntmps22
    go_wp2_with (go_at_call 59; (refine hR1'.out.mono ?_; rintro e w1 ⟨v1, rfl, o1, hb1⟩; have bZ1 := bZ'.out.below hb1 bZ'.out.lt; have hb2 := Lib.hid (hAl'.out.trans (hb1.mono hAl'.out.size)); obtain ⟨p1, c1, rfl⟩ := own_slice o1; have cZ1 := bZ1.cell; have fZ1 := bZ1.frozen; clear o1 hb1; obtain ⟨W9, hW9, bW9, kW9⟩ := ver_set rfl bZ1 (.slice none 0 0) (.int .u64 0) (.int .u64 0) (.int .i64 0) (.int .i64 0); clear bZ1))
    have cW9 := bW9.cell
    refine bodyPost_ret (v := .tuple #[.agg vZero, .int .i64 0, .int .i64 e1]) (by simp [results, Tryz.results22, go_sem, cW9]) rfl (load_bad (hb2.out.trans (kW9.below (fun j _ e => by omega) hb2.out.size)))
end Go.Proofs.YtabcdodjkfknlaaGreatDoor
