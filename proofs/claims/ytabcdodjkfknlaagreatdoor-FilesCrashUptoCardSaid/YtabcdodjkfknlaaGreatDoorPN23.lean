/- Walks: Load. Walks: one thing behind the other. Walks: a file laid whose bytes are safe. Walks: lay. -/
import Derived.Test.YtabcdodjkfknlaaGreatDoorPN22
import Derived.Test.YtabcdodjkfknlaaGreatDoorPN10
import Derived.Laws.EntriesVeiled
namespace Go.Proofs.YtabcdodjkfknlaaGreatDoor
open Go.RowKit
attribute [local go_sem ↓] dapp_op dslK_op
attribute [local go_sem] Oper.semAt_some
abbrev currentB : ByteArray := ⟨#[99, 117, 114, 114, 101, 110, 116]⟩
abbrev freshB : ByteArray := ⟨#[99, 117, 114, 114, 101, 110, 116, 46, 110, 101, 119]⟩
/-- the answer that is only an error -/
theorem load_bad {w w1 : World} {E : Int} (hb : Below w.heap.size w w1) : LoadPost w (Ver.zero, 0, E) (.returned (.tuple #[.agg vZero, .int .i64 0, .int .i64 E])) w1 := ⟨_, rfl, VerOwn.zero _ _, hb⟩
def sliceLen (v : Value) : Nat := match v with | .slice _ n _ => n | _ => 0
set_option maxHeartbeats 4000000 in
set_option maxRecDepth 100000 in
theorem load_calls {w0 w : World} {D m : Nat} {r : RD} (h : At w0 w D r m) (hm : m ≤ 4000) (hb : ∀ s, (r.readB s).length ≤ 200000) (hs : StdF w) :
    Calls Tryz.prog 22 #[.pointer (some ⟨D, 0, none⟩)] w (LoadPost w (loadR r)) := by
  obtain ⟨X, hX⟩ : ∃ X, loadR r = X := ⟨_, rfl⟩
  rw [hX]
  unfold loadR at hX
  have hRd := fun W (hb : Below w.heap.size w W) (s : ByteArray) (hs : s.size ≤ maxLen) => read_at (h.later hb) s hm hs
  have hR1 := fun W (hb : Below w.heap.size w W) => hRd W hb currentB (by decide)
  have hR1 : ∀ W, Below w.heap.size w W → Calls Tryz.prog 59 #[.pointer (some ⟨D, 0, none⟩), .string currentB] W (ReadPost W (r.findE currentL) (r.readB currentL)) := hR1
  obtain ⟨b1, hb1⟩ : ∃ b, r.readB currentL = b := ⟨_, rfl⟩
  obtain ⟨e1, he1⟩ : ∃ e, r.findE currentL = e := ⟨_, rfl⟩
  have hl1 : b1.length ≤ 200000 := by rw [← hb1]; exact hb _
  rw [he1, hb1] at hX
  simp only [he1, hb1] at hR1
  have hAl := (Below.refl w.heap.size w).alloc (Nat.le_refl _) (.cells vZero 30)
  have bZ := Blk.new w 30 vZero
  have hR1' := Lib.hid (hR1 _ hAl)
  have hRd' := Lib.hid hRd
  have hAl' := Lib.hid hAl
  have bZ' := Lib.hid bZ
  have hs' := Lib.hid hs
  have hb' := Lib.hid hb
  clear hR1 hRd hAl bZ hs hb
  by_cases h0 : e1 = 0
  · subst h0
    rw [if_neg (by simp)] at hX
    obtain ⟨F, hfn⟩ : ∃ F, fnum b1 = F := ⟨_, rfl⟩
    rw [hfn] at hX
    have hNum : ∀ W, StdF W → Calls Tryz.prog 9 #[.string ⟨b1.toArray⟩] W fun e w' => e = .returned (.tuple (numV F)) ∧ Below W.heap.size W w' := fun W hW => by
      have hh := number_name_calls ⟨b1.toArray⟩ W (by rw [Lib.size_eq]; show b1.length ≤ _; omega) hW
      unfold NumPost_ at hh
      rw [show (⟨b1.toArray⟩ : ByteArray).data.toList = b1 from rfl, hfn] at hh
      exact hh
    cases F with
    | none =>
      have hX2 : (Ver.zero, (0 : Int), (9 : Int)) = X := hX
      subst hX2
      have hN1 : ∀ W, StdF W → Calls Tryz.prog 9 #[.string ⟨b1.toArray⟩] W fun e w' => e = .returned (.tuple #[.int .u8 0, .int .i64 0, .bool false]) ∧ Below W.heap.size W w' := hNum
      have hN2 := Lib.hid hN1
      clear hX hN1 hNum
      go_enter Tryz.func22, Tryz.ntmps22
      go_wp2_with (first
        | (go_at_call 59; (refine hR1'.out.mono ?_; rintro e w1 ⟨v1, rfl, o1, hb1⟩; have bZ1 := Lib.hid (bZ'.out.below hb1 bZ'.out.lt); have hb2 := Lib.hid (hAl'.out.trans (hb1.mono hAl'.out.size)); have hcv := bytes_string (Bytes.of_own o1); obtain ⟨p1, c1, rfl⟩ := own_slice o1; have hs1 := hs'.out.next hb2.out; clear o1 hb1))
        | (go_at_call 9; (refine (hN2.out w1 hs1).mono ?_; rintro e w2 ⟨rfl, hb3⟩; have hb4 := Lib.hid (hb2.out.trans (hb3.mono hb2.out.size)); have bZ2 := Lib.hid (bZ1.out.below hb3 bZ1.out.lt); have hs2 := hs1.next hb3; clear hb3; have cZ := bZ2.out.cell; have fZ := bZ2.out.frozen; obtain ⟨W9, hW9, bW9, kW9⟩ := ver_set rfl bZ2.out (.slice none 0 0) (.int .u64 0) (.int .u64 0) (.int .i64 0) (.int .i64 0))))
      have cW9 := bW9.cell
      refine bodyPost_ret (v := .tuple #[.agg vZero, .int .i64 0, .int .i64 9]) (by simp [results, Tryz.results22, go_sem, cW9]) rfl (load_bad (hb4.out.trans (kW9.below (fun j _ e => by omega) hb4.out.size)))
    | some kn =>
      obtain ⟨k, n⟩ := kn
      have hX2 : (if k ≠ 109 then (Ver.zero, (0 : Int), (9 : Int)) else if r.findE b1 ≠ 0 then (Ver.zero, 0, r.findE b1) else loadM n (r.readB b1)) = X := hX
      have hN1 : ∀ W, StdF W → Calls Tryz.prog 9 #[.string ⟨b1.toArray⟩] W fun e w' => e = .returned (.tuple #[.int .u8 k.toNat, .int .i64 n, .bool true]) ∧ Below W.heap.size W w' := hNum
      have hN2 := Lib.hid hN1
      clear hX hN1 hNum
      by_cases hk : k = 109
      · subst hk
        rw [if_neg (by simp)] at hX2
        have hN3 : ∀ W, StdF W → Calls Tryz.prog 9 #[.string ⟨b1.toArray⟩] W fun e w' => e = .returned (.tuple #[.int .u8 109, .int .i64 n, .bool true]) ∧ Below W.heap.size W w' := hN2.out
        clear hN2
        have hN2 := Lib.hid hN3
        clear hN3
        obtain ⟨e2, he2⟩ : ∃ e, r.findE b1 = e := ⟨_, rfl⟩
        obtain ⟨b2, hb2_⟩ : ∃ b, r.readB b1 = b := ⟨_, rfl⟩
        have hl2 : b2.length ≤ 200000 := by rw [← hb2_]; exact hb'.out _
        rw [he2, hb2_] at hX2
        have hR2 : ∀ W, Below w.heap.size w W → Calls Tryz.prog 59 #[.pointer (some ⟨D, 0, none⟩), .string ⟨b1.toArray⟩] W (ReadPost W e2 b2) := fun W hW => by
          have hh := hRd'.out W hW ⟨b1.toArray⟩ (by rw [Lib.size_eq]; show b1.length ≤ _; unfold maxLen; omega)
          rw [show (⟨b1.toArray⟩ : ByteArray).data.toList = b1 from rfl, he2, hb2_] at hh
          exact hh
        have hR2' := Lib.hid hR2
        clear hR2 hRd' hb'
        by_cases h2 : e2 = 0
        · subst h2
          rw [if_neg (by simp)] at hX2
          go_enter Tryz.func22, Tryz.ntmps22
          go_wp2_with (first
            | (go_at_call_of 59 (Value.string { data := #[99, 117, 114, 114, 101, 110, 116] }); (refine hR1'.out.mono ?_; rintro e w1 ⟨v1, rfl, o1, hb1⟩; have bZ1 := Lib.hid (bZ'.out.below hb1 bZ'.out.lt); have hb2 := Lib.hid (hAl'.out.trans (hb1.mono hAl'.out.size)); have hcv := bytes_string (Bytes.of_own o1); have hBy := Lib.hid (Bytes.of_own o1); obtain ⟨p1, c1, rfl⟩ := own_slice o1; have hs1 := hs'.out.next hb2.out; clear o1 hb1))
            | (go_at_call 9; (refine (hN2.out w1 hs1).mono ?_; rintro e w2 ⟨rfl, hb3⟩; have hb4 := Lib.hid (hb2.out.trans (hb3.mono hb2.out.size)); have bZ2 := Lib.hid (bZ1.out.below hb3 bZ1.out.lt); have hs2 := hs1.next hb3; have hcv2 := bytes_string (hBy.out.later hb3); clear hb3 hcv))
            | (go_at_call_of 59 (Value.string { data := b1.toArray }); (refine (hR2'.out w2 hb4.out).mono ?_; rintro e w3 ⟨v3, rfl, o3, hb5⟩; have bZ3 := Lib.hid (bZ2.out.below hb5 bZ2.out.lt); have hb6 := Lib.hid (hb4.out.trans (hb5.mono hb4.out.size)); obtain ⟨p3, c3, rfl⟩ := own_slice o3; have hs3 := hs2.next hb5; have o3' := Lib.hid o3; clear o3 hb5)))
          have hL0 : LoAt w (w3.alloc (.cells #[.slice none 0 0, .int .u64 0, .int .u64 0, .int .i64 0, .int .i64 1] 30)) w3.heap.size p3 b2.length c3 b2 Ver.first :=
            ⟨hb6.out.alloc hb6.out.size _, bZ3.out.alloc _, (Bytes.of_own o3'.out).later ((Below.refl _ _).alloc (Nat.le_refl _) _), fun g hg _ => (World.ownsRow.lt o3'.out g hg).2, ⟨.slice none 0 0, Blk.new _ _ _, RowK.Own.nil _ _ _⟩, bZ3.out.lt, first_good _, hl2⟩
          have hL0' := Lib.hid hL0
          obtain ⟨V, hV⟩ : ∃ V, w3.heap.size = V := ⟨_, rfl⟩
          rw [hV] at hL0' ⊢
          have hX2' := Lib.hid hX2
          clear hL0 hV o3' bZ3 hb6 hs3 hcv2 hBy hs2 hb4 bZ2 hs1 hb2 bZ1 hX2 hN2 hR2' hR1' hR1 hs' bZ' hAl'
          go_loopw [5, 11, 12, 13, 14, 15] (fun b s _ _ _ _ wr => ∃ (v : Ver) (sm : Bool) (bl : List UInt8) (p : Option Addr) (c : Nat), b = .slice p bl.length c ∧ s = .bool sm ∧ loadB Ver.first false b2 = loadB v sm bl ∧ LoAt w wr V p bl.length c bl v) (fun b _ _ _ _ _ _ => sliceLen b)
          case atStart => exact ⟨Ver.first, false, b2, p3, c3, rfl, rfl, rfl, hL0'.out⟩
          case round =>
            clear hL0'
            obtain ⟨v, sm, bl, p, c, rfl, rfl, hld, hL⟩ := hrel
            obtain ⟨wo, rfl⟩ : ∃ wo : World, wo = wr := ⟨_, rfl⟩
            have hN := Lib.hid (frame_next_calls _ bl wo hL.bytes (by have := hL.len; omega))
            have hL' := Lib.hid hL
            have hld' := Lib.hid hld
            obtain ⟨L, hLn⟩ : ∃ L, bl.length = L := ⟨_, rfl⟩
            rw [hLn] at hN hL'
            have hLn' := Lib.hid hLn
            clear hL hld
            rw [hLn]
            clear hLn
            go_wp2_with fail
            refine hN.out.mono ?_
            rintro e w4 ⟨hb4, ⟨he, rfl⟩ | ⟨he, pp, cc, rfl, oo⟩⟩
            · have hL4 := hL'.out.later hb4
              have hXe := hX2'.out
              unfold loadM at hXe
              rw [hld'.out, loadB_end he] at hXe
              have t1 : (((nextL bl).1 : Int) == 0) = false := by
                rw [beq_eq_false_iff_ne]; omega
              obtain ⟨E, hE⟩ : ∃ E : Int, ((nextL bl).1 : Int) = E := ⟨_, rfl⟩
              rw [hE] at t1 ⊢
              have hB4 := hL4.below
              obtain ⟨sp, sc, bV4, oV4, _⟩ := hL4.verIs
              have bZ4 := hL4.bz
              obtain ⟨N, hN2⟩ : ∃ N, v.tables.length = N := ⟨_, rfl⟩
              cases sm with
              | false =>
                have hX4 : (Ver.zero, (0 : Int), (9 : Int)) = X := hXe
                subst hX4
                obtain ⟨W9, hW9, bW9, kW9⟩ := ver_set rfl bZ4 (.slice none 0 0) (.int .u64 0) (.int .u64 0) (.int .i64 0) (.int .i64 0)
                have cZ := bZ4.cell
                have fZ := bZ4.frozen
                have bW9' := Lib.hid bW9
                have hB4' := Lib.hid hB4
                clear hb4 hL4 hXe hE hB4 bV4 oV4 bZ4 bW9 he hN hL' hld'
                go_wp2_with fail
                have cW9 := bW9'.out.cell
                refine bodyPost_ret (v := .tuple #[.agg vZero, .int .i64 0, .int .i64 9]) (by simp [results, Tryz.results22, go_sem, cW9]) rfl (load_bad (hB4'.out.trans (kW9.below (fun j _ e => by omega) hB4'.out.size)))
              | true =>
                have hX4 : (v, (n : Int), (0 : Int)) = X := hXe
                subst hX4
                rw [hN2] at bV4 oV4
                have hne := oV4.blk_ne bZ4 (by decide)
                obtain ⟨W9, hW9, bW9, kW9⟩ := ver_set rfl bZ4 (.slice sp N sc) (.int .u64 v.floor) (.int .u64 v.head) (.int .i64 v.log) (.int .i64 v.next)
                have cZ := bZ4.cell
                have fZ := bZ4.frozen
                have cV := bV4.cell
                have hV4 := hL4.hV
                have oW9 : VerOwn w.heap.size W9 (.agg #[.slice sp N sc, .int .u64 v.floor, .int .u64 v.head, .int .i64 v.log, .int .i64 v.next]) v := ⟨_, rfl, oV4.keeps kW9 fun j hj e => hne (by rw [hj, e])⟩
                have bW9' := Lib.hid bW9
                have oW9' := Lib.hid oW9
                have hB4' := Lib.hid hB4
                clear hb4 hL4 hXe hE hB4 bV4 oV4 bZ4 bW9 he hN hL' hld' oW9 hne hN2
                obtain ⟨tv, fv, dv, lv, xv⟩ := v
                simp only at cV hW9 bW9' oW9' kW9
                go_wp2_with fail
                have cW9 := bW9'.out.cell
                refine bodyPost_ret (v := .tuple #[.agg #[.slice sp N sc, .int .u64 fv, .int .u64 dv, .int .i64 lv, .int .i64 xv], .int .i64 n, .int .i64 0]) (by simp [results, Tryz.results22, go_sem, cW9]) rfl ⟨_, rfl, oW9'.out, hB4'.out.trans (kW9.below (fun j _ e => by omega) hB4'.out.size)⟩
            · have hL4 := hL'.out.later hb4
              obtain ⟨q, hq⟩ : ∃ q, (nextL bl).2 = q := ⟨_, rfl⟩
              have hql := nextL_len he
              rw [hq] at oo hql ⊢
              have hbl := hL4.len
              have hDec := decode_calls _ q w4 oo.bytes (by omega)
              have hgE := decodeE_good q
              have hBx := Lib.hid hL4.below
              have bZ4 := hL4.bz
              have t0 : (nextL bl).1 = 0 := he
              obtain ⟨I, hI⟩ : ∃ I, 8 + q.length = I := ⟨_, rfl⟩
              rw [hI] at hql ⊢
              obtain ⟨Q, hQ⟩ : ∃ Q, q.length = Q := ⟨_, rfl⟩
              rw [hQ] at hDec hgE hI oo ⊢
              obtain ⟨y, hy⟩ : ∃ y, decodeE q = y := ⟨_, rfl⟩
              rw [hy] at hDec hgE
              obtain ⟨x, de⟩ := y
              have hDec' := Lib.hid hDec
              have hgE' := Lib.hid hgE
              have hL4' := Lib.hid hL4
              have bZ4' := Lib.hid bZ4
              have ht0' := Lib.hid t0
              have hq' := Lib.hid hq
              have hy' := Lib.hid hy
              clear hb4 hL4 hDec hgE hL' hN oo bZ4 he t0 hq hy
              by_cases hde : de = 0
              · subst hde
                have hgx : x.good Q := hgE'.out
                go_wp2_with fail
                refine hDec'.out.mono ?_
                rintro e w5 ⟨v5, rfl, hEI, hb5⟩
                have hEA : EdtAt w5 v5 x := EdtIs.at_ hEI hgx (by omega)
                obtain ⟨av, dv, rfl, oa, od⟩ := hEI
                obtain ⟨pa, ca, rfl⟩ := oa.slice
                obtain ⟨pd, cd, rfl⟩ := od.slice
                have hA5 := (Below.refl w5.heap.size w5).alloc (Nat.le_refl _) (.cells #[.slice pa x.add.length ca, .slice pd x.drop.length cd, .int .u64 x.floor, .int .u64 x.head, .int .i64 x.log, .int .i64 x.next] 33)
                have hL6 := (hL4'.out.later hb5).later hA5
                obtain ⟨sp, sc, bV6, oV6, hVI⟩ := hL6.verIs
                have hgv := hL6.good
                have hAp := apply_calls _ _ v x _ hVI (hEA.later hA5) (by have := hgv.tables; have := hgx.add; omega)
                have hgy := applyV_good hgv hgx
                obtain ⟨y, hy2⟩ : ∃ y, applyV v x = y := ⟨_, rfl⟩
                rw [hy2] at hAp hgy
                obtain ⟨yv, ae⟩ := y
                have bE6 := (Blk.new w5 33 #[.slice pa x.add.length ca, .slice pd x.drop.length cd, .int .u64 x.floor, .int .u64 x.head, .int .i64 x.log, .int .i64 x.next]).cell
                have cV6 := bV6.cell
                have hAp' := Lib.hid hAp
                have hL6' := Lib.hid hL6
                have bV6' := Lib.hid bV6
                have hgy' := Lib.hid hgy
                have hy2' := Lib.hid hy2
                clear hAp hL6 bV6 oV6 hVI hgv hgy hy2 hA5 oa od hEA hb5 hL4' bZ4' hgx hgE' hDec'
                obtain ⟨tv, fv, dv, lv, xv⟩ := v
                obtain ⟨ta, td, fe, dq, le_, xe⟩ := x
                simp only at cV6 bE6 hAp' hL6' bV6' hy2'
                obtain ⟨nT, hnT⟩ : ∃ nT, tv.length = nT := ⟨_, rfl⟩
                obtain ⟨nA, hnA⟩ : ∃ nA, ta.length = nA := ⟨_, rfl⟩
                obtain ⟨nD, hnD⟩ : ∃ nD, td.length = nD := ⟨_, rfl⟩
                have hVl : V < w5.heap.size := by
                  have h1 := bV6'.out.lt
                  rw [World.size_alloc] at h1
                  rcases Nat.lt_or_ge V w5.heap.size with h | h
                  · exact h
                  · exfalso
                    have h2 : V = w5.heap.size := by omega
                    subst h2
                    exact absurd rfl (Blk.ne_ bV6'.out (Blk.new w5 _ _) (by decide))
                rw [hnT] at cV6 hAp' bV6'
                rw [hnA, hnD] at bE6 hAp' hL6' bV6' cV6 ⊢
                go_wp2_with fail
                refine hAp'.out.mono ?_
                rintro e w7 ⟨v7, rfl, ⟨sv7, hv7, o7⟩, hb7⟩
                obtain ⟨p7, c7, rfl⟩ := o7.slice
                subst hv7
                have hLc := hL6'.out.later hb7
                have hdl : (bl.drop I).length = L - I := by rw [List.length_drop, hLn'.out]
                have hbL := hLn'.out
                obtain ⟨W8, hW8, hL8⟩ := (hLc.cut (i := I) (by omega) (hLc.good.mono (by omega))).set_ (v' := yv) (sv := .slice p7 yv.tables.length c7) (o7.mono hL6'.out.below.size) (hgy'.out.mono (by omega))
                have bV7 := bV6'.out.below hb7 bV6'.out.lt
                have cV7 := bV7.cell
                have fV7 := bV7.frozen
                have hs2 := fun W => bsl_from p L c I (by omega) W
                obtain ⟨p8, hp8⟩ : ∃ p8, (if c = I then p else p.map (·.add I)) = p8 := ⟨_, rfl⟩
                rw [hp8] at hs2 hL8
                have hL8' := Lib.hid hL8
                have hbl2 := Lib.hid hdl
                clear hLc hL8 o7 hb7 bV7 hL6' bV6' hAp' cV6 bE6 hdl hp8
                obtain ⟨tz, fz, dz, lz, xz⟩ := yv
                simp only at hW8 hy2' hgy' hL8' ⊢
                by_cases hae : ae = 0
                · subst hae
                  have hld2 : loadB Ver.first false b2 = loadB ⟨tz, fz, dz, lz, xz⟩ true (bl.drop I) := by
                    rw [hld'.out, loadB_next ht0'.out (by rw [hq'.out, hy'.out]) (by rw [hq'.out, hy'.out]; exact congrArg Prod.snd hy2'.out), hq'.out, hy'.out, hQ, hI]
                    rw [show (applyV (Ver.mk tv fv dv lv xv) (Edt.mk ta td fe dq le_ xe, (0 : Int)).1).1 = ⟨tz, fz, dz, lz, xz⟩ from congrArg Prod.fst hy2'.out]
                  have hld3 := Lib.hid hld2
                  clear hld2 hld' hX2' hgy' hy2' hy'
                  go_wp2_with fail
                  have hLf : LoAt w W8 V p8 (bl.drop I).length (c - I) (bl.drop I) ⟨tz, fz, dz, lz, xz⟩ := by rw [hbl2.out]; exact hL8'.out
                  exact ⟨⟨⟨tz, fz, dz, lz, xz⟩, true, bl.drop I, p8, c - I, by rw [hbl2.out], rfl, hld3.out, hLf⟩, by show L - I < L; omega⟩
                · have td : (ae == 0) = false := by simpa using hae
                  have hXe := hX2'.out
                  unfold loadM at hXe
                  rw [hld'.out, loadB_app ht0'.out (by rw [hq'.out, hy'.out]) (by rw [hq'.out, hy'.out]; exact fun e => hae ((congrArg Prod.snd hy2'.out).symm.trans e))] at hXe
                  have hX4 : (Ver.zero, (0 : Int), (9 : Int)) = X := hXe
                  subst hX4
                  obtain ⟨W9, hW9, bW9, kW9⟩ := ver_set rfl hL8'.out.bz (.slice none 0 0) (.int .u64 0) (.int .u64 0) (.int .i64 0) (.int .i64 0)
                  have bW9' := Lib.hid bW9
                  have cZ8 := hL8'.out.bz.cell
                  have fZ8 := hL8'.out.bz.frozen
                  have hB8 := Lib.hid hL8'.out.below
                  clear hXe hld' hX2' hgy' hy2' hy' bW9
                  go_wp2_with fail
                  have cW9 := bW9'.out.cell
                  refine bodyPost_ret (v := .tuple #[.agg vZero, .int .i64 0, .int .i64 9]) (by simp [results, Tryz.results22, go_sem, cW9]) rfl (load_bad (hB8.out.trans (kW9.below (fun j _ e => by omega) hB8.out.size)))
              · have td : (de == 0) = false := by simpa using hde
                have hXe := hX2'.out
                unfold loadM at hXe
                rw [hld'.out, loadB_dec ht0'.out (by rw [hq'.out, hy'.out]; exact hde)] at hXe
                have hX4 : (Ver.zero, (0 : Int), (9 : Int)) = X := hXe
                subst hX4
                clear hXe hld'
                go_wp2_with (go_at_call 61; (refine hDec'.out.mono ?_; rintro e w5 ⟨v5, rfl, ⟨av, dv, rfl, oa, od⟩, hb5⟩; obtain ⟨pa, ca, rfl⟩ := oa.slice; obtain ⟨pd, cd, rfl⟩ := od.slice; have bZ5 := (bZ4'.out.below hb5 bZ4'.out.lt).alloc (.cells #[.slice pa x.add.length ca, .slice pd x.drop.length cd, .int .u64 x.floor, .int .u64 x.head, .int .i64 x.log, .int .i64 x.next] 33); have hB5 := Lib.hid ((hBx.out.trans (hb5.mono hBx.out.size)).alloc (Nat.le_trans hBx.out.size hb5.size) (.cells #[.slice pa x.add.length ca, .slice pd x.drop.length cd, .int .u64 x.floor, .int .u64 x.head, .int .i64 x.log, .int .i64 x.next] 33)); have cZ5 := bZ5.cell; have fZ5 := bZ5.frozen; clear oa od hb5; obtain ⟨W9, hW9, bW9, kW9⟩ := ver_set rfl bZ5 (.slice none 0 0) (.int .u64 0) (.int .u64 0) (.int .i64 0) (.int .i64 0); have bW9' := Lib.hid bW9; clear bW9 bZ5))
                have cW9 := bW9'.out.cell
                refine bodyPost_ret (v := .tuple #[.agg vZero, .int .i64 0, .int .i64 9]) (by simp [results, Tryz.results22, go_sem, cW9]) rfl (load_bad (hB5.out.trans (kW9.below (fun j _ e => by omega) hB5.out.size)))
        · rw [if_pos h2] at hX2
          subst hX2
          have t2 : (e2 == 0) = false := by simpa using h2
          go_enter Tryz.func22, Tryz.ntmps22
          go_wp2_with (first
            | (go_at_call_of 59 (Value.string { data := #[99, 117, 114, 114, 101, 110, 116] }); (refine hR1'.out.mono ?_; rintro e w1 ⟨v1, rfl, o1, hb1⟩; have bZ1 := Lib.hid (bZ'.out.below hb1 bZ'.out.lt); have hb2 := Lib.hid (hAl'.out.trans (hb1.mono hAl'.out.size)); have hcv := bytes_string (Bytes.of_own o1); have hBy := Lib.hid (Bytes.of_own o1); obtain ⟨p1, c1, rfl⟩ := own_slice o1; have hs1 := hs'.out.next hb2.out; clear o1 hb1))
            | (go_at_call 9; (refine (hN2.out w1 hs1).mono ?_; rintro e w2 ⟨rfl, hb3⟩; have hb4 := Lib.hid (hb2.out.trans (hb3.mono hb2.out.size)); have bZ2 := Lib.hid (bZ1.out.below hb3 bZ1.out.lt); have hs2 := hs1.next hb3; have hcv2 := bytes_string (hBy.out.later hb3); clear hb3 hcv))
            | (go_at_call_of 59 (Value.string { data := b1.toArray }); (refine (hR2'.out w2 hb4.out).mono ?_; rintro e w3 ⟨v3, rfl, o3, hb5⟩; have bZ3 := Lib.hid (bZ2.out.below hb5 bZ2.out.lt); have hb6 := Lib.hid (hb4.out.trans (hb5.mono hb4.out.size)); obtain ⟨p3, c3, rfl⟩ := own_slice o3; have hs3 := hs2.next hb5; have o3' := Lib.hid o3; clear o3 hb5; have cZ := bZ3.out.cell; have fZ := bZ3.out.frozen; obtain ⟨W9, hW9, bW9, kW9⟩ := ver_set rfl bZ3.out (.slice none 0 0) (.int .u64 0) (.int .u64 0) (.int .i64 0) (.int .i64 0))))
          have cW9 := bW9.cell
          refine bodyPost_ret (v := .tuple #[.agg vZero, .int .i64 0, .int .i64 e2]) (by simp [results, Tryz.results22, go_sem, cW9]) rfl (load_bad (hb6.out.trans (kW9.below (fun j _ e => by omega) hb6.out.size)))
      · rw [if_pos hk] at hX2
        subst hX2
        have tk : ((k.toNat : Int) == 109) = false := by
          rw [beq_eq_false_iff_ne]
          intro hh
          exact hk (UInt8.toNat_inj.1 (by show k.toNat = 109; omega))
        go_enter Tryz.func22, Tryz.ntmps22
        go_wp2_with (first
          | (go_at_call 59; (refine hR1'.out.mono ?_; rintro e w1 ⟨v1, rfl, o1, hb1⟩; have bZ1 := Lib.hid (bZ'.out.below hb1 bZ'.out.lt); have hb2 := Lib.hid (hAl'.out.trans (hb1.mono hAl'.out.size)); have hcv := bytes_string (Bytes.of_own o1); obtain ⟨p1, c1, rfl⟩ := own_slice o1; have hs1 := hs'.out.next hb2.out; clear o1 hb1))
          | (go_at_call 9; (refine (hN2.out w1 hs1).mono ?_; rintro e w2 ⟨rfl, hb3⟩; have hb4 := Lib.hid (hb2.out.trans (hb3.mono hb2.out.size)); have bZ2 := Lib.hid (bZ1.out.below hb3 bZ1.out.lt); have hs2 := hs1.next hb3; clear hb3; have cZ := bZ2.out.cell; have fZ := bZ2.out.frozen; obtain ⟨W9, hW9, bW9, kW9⟩ := ver_set rfl bZ2.out (.slice none 0 0) (.int .u64 0) (.int .u64 0) (.int .i64 0) (.int .i64 0))))
        have cW9 := bW9.cell
        refine bodyPost_ret (v := .tuple #[.agg vZero, .int .i64 0, .int .i64 9]) (by simp [results, Tryz.results22, go_sem, cW9]) rfl (load_bad (hb4.out.trans (kW9.below (fun j _ e => by omega) hb4.out.size)))
  · rw [if_pos h0] at hX
    subst hX
    have t1 : (e1 == 0) = false := by simpa using h0
    go_enter Tryz.func22, Tryz.ntmps22
    go_wp2_with (go_at_call 59; (refine hR1'.out.mono ?_; rintro e w1 ⟨v1, rfl, o1, hb1⟩; have bZ1 := bZ'.out.below hb1 bZ'.out.lt; have hb2 := Lib.hid (hAl'.out.trans (hb1.mono hAl'.out.size)); obtain ⟨p1, c1, rfl⟩ := own_slice o1; have cZ1 := bZ1.cell; have fZ1 := bZ1.frozen; clear o1 hb1; obtain ⟨W9, hW9, bW9, kW9⟩ := ver_set rfl bZ1 (.slice none 0 0) (.int .u64 0) (.int .u64 0) (.int .i64 0) (.int .i64 0); clear bZ1))
    have cW9 := bW9.cell
    refine bodyPost_ret (v := .tuple #[.agg vZero, .int .i64 0, .int .i64 e1]) (by simp [results, Tryz.results22, go_sem, cW9]) rfl (load_bad (hb2.out.trans (kW9.below (fun j _ e => by omega) hb2.out.size)))
end Go.Proofs.YtabcdodjkfknlaaGreatDoor
namespace Go.Proofs.YtabcdodjkfknlaaGreatDoor
open Go.RowKit
attribute [local go_sem] Oper.semAt_some
set_option maxHeartbeats 2000000 in
set_option maxRecDepth 100000 in
theorem steps_calls (fs : List (Nat × Array Value × Array Value)) (g : Nat) (w : World) (J : Nat → World → Prop) (Done : Int → World → Prop)
    (hE : ∀ x ∈ fs, ∀ args w, (callFunc x.1 args).run Tryz.prog w = .ok (.enter x.1 args) w)
    (hcell : ∀ i W, J i W → ∀ x, fs[i]? = some x → W.cell? ⟨g, i, none⟩ = some (.func (.func x.1) x.2.1 x.2.2))
    (hstep : ∀ i x W, fs[i]? = some x → J i W → Calls Tryz.prog x.1 (x.2.1 ++ x.2.2) W fun e w' => ∃ E, e = .returned (.int .i64 E) ∧ (E ≠ 0 → Done E w') ∧ (E = 0 → J (i + 1) w'))
    (hend : ∀ W, J fs.length W → Done 0 W) (h0 : J 0 w) (hn : fs.length ≤ 1000) :
    Calls Tryz.prog 47 #[.slice (some ⟨g, 0, none⟩) fs.length fs.length] w fun e w' => ∃ E, e = .returned (.int .i64 E) ∧ Done E w' := by
  have hE' := Lib.hid hE
  have hcell' := Lib.hid hcell
  have hstep' := Lib.hid hstep
  have hend' := Lib.hid hend
  have h0' := Lib.hid h0
  clear hE hcell hstep hend h0
  obtain ⟨L, hL⟩ : ∃ L, fs.length = L := ⟨_, rfl⟩
  have hL' := Lib.hid hL
  rw [hL] at hn ⊢
  clear hL
  go_enter Tryz.func47, Tryz.ntmps47
  go_wp2
  go_loopw [4, 5, 8] (fun _ _ i wr => ∃ k : Nat, i = .int .i64 k ∧ k ≤ L ∧ J k wr) (fun _ _ i _ => L - (intOf i).toNat)
  case atStart => exact ⟨0, rfl, by omega, h0'.out⟩
  case round =>
    obtain ⟨wo, rfl⟩ : ∃ wo : World, wo = wr := ⟨_, rfl⟩
    obtain ⟨k, rfl, hk, hJ⟩ := hrel
    by_cases hlt : k < L
    · obtain ⟨x, hx⟩ : ∃ x, fs[k]? = some x := ⟨_, List.getElem?_eq_getElem (by rw [hL'.out]; exact hlt)⟩
      have hc := hcell'.out k wo hJ x hx
      have hS := hstep'.out k x wo hx hJ
      have hEx := hE'.out x (List.mem_of_getElem? hx)
      obtain ⟨F, bb, cc⟩ := x
      simp only at hc hS hEx
      have hS' := Lib.hid hS
      have n1 : 0 < L := by omega
      clear hS hJ hx
      go_wp2_with fail
      refine hS'.out.mono ?_
      rintro e w2 ⟨E, rfl, hD, hN⟩
      by_cases he : E = 0
      · subst he
        have hJ2 := Lib.hid (hN rfl)
        clear hD hN
        go_wp2_with fail
        exact ⟨⟨k + 1, by rw [Int.natCast_add]; rfl, by omega, hJ2.out⟩, by simp only [intOf]; omega⟩
      · have hD2 := Lib.hid (hD he)
        have t1 : (E == 0) = false := by simpa using he
        clear hD hN he
        go_wp2_with fail
        go_ret
        exact ⟨E, rfl, hD2.out⟩
    · obtain rfl : L = k := by omega
      have hD := Lib.hid (hend'.out wo (by rw [hL'.out]; exact hJ))
      clear hJ
      go_wp2_with fail
      go_ret
      exact ⟨0, rfl, hD.out⟩
end Go.Proofs.YtabcdodjkfknlaaGreatDoor
namespace Go.Proofs.YtabcdodjkfknlaaGreatDoor
open Go.RowKit
attribute [local go_sem] Oper.semAt_some
section
variable {w w1 w2 W : World} {B D m m' : Nat} {O O1 : Nat → Prop} {r r' : RD}
theorem DGo.refl (h : DAt w B D O r m) : DGo w B D O r m w := ⟨O, h, fun _ h => .inl h, Keeps.refl _ _⟩
theorem DGo.trans {m1 : Nat} {r1 : RD} (h : DGo w B D O r1 m1 w1) (h2 : ∀ O1, DAt w1 B D O1 r1 m1 → (∀ j, O1 j → O j ∨ w.heap.size ≤ j) → Keeps O w w1 → DGo w1 B D O1 r' m' w2) : DGo w B D O r' m' w2 := by
  obtain ⟨O1, hD, hs, hk⟩ := h
  obtain ⟨O2, hD2, hs2, hk2⟩ := h2 O1 hD hs hk
  have hz := hk.size
  exact ⟨O2, hD2, fun j hj => (hs2 j hj).elim (hs j) fun h => .inr (by omega), hk.step hk2 hs⟩
theorem DGo.step (hs : ∀ j, O1 j → O j ∨ w.heap.size ≤ j) (hk : Keeps O w w1) (hg : DGo w1 B D O1 r' m' w2) : DGo w B D O r' m' w2 := by
  obtain ⟨O2, hD2, hs2, hk2⟩ := hg
  have hz := hk.size
  exact ⟨O2, hD2, fun j hj => (hs2 j hj).elim (hs j) fun h => .inr (by omega), hk.step hk2 hs⟩
theorem DGo.ahead (hb : Below w.heap.size w w1) (h : DGo w1 B D O r m w2) : DGo w B D O r m w2 := by
  obtain ⟨O1, hD, hs, hk⟩ := h
  have hz := hb.size
  exact ⟨O1, hD, fun j hj => (hs j hj).imp id fun h => by omega, (Keeps.of_below hb).trans hk⟩
theorem DGo.more (h : DGo w B D O r m w1) (hm : m ≤ m') : DGo w B D O r m' w1 := by
  obtain ⟨O1, ⟨⟨k, bl, a, b, c, d⟩, e⟩, hs, hk⟩ := h
  exact ⟨O1, ⟨⟨k, bl, a, b, c, Nat.le_trans d hm⟩, e⟩, hs, hk⟩
theorem DAt.more (h : DAt w B D O r m) (hm : m ≤ m') : DAt w B D O r m' := by
  obtain ⟨⟨k, bl, a, b, c, d⟩, e⟩ := h
  exact ⟨⟨k, bl, a, b, c, Nat.le_trans d hm⟩, e⟩
end
/-- a disk's answer to a call -/
def Ans (w : World) (B D : Nat) (O : Nat → Prop) (x : RD × Int) (m : Nat) (e : Ending) (w' : World) : Prop := e = .returned (.int .i64 x.2) ∧ DGo w B D O x.1 m w'
/-- a variable of the disk's pointer, a variable of a name -/
abbrev dptr (D : Nat) : Value := .pointer (some ⟨D, 0, none⟩)
section
variable {W : World} {B D m : Nat} {O : Nat → Prop} {r : RD} {bd bn bb : Nat} {s : ByteArray}
set_option maxRecDepth 100000 in
theorem lay1_calls (h : DAt W B D O r m) (h1 : Blk W bd 39 #[dptr D]) (h2 : Blk W bn 9 #[.string s]) (hs : s.size ≤ maxLen) (hm : m < 4000) :
    Calls Tryz.prog 94 #[.pointer (some ⟨bd, 0, none⟩), .pointer (some ⟨bn, 0, none⟩)] W (Ans W B D O (r.create s.data.toList, r.createE s.data.toList) (m + 1)) := by
  have hC := Lib.hid (create_do h s hs hm)
  have c1 := h1.cell
  have c2 := h2.cell
  clear h h1 h2
  go_enter Tryz.func94, Tryz.ntmps94
  go_wp2_with (go_at_call 70; (refine hC.out.mono ?_; rintro e w1 ⟨rfl, hg⟩; have hg' := Lib.hid hg; clear hg))
  go_ret
  exact ⟨rfl, hg'.out⟩
set_option maxRecDepth 100000 in
theorem lay2_calls {v : Value} {b : List UInt8} (h : DAt W B D O r m) (h1 : Blk W bd 39 #[dptr D]) (h2 : Blk W bn 9 #[.string s]) (h3 : Blk W bb 43 #[v]) (hv : Bytes W v b) (hn : ∀ g, v.ownBlock = some g → b ≠ [] → ¬ O g) (hs : s.size ≤ maxLen) (hm : m < 4000) (hl : b.length ≤ 65536) :
    Calls Tryz.prog 95 #[.pointer (some ⟨bd, 0, none⟩), .pointer (some ⟨bn, 0, none⟩), .pointer (some ⟨bb, 0, none⟩)] W (Ans W B D O (r.append s.data.toList b, r.appE s.data.toList b.length) (m + 1)) := by
  have hC := Lib.hid (append_do h s hv hn hs hm hl)
  obtain ⟨p, c, rfl⟩ := hv.slice
  have c1 := h1.cell
  have c2 := h2.cell
  have c3 := h3.cell
  clear h h1 h2 h3 hv hn hl
  go_enter Tryz.func95, Tryz.ntmps95
  go_wp2_with (go_at_call 21; (refine hC.out.mono ?_; rintro e w1 ⟨rfl, hg⟩; have hg' := Lib.hid hg; clear hg))
  go_ret
  exact ⟨rfl, hg'.out⟩
set_option maxRecDepth 100000 in
theorem lay3_calls (h : DAt W B D O r m) (h1 : Blk W bd 39 #[dptr D]) (h2 : Blk W bn 9 #[.string s]) (hs : s.size ≤ maxLen) :
    Calls Tryz.prog 96 #[.pointer (some ⟨bd, 0, none⟩), .pointer (some ⟨bn, 0, none⟩)] W (Ans W B D O (r.sync s.data.toList, r.syncE s.data.toList) m) := by
  have hC := Lib.hid (sync_do h s hs)
  have c1 := h1.cell
  have c2 := h2.cell
  clear h h1 h2
  go_enter Tryz.func96, Tryz.ntmps96
  go_wp2_with (go_at_call 97; (refine hC.out.mono ?_; rintro e w1 ⟨rfl, hg⟩; have hg' := Lib.hid hg; clear hg))
  go_ret
  exact ⟨rfl, hg'.out⟩
/-- the old fresh file taken away -/
def oldR (r : RD) : RD × Int := (r.remove freshL, if r.removeE freshL = 4 then 0 else r.removeE freshL)
set_option maxRecDepth 100000 in
theorem old_calls (h : DAt W B D O r m) (h1 : Blk W bd 39 #[dptr D]) (hm : m < 4000) :
    Calls Tryz.prog 45 #[.pointer (some ⟨bd, 0, none⟩)] W (Ans W B D O (oldR r) (m + 1)) := by
  have hC : Calls _ _ _ W fun e w' => e = .returned (.int .i64 (r.removeE freshL)) ∧ DGo W B D O (r.remove freshL) (m + 1) w' := remove_do h freshB (by decide) hm
  unfold oldR
  obtain ⟨E, hE⟩ : ∃ E, r.removeE freshL = E := ⟨_, rfl⟩
  rw [hE] at hC ⊢
  have hC' := Lib.hid hC
  have c1 := h1.cell
  clear h h1 hC
  by_cases h4 : E = 4
  · subst h4
    go_enter Tryz.func45, Tryz.ntmps45
    go_wp2_with (go_at_call 46; (refine hC'.out.mono ?_; rintro e w1 ⟨rfl, hg⟩; have hg' := Lib.hid hg; clear hg))
    go_ret
    exact ⟨rfl, hg'.out⟩
  · have t1 : (E == 4) = false := by simpa using h4
    rw [if_neg h4]
    go_enter Tryz.func45, Tryz.ntmps45
    go_wp2_with (go_at_call 46; (refine hC'.out.mono ?_; rintro e w1 ⟨rfl, hg⟩; have hg' := Lib.hid hg; clear hg))
    go_ret
    exact ⟨rfl, hg'.out⟩
set_option maxRecDepth 100000 in
theorem ren_calls (h : DAt W B D O r m) (h1 : Blk W bd 39 #[dptr D]) (hm : m < 4000) :
    Calls Tryz.prog 50 #[.pointer (some ⟨bd, 0, none⟩)] W (Ans W B D O (r.rename freshL currentL, r.renameE freshL currentL) (m + 1)) := by
  have hC : Calls _ _ _ W fun e w' => e = .returned (.int .i64 (r.renameE freshL currentL)) ∧ DGo W B D O (r.rename freshL currentL) (m + 1) w' := rename_do h freshB currentB (by decide) (by decide) hm
  have hC' := Lib.hid hC
  have c1 := h1.cell
  clear h h1 hC
  go_enter Tryz.func50, Tryz.ntmps50
  go_wp2_with (go_at_call 51; (refine hC'.out.mono ?_; rintro e w1 ⟨rfl, hg⟩; have hg' := Lib.hid hg; clear hg))
  go_ret
  exact ⟨rfl, hg'.out⟩
end
end Go.Proofs.YtabcdodjkfknlaaGreatDoor
namespace Go.Proofs.YtabcdodjkfknlaaGreatDoor
open Go.RowKit
attribute [local go_sem] Oper.semAt_some
/-- a file laid whose bytes are safe -/
def layR (r : RD) (s b : List UInt8) : RD × Int :=
  if r.createE s ≠ 0 then (r.create s, r.createE s) else
  if (r.create s).appE s b.length ≠ 0 then ((r.create s).append s b, (r.create s).appE s b.length) else
  (((r.create s).append s b).sync s, ((r.create s).append s b).syncE s)
section
variable {W : World} {B D m : Nat} {O : Nat → Prop} {r : RD} {bd bn bb : Nat} {s : ByteArray}
theorem DGo.blk {W1 W2 : World} {r' : RD} {m' g : Nat} {t : TypeId} {cs : Array Value} (h : DGo W1 B D O r' m' W2) (hb : Blk W1 g t cs) (ho : ¬ O g) : Blk W2 g t cs := by
  obtain ⟨_, _, _, hk⟩ := h
  exact hb.keeps hk ho
def layJ (W1 : World) (B D m : Nat) (O : Nat → Prop) (r : RD) (s b : List UInt8) (k : Nat) (W' : World) : Prop :=
  match k with
  | 0 => DGo W1 B D O r m W'
  | 1 => r.createE s = 0 ∧ DGo W1 B D O (r.create s) (m + 1) W'
  | 2 => r.createE s = 0 ∧ (r.create s).appE s b.length = 0 ∧ DGo W1 B D O ((r.create s).append s b) (m + 2) W'
  | 3 => r.createE s = 0 ∧ (r.create s).appE s b.length = 0 ∧ ((r.create s).append s b).syncE s = 0 ∧ DGo W1 B D O (((r.create s).append s b).sync s) (m + 2) W'
  | _ => False
theorem layJ_go {W1 W' : World} {b l : List UInt8} {k : Nat} (h : layJ W1 B D m O r l b k W') : ∃ r' m', DGo W1 B D O r' m' W' := by
  match k, h with
  | 0, h => exact ⟨_, _, h⟩
  | 1, h => exact ⟨_, _, h.2⟩
  | 2, h => exact ⟨_, _, h.2.2⟩
  | 3, h => exact ⟨_, _, h.2.2.2⟩
set_option maxHeartbeats 1000000 in
set_option maxRecDepth 100000 in
theorem layC_calls {v : Value} {b : List UInt8} (h : DAt W B D O r m) (h1 : Blk W bd 39 #[dptr D]) (h2 : Blk W bn 9 #[.string s]) (h3 : Blk W bb 43 #[v]) (ho : ¬ O bd ∧ ¬ O bn ∧ ¬ O bb)
    (hv : Bytes W v b) (hn : ∀ g, v.ownBlock = some g → b ≠ [] → ¬ O g ∧ g < W.heap.size) (hs : s.size ≤ maxLen) (hm : m + 2 < 4000) (hl : b.length ≤ 65536) :
    Calls Tryz.prog 93 #[.pointer (some ⟨bd, 0, none⟩), .pointer (some ⟨bn, 0, none⟩), .pointer (some ⟨bb, 0, none⟩)] W (Ans W B D O (layR r s.data.toList b) (m + 2)) := by
  obtain ⟨cs, hcs⟩ : ∃ cs : Array Value, #[Value.func (.func 94) #[] #[.pointer (some ⟨bd, 0, none⟩), .pointer (some ⟨bn, 0, none⟩)], .func (.func 95) #[] #[.pointer (some ⟨bd, 0, none⟩), .pointer (some ⟨bn, 0, none⟩), .pointer (some ⟨bb, 0, none⟩)], .func (.func 96) #[] #[.pointer (some ⟨bd, 0, none⟩), .pointer (some ⟨bn, 0, none⟩)]] = cs := ⟨_, rfl⟩
  obtain ⟨W1, hW1⟩ : ∃ W1, W.alloc (.cells cs 88) = W1 := ⟨_, rfl⟩
  have hA := (Below.refl W.heap.size W).alloc (Nat.le_refl _) (.cells cs 88)
  have bG := Blk.new W 88 cs
  rw [hW1] at hA bG
  have hsz := hA.size
  have hO : ∀ j, O j → j < W.heap.size := fun j hj => (h.lt j hj).2
  have hgO : ¬ O W.heap.size := fun e => Nat.lt_irrefl _ (hO _ e)
  have b1 := h1.below hA h1.lt
  have b2 := h2.below hA h2.lt
  have b3 := h3.below hA h3.lt
  have hv1 := hv.later hA
  have hS := steps_calls [(94, #[], #[.pointer (some ⟨bd, 0, none⟩), .pointer (some ⟨bn, 0, none⟩)]), (95, #[], #[.pointer (some ⟨bd, 0, none⟩), .pointer (some ⟨bn, 0, none⟩), .pointer (some ⟨bb, 0, none⟩)]), (96, #[], #[.pointer (some ⟨bd, 0, none⟩), .pointer (some ⟨bn, 0, none⟩)])] W.heap.size W1
    (layJ W1 B D m O r s.data.toList b) (fun E W' => E = (layR r s.data.toList b).2 ∧ DGo W1 B D O (layR r s.data.toList b).1 (m + 2) W')
    (by
      intro x hx
      simp only [List.mem_cons, List.not_mem_nil, or_false] at hx
      rcases hx with rfl | rfl | rfl
      · exact enters_of Tryz.func94 (by kernel_rfl) rfl
      · exact enters_of Tryz.func95 (by kernel_rfl) rfl
      · exact enters_of Tryz.func96 (by kernel_rfl) rfl)
    (by
      intro i W' hJ x hx
      obtain ⟨r', m', hg⟩ := layJ_go hJ
      rw [(hg.blk bG hgO).cell, ← hcs]
      match i, hx with
      | 0, hx => obtain rfl := Option.some.inj hx; rfl
      | 1, hx => obtain rfl := Option.some.inj hx; rfl
      | 2, hx => obtain rfl := Option.some.inj hx; rfl)
    (by
      intro i x W' hx hJ
      match i, hx, hJ with
      | 0, hx, hJ =>
        obtain rfl := Option.some.inj hx
        have hJ0 : DGo W1 B D O r m W' := hJ
        obtain ⟨O1, hD, hsub, hk⟩ := id hJ0
        refine (lay1_calls hD (hJ0.blk b1 ho.1) (hJ0.blk b2 ho.2.1) hs (by omega)).mono ?_
        rintro e w' ⟨rfl, hg⟩
        have hT := DGo.step hsub hk hg
        refine ⟨_, rfl, fun hE => ?_, fun hE => ⟨hE, hT⟩⟩
        unfold layR
        rw [if_pos hE]
        exact ⟨rfl, hT.more (by omega)⟩
      | 1, hx, hJ =>
        obtain rfl := Option.some.inj hx
        obtain ⟨e1, hJ1⟩ : r.createE s.data.toList = 0 ∧ DGo W1 B D O (r.create s.data.toList) (m + 1) W' := hJ
        obtain ⟨O1, hD, hsub, hk⟩ := id hJ1
        refine (lay2_calls (v := v) (b := b) hD (hJ1.blk b1 ho.1) (hJ1.blk b2 ho.2.1) (hJ1.blk b3 ho.2.2) (hv1.keepsP hk fun g hg hb => (hn g hg hb).1) (fun g hg hb hO1 => by
          rcases hsub g hO1 with h | h
          · exact (hn g hg hb).1 h
          · have := (hn g hg hb).2; omega) hs (by omega) hl).mono ?_
        rintro e w' ⟨rfl, hg⟩
        have hT := DGo.step hsub hk hg
        refine ⟨_, rfl, fun hE => ?_, fun hE => ⟨e1, hE, hT⟩⟩
        unfold layR
        rw [if_neg (by rw [e1]; simp), if_pos hE]
        exact ⟨rfl, hT⟩
      | 2, hx, hJ =>
        obtain rfl := Option.some.inj hx
        obtain ⟨e1, e2, hJ2⟩ : r.createE s.data.toList = 0 ∧ (r.create s.data.toList).appE s.data.toList b.length = 0 ∧ DGo W1 B D O ((r.create s.data.toList).append s.data.toList b) (m + 2) W' := hJ
        obtain ⟨O1, hD, hsub, hk⟩ := id hJ2
        refine (lay3_calls hD (hJ2.blk b1 ho.1) (hJ2.blk b2 ho.2.1) hs).mono ?_
        rintro e w' ⟨rfl, hg⟩
        have hT := DGo.step hsub hk hg
        refine ⟨_, rfl, fun hE => ?_, fun hE => ⟨e1, e2, hE, hT⟩⟩
        unfold layR
        rw [if_neg (by rw [e1]; simp), if_neg (by rw [e2]; simp)]
        exact ⟨rfl, hT⟩)
    (by
      intro W' hJ
      have hJ3 : layJ W1 B D m O r s.data.toList b 3 W' := hJ
      obtain ⟨e1, e2, e3, hg⟩ := hJ3
      unfold layR
      rw [if_neg (by rw [e1]; simp), if_neg (by rw [e2]; simp)]
      exact ⟨e3.symm, hg⟩)
    (DGo.refl (h.later hA)) (by simp)
  have hS2 : Calls Tryz.prog 47 #[.slice (some ⟨W.heap.size, 0, none⟩) 3 3] W1 fun e w' => ∃ E, e = .returned (.int .i64 E) ∧ (E = (layR r s.data.toList b).2 ∧ DGo W1 B D O (layR r s.data.toList b).1 (m + 2) w') := hS
  have hS' := Lib.hid hS2
  have hA' := Lib.hid hA
  clear hS hS2 hA bG b1 b2 b3 hv1 hO hgO hsz h h1 h2 h3 ho hv hn
  subst hcs
  go_enter Tryz.func93, Tryz.ntmps93
  go_wp2_with (go_at_call 47; ((with_reducible refine hS'.out.mono ?_); rintro e w9 ⟨E, rfl, rfl, hg⟩; have hg' := Lib.hid (hg.ahead hA'.out); clear hg))
  go_ret
  exact ⟨rfl, hg'.out⟩
end
end Go.Proofs.YtabcdodjkfknlaaGreatDoor
