/- Walk: the document's Load. Walks: few, whatever the texts' lengths. Walks: one thing behind the other. Walks: a file laid whose bytes are safe. Walks: lay. -/
import Derived.Test.YtabcdodjkfknlaaGreatDoorPL23
import Derived.Test.YtabcdodjkfknlaaGreatDoorPL25
import Derived.Test.YtabcdodjkfknlaaGreatDoorPL19
import Derived.Test.YtabcdodjkfknlaaGreatDoorPL16
import Derived.Test.YtabcdodjkfknlaaGreatDoorPL26
import Derived.Test.YtabcdodjkfknlaaGreatDoorPL20
import Derived.Deep.DeepCutAuto
import Derived.Laws.EntriesVeiled
namespace Go.Proofs.YtabcdodjkfknlaaGreatDoor
open Go.RowKit
attribute [local go_sem ↓] dapp_op dslK_op
attribute [local go_sem] Oper.semAt_some
/-- how many bytes frames have -/
def sumLen (fs : List (List UInt8)) : Nat := (fs.map List.length).sum
theorem sumLen_all : ∀ (n : Nat) (b : List UInt8), b.length = n → sumLen (allL b) ≤ n := by
  intro n
  induction n using Nat.strongRecOn with
  | ind n ih =>
    intro b hb
    by_cases h : (nextL b).1 = 0
    · have hl := nextL_len h
      rw [allL_next h]
      have := ih (b.length - (8 + (nextL b).2.length)) (by omega) (b.drop (8 + (nextL b).2.length)) (by rw [List.length_drop])
      unfold sumLen at *
      rw [List.map_cons, List.sum_cons]
      omega
    · rw [allL_end h]; exact Nat.zero_le _
theorem allL_len : ∀ (n : Nat) (b : List UInt8), b.length = n → (allL b).length ≤ n := by
  intro n
  induction n using Nat.strongRecOn with
  | ind n ih =>
    intro b hb
    by_cases h : (nextL b).1 = 0
    · have hl := nextL_len h
      rw [allL_next h]
      have := ih (b.length - (8 + (nextL b).2.length)) (by omega) (b.drop (8 + (nextL b).2.length)) (by rw [List.length_drop])
      rw [List.length_cons]
      omega
    · rw [allL_end h]; exact Nat.zero_le _
theorem sumLen_take (fs : List (List UInt8)) : ∀ {k : Nat} {f : List UInt8}, fs[k]? = some f → sumLen (fs.take k) + f.length = sumLen (fs.take (k + 1)) := by
  intro k f hf
  unfold sumLen
  rw [List.take_add_one, hf, List.map_append, List.sum_append]
  simp
theorem sumLen_take_le (fs : List (List UInt8)) (k : Nat) : sumLen (fs.take k) ≤ sumLen fs := by
  unfold sumLen
  conv => rhs; rw [← List.take_append_drop k fs, List.map_append, List.sum_append]
  omega
theorem foldB_take {v : Ver} {fs : List (List UInt8)} {k : Nat} {f : List UInt8} (hf : fs[k]? = some f) : foldB v (fs.drop k) = if (decodeE f).2 ≠ 0 then none else if (applyV v (decodeE f).1).2 ≠ 0 then none else foldB (applyV v (decodeE f).1).1 (fs.drop (k + 1)) := by
  rw [drop_next hf]; rfl
/-- the version so far -/
structure LdAt (w wr : World) (V : Nat) (v : Ver) (n : Nat) : Prop where
  below : Below w.heap.size w wr
  bz : Blk wr w.heap.size 30 vZero
  row : ∃ sv, Blk wr V 30 #[sv, .int .u64 v.floor, .int .u64 v.head, .int .i64 v.log, .int .i64 v.next] ∧ rkT.Own w.heap.size wr sv v.tables
  hV : w.heap.size < V
  good : v.good n
section
variable {w wr w' : World} {V n : Nat} {v v' : Ver}
theorem LdAt.later (h : LdAt w wr V v n) (hb : Below wr.heap.size wr w') : LdAt w w' V v n := by
  obtain ⟨h1, h2, ⟨sv, h5, h6⟩, h7, h8⟩ := h
  exact ⟨h1.trans (hb.mono h1.size), h2.below hb h2.lt, ⟨sv, h5.below hb h5.lt, h6.later hb⟩, h7, h8⟩
theorem LdAt.set_ (h : LdAt w wr V v n) {sv : Value} (ho : rkT.Own w.heap.size wr sv v'.tables) {m : Nat} (hg : v'.good m) :
    ∃ W, ((((wr.setCell ⟨V, 0, none⟩ sv).setCell ⟨V, 1, none⟩ (.int .u64 v'.floor)).setCell ⟨V, 2, none⟩ (.int .u64 v'.head)).setCell ⟨V, 3, none⟩ (.int .i64 v'.log)).setCell ⟨V, 4, none⟩ (.int .i64 v'.next) = W ∧ LdAt w W V v' m ∧ Keeps (fun j => j = V) wr W := by
  obtain ⟨h1, h2, ⟨s0, h5, h6⟩, h7, h8⟩ := h
  obtain ⟨W, e, hb, hk⟩ := ver_set rfl h5 sv (.int .u64 v'.floor) (.int .u64 v'.head) (.int .i64 v'.log) (.int .i64 v'.next)
  exact ⟨W, e, ⟨h1.trans (hk.below (fun j _ e => by omega) h1.size), h2.keeps hk (fun e => by omega), ⟨sv, hb, ho.keeps hk fun j hj e => ho.blk_ne h5 (by decide) (by rw [hj, e])⟩, h7, hg⟩, hk⟩
end
set_option maxHeartbeats 4000000 in
set_option maxRecDepth 100000 in
theorem load21_calls {w0 w : World} {L : Nat → Prop} {D g m : Nat} {rp rr : RD} (h : Two w0 w L D g rp rr m) (hm : m < 4000) (hb : ∀ s, (rr.readB s).length ≤ 20000) :
    Calls Tryz.prog 29 #[.pointer (some ⟨g, 0, none⟩)] w (LoadPost w (loadR rr)) := by
  obtain ⟨X, hX⟩ : ∃ X, loadR rr = X := ⟨_, rfl⟩
  rw [hX]
  unfold loadR at hX
  have hRd := fun W (hb : Below w.heap.size w W) (s : ByteArray) (hs : s.size ≤ maxLen) => r_read (h.later hb) hm s hs
  have hR1 := fun W (hb : Below w.heap.size w W) => hRd W hb currentB (by decide)
  have hR1 : ∀ W, Below w.heap.size w W → Calls Tryz.prog 73 #[.pointer (some ⟨g, 0, none⟩), .string currentB] W (RReadPost W (rr.findE currentL) (rr.readB currentL)) := hR1
  obtain ⟨b1, hb1⟩ : ∃ b, rr.readB currentL = b := ⟨_, rfl⟩
  obtain ⟨e1, he1⟩ : ∃ e, rr.findE currentL = e := ⟨_, rfl⟩
  have hl1 : b1.length ≤ 20000 := by rw [← hb1]; exact hb _
  rw [he1, hb1] at hX
  simp only [he1, hb1] at hR1
  have hAl := (Below.refl w.heap.size w).alloc (Nat.le_refl _) (.cells vZero 30)
  have bZ := Blk.new w 30 vZero
  have hR1' := Lib.hid (hR1 _ hAl)
  have hRd' := Lib.hid hRd
  have hAl' := Lib.hid hAl
  have bZ' := Lib.hid bZ
  have hb' := Lib.hid hb
  clear hR1 hRd hAl bZ hb h
  by_cases h0 : e1 = 0
  · subst h0
    rw [if_neg (by simp)] at hX
    obtain ⟨F, hfn⟩ : ∃ F, fnum b1 = F := ⟨_, rfl⟩
    rw [hfn] at hX
    have hNum : ∀ W, Calls Tryz.prog 10 #[.string ⟨b1.toArray⟩] W fun e w' => e = .returned (.tuple (numV F)) ∧ Below W.heap.size W w' := fun W => by
      have hh := refNumber_calls ⟨b1.toArray⟩ W (by rw [Lib.size_eq]; show b1.length ≤ _; omega)
      unfold NumPost_ at hh
      rw [show (⟨b1.toArray⟩ : ByteArray).data.toList = b1 from rfl, hfn] at hh
      exact hh
    cases F with
    | none =>
      have hX2 : (Ver.zero, (0 : Int), (9 : Int)) = X := hX
      subst hX2
      have hN1 : ∀ W, Calls Tryz.prog 10 #[.string ⟨b1.toArray⟩] W fun e w' => e = .returned (.tuple #[.int .u8 0, .int .i64 0, .bool false]) ∧ Below W.heap.size W w' := hNum
      have hN2 := Lib.hid hN1
      clear hX hN1 hNum
      go_enter Tryz.func29, Tryz.ntmps29
      go_wp2_with (first
        | (go_at_call 73; (refine hR1'.out.mono ?_; rintro e w1 ⟨v1, rfl, o1, hb1⟩; have bZ1 := Lib.hid (bZ'.out.below hb1 bZ'.out.lt); have hb2 := Lib.hid (hAl'.out.trans (hb1.mono hAl'.out.size)); have hcv := bytes_string o1; obtain ⟨p1, c1, rfl⟩ := o1.slice; clear o1 hb1))
        | (go_at_call 10; (refine (hN2.out w1).mono ?_; rintro e w2 ⟨rfl, hb3⟩; have hb4 := Lib.hid (hb2.out.trans (hb3.mono hb2.out.size)); have bZ2 := Lib.hid (bZ1.out.below hb3 bZ1.out.lt); clear hb3; have cZ := bZ2.out.cell; have fZ := bZ2.out.frozen; obtain ⟨W9, hW9, bW9, kW9⟩ := ver_set rfl bZ2.out (.slice none 0 0) (.int .u64 0) (.int .u64 0) (.int .i64 0) (.int .i64 0))))
      have cW9 := bW9.cell
      refine bodyPost_ret (v := .tuple #[.agg vZero, .int .i64 0, .int .i64 9]) (by simp [results, Tryz.results29, go_sem, cW9]) rfl (load_bad (hb4.out.trans (kW9.below (fun j _ e => by omega) hb4.out.size)))
    | some kn =>
      obtain ⟨k, n⟩ := kn
      have hX2 : (if k ≠ 109 then (Ver.zero, (0 : Int), (9 : Int)) else if rr.findE b1 ≠ 0 then (Ver.zero, 0, rr.findE b1) else loadM n (rr.readB b1)) = X := hX
      have hN1 : ∀ W, Calls Tryz.prog 10 #[.string ⟨b1.toArray⟩] W fun e w' => e = .returned (.tuple #[.int .u8 k.toNat, .int .i64 n, .bool true]) ∧ Below W.heap.size W w' := hNum
      have hN2 := Lib.hid hN1
      clear hX hN1 hNum
      by_cases hk : k = 109
      · subst hk
        rw [if_neg (by simp)] at hX2
        have hN3 : ∀ W, Calls Tryz.prog 10 #[.string ⟨b1.toArray⟩] W fun e w' => e = .returned (.tuple #[.int .u8 109, .int .i64 n, .bool true]) ∧ Below W.heap.size W w' := hN2.out
        clear hN2
        have hN2 := Lib.hid hN3
        clear hN3
        obtain ⟨e2, he2⟩ : ∃ e, rr.findE b1 = e := ⟨_, rfl⟩
        obtain ⟨b2, hb2_⟩ : ∃ b, rr.readB b1 = b := ⟨_, rfl⟩
        have hl2 : b2.length ≤ 20000 := by rw [← hb2_]; exact hb'.out _
        rw [he2, hb2_] at hX2
        have hR2 : ∀ W, Below w.heap.size w W → Calls Tryz.prog 73 #[.pointer (some ⟨g, 0, none⟩), .string ⟨b1.toArray⟩] W (RReadPost W e2 b2) := fun W hW => by
          have hh := hRd'.out W hW ⟨b1.toArray⟩ (by rw [Lib.size_eq]; show b1.length ≤ _; unfold maxLen; omega)
          rw [show (⟨b1.toArray⟩ : ByteArray).data.toList = b1 from rfl, he2, hb2_] at hh
          exact hh
        have hR2' := Lib.hid hR2
        clear hR2 hRd' hb'
        by_cases h2 : e2 = 0
        · subst h2
          rw [if_neg (by simp)] at hX2
          rw [loadM_all] at hX2
          have hsl := sumLen_all _ b2 rfl
          have hfl := allL_len _ b2 rfl
          obtain ⟨fs, hfs⟩ : ∃ fs, allL b2 = fs := ⟨_, rfl⟩
          rw [hfs] at hX2 hsl hfl
          have hfs' := Lib.hid hfs
          clear hfs
          by_cases hfe : fs = []
          · rw [if_pos hfe] at hX2
            subst hX2
            subst hfe
            go_enter Tryz.func29, Tryz.ntmps29
            go_wp2_with (first
              | (go_at_call_of 73 (Value.string { data := #[99, 117, 114, 114, 101, 110, 116] }); (refine hR1'.out.mono ?_; rintro e w1 ⟨v1, rfl, o1, hb1⟩; have bZ1 := Lib.hid (bZ'.out.below hb1 bZ'.out.lt); have hb2 := Lib.hid (hAl'.out.trans (hb1.mono hAl'.out.size)); have hcv := bytes_string o1; have hBy := Lib.hid o1; obtain ⟨p1, c1, rfl⟩ := o1.slice; clear o1 hb1))
              | (go_at_call 10; (refine (hN2.out w1).mono ?_; rintro e w2 ⟨rfl, hb3⟩; have hb4 := Lib.hid (hb2.out.trans (hb3.mono hb2.out.size)); have bZ2 := Lib.hid (bZ1.out.below hb3 bZ1.out.lt); have hcv2 := bytes_string (hBy.out.later hb3); clear hb3 hcv))
              | (go_at_call_of 73 (Value.string { data := b1.toArray }); (refine (hR2'.out w2 hb4.out).mono ?_; rintro e w3 ⟨v3, rfl, o3, hb5⟩; have bZ3 := Lib.hid (bZ2.out.below hb5 bZ2.out.lt); have hb6 := Lib.hid (hb4.out.trans (hb5.mono hb4.out.size)); have hAL := all03_calls v3 b2 w3 o3 (by omega); rw [hfs'.out] at hAL; have hAL' := Lib.hid hAL; clear hb5 o3 hAL))
              | (go_at_call 74; (refine hAL'.out.mono ?_; rintro e w4 ⟨pf, cf, zs, nn, rfl, oF, rB, hb7⟩; have bZ4 := Lib.hid (bZ3.out.below hb7 bZ3.out.lt); have hb8 := Lib.hid (hb6.out.trans (hb7.mono hb6.out.size)); clear hb7 oF rB; have cZ := bZ4.out.cell; have fZ := bZ4.out.frozen; obtain ⟨W9, hW9, bW9, kW9⟩ := ver_set rfl bZ4.out (.slice none 0 0) (.int .u64 0) (.int .u64 0) (.int .i64 0) (.int .i64 0))))
            have cW9 := bW9.cell
            refine bodyPost_ret (v := .tuple #[.agg vZero, .int .i64 0, .int .i64 9]) (by simp [results, Tryz.results29, go_sem, cW9]) rfl (load_bad (hb8.out.trans (kW9.below (fun j _ e => by omega) hb8.out.size)))
          · rw [if_neg hfe] at hX2
            obtain ⟨N, hN⟩ : ∃ N, fs.length = N := ⟨_, rfl⟩
            have hN0 : 0 < N := by rw [← hN]; exact List.length_pos_iff.2 hfe
            have hNl : N ≤ 20000 := by omega
            have hN' := Lib.hid hN
            have tN : ((N : Int) == 0) = false := by rw [beq_eq_false_iff_ne]; omega
            clear hfe hN
            go_enter Tryz.func29, Tryz.ntmps29
            go_wp2_with (first
              | (go_at_call_of 73 (Value.string { data := #[99, 117, 114, 114, 101, 110, 116] }); (refine hR1'.out.mono ?_; rintro e w1 ⟨v1, rfl, o1, hb1⟩; have bZ1 := Lib.hid (bZ'.out.below hb1 bZ'.out.lt); have hb2 := Lib.hid (hAl'.out.trans (hb1.mono hAl'.out.size)); have hcv := bytes_string o1; have hBy := Lib.hid o1; obtain ⟨p1, c1, rfl⟩ := o1.slice; clear o1 hb1))
              | (go_at_call 10; (refine (hN2.out w1).mono ?_; rintro e w2 ⟨rfl, hb3⟩; have hb4 := Lib.hid (hb2.out.trans (hb3.mono hb2.out.size)); have bZ2 := Lib.hid (bZ1.out.below hb3 bZ1.out.lt); have hcv2 := bytes_string (hBy.out.later hb3); clear hb3 hcv))
              | (go_at_call_of 73 (Value.string { data := b1.toArray }); (refine (hR2'.out w2 hb4.out).mono ?_; rintro e w3 ⟨v3, rfl, o3, hb5⟩; have bZ3 := Lib.hid (bZ2.out.below hb5 bZ2.out.lt); have hb6 := Lib.hid (hb4.out.trans (hb5.mono hb4.out.size)); have hAL := all03_calls v3 b2 w3 o3 (by omega); rw [hfs'.out] at hAL; have hAL' := Lib.hid hAL; clear hb5 o3 hAL))
              | (go_at_call 74; (refine hAL'.out.mono ?_; rintro e w4 ⟨pf, cf, zs, nn, rfl, oF, rB, hb7⟩; have bZ4 := Lib.hid (bZ3.out.below hb7 bZ3.out.lt); have hb8 := Lib.hid (hb6.out.trans (hb7.mono hb6.out.size)); rw [hN'.out] at oF ⊢; have oF' := Lib.hid (oF.at_ rkB_ok); have rB' := Lib.hid (rB.later hb7); clear hb7 oF rB)))
            have hL0 : LdAt w (w4.alloc (.cells #[.slice none 0 0, .int .u64 0, .int .u64 0, .int .i64 0, .int .i64 1] 30)) w4.heap.size Ver.first 0 :=
              ⟨hb8.out.alloc hb8.out.size _, bZ4.out.alloc _, ⟨.slice none 0 0, Blk.new _ _ _, RowK.Own.nil _ _ _⟩, bZ4.out.lt, first_good _⟩
            have hL0' := Lib.hid hL0
            have hb40 := Lib.hid ((Below.refl w4.heap.size w4).alloc (Nat.le_refl _) (.cells #[.slice none 0 0, .int .u64 0, .int .u64 0, .int .i64 0, .int .i64 1] 30))
            obtain ⟨V, hV⟩ : ∃ V, w4.heap.size = V := ⟨_, rfl⟩
            have hVw := Lib.hid hV
            rw [hV] at hL0' ⊢
            have hX2' := Lib.hid hX2
            have hsl' := Lib.hid hsl
            clear hL0 hV bZ4 hb8 hcv2 hBy hb4 bZ2 hb2 bZ1 hX2 hN2 hR2' hR1' hR1 bZ' hAl' hb6 bZ3 hAL' hsl
            go_loopw [63] (fun i wr => ∃ (k : Nat) (v : Ver), i = .int .i64 k ∧ k ≤ N ∧ foldB Ver.first fs = foldB v (fs.drop k) ∧ LdAt w wr V v (sumLen (fs.take k)) ∧ Below w4.heap.size w4 wr) (fun i _ => N - (intOf i).toNat)
            case atStart => exact ⟨0, Ver.first, rfl, Nat.zero_le _, by rw [List.drop_zero], hL0'.out, hb40.out⟩
            case round =>
              clear hL0' hb40
              obtain ⟨k, v, rfl, hk, hfo, hL, hB4⟩ := hrel
              obtain ⟨wo, rfl⟩ : ∃ wo : World, wo = wr := ⟨_, rfl⟩
              by_cases hlt : k < N
              · obtain ⟨f, hf⟩ : ∃ f, fs[k]? = some f := ⟨_, List.getElem?_eq_getElem (by rw [hN'.out]; exact hlt)⟩
                obtain ⟨z, hz⟩ : ∃ z, zs[k]? = some z := ⟨_, List.getElem?_eq_getElem (by rw [rB'.out.1, hN'.out]; exact hlt)⟩
                obtain ⟨f', hf', hBy⟩ := rB'.out.2 k z hz
                obtain rfl : f = f' := Option.some.inj (hf.symm.trans hf')
                obtain ⟨a, rfl, hab, hc⟩ := (oF'.out.below hB4) k z hz
                have hc0 := hc 0 _ rfl
                rw [show rkB.K = 1 from rfl, Nat.mul_one, Nat.add_zero] at hc0
                obtain ⟨z1, z2, z3⟩ := z
                simp only at hBy hc0
                have hst := sumLen_take fs hf
                have hle := Nat.le_trans (sumLen_take_le fs (k + 1)) hsl'.out
                have hfo2 := hfo
                rw [foldB_take hf] at hfo2
                have hDec := decode16_calls _ f wo (hBy.later hB4) (by omega)
                have hgE := decodeE_good f
                obtain ⟨y, hy⟩ : ∃ y, decodeE f = y := ⟨_, rfl⟩
                rw [hy] at hDec hgE hfo2
                obtain ⟨x, de⟩ := y
                have hDec' := Lib.hid hDec
                have hgE' := Lib.hid hgE
                have hfo' := Lib.hid hfo2
                have hL' := Lib.hid hL
                have hB4' := Lib.hid hB4
                have hst' := Lib.hid hst
                clear hDec hgE hfo2 hL hB4 hst hf hf' hBy hc hz hfo hy
                by_cases hde : de = 0
                · subst hde
                  have hgx : x.good f.length := hgE'.out
                  go_wp2_with fail
                  refine hDec'.out.mono ?_
                  rintro e w5 ⟨v5, rfl, hEI, hb5⟩
                  obtain ⟨av, dv, rfl, oa, od⟩ := hEI
                  obtain ⟨pa, ca, rfl⟩ := oa.slice
                  obtain ⟨pd, cd, rfl⟩ := od.slice
                  have hA5 := (Below.refl w5.heap.size w5).alloc (Nat.le_refl _) (.cells #[.slice pa x.add.length ca, .slice pd x.drop.length cd, .int .u64 x.floor, .int .u64 x.head, .int .i64 x.log, .int .i64 x.next] 33)
                  have hL6 := (hL'.out.later hb5).later hA5
                  have hB6 := (hB4'.out.trans (hb5.mono hB4'.out.size)).trans (hA5.mono (Nat.le_trans hB4'.out.size hb5.size))
                  have hEI6 : EdtIs w.heap.size (w5.alloc (.cells #[.slice pa x.add.length ca, .slice pd x.drop.length cd, .int .u64 x.floor, .int .u64 x.head, .int .i64 x.log, .int .i64 x.next] 33)) (.agg #[.slice pa x.add.length ca, .slice pd x.drop.length cd, .int .u64 x.floor, .int .u64 x.head, .int .i64 x.log, .int .i64 x.next]) x := ⟨_, _, rfl, (oa.later hA5).mono hL'.out.below.size, (od.later hA5).mono hL'.out.below.size⟩
                  obtain ⟨sv, bV6, oV6⟩ := hL6.row
                  obtain ⟨sp, sc, rfl⟩ := oV6.slice
                  have hgv := hL6.good
                  have hst2 := hst'.out
                  have hAp := apply16_calls w.heap.size _ _ v x _ ⟨_, rfl, oV6⟩ hEI6 (hgv.mono (by omega)) (hgx.mono (by omega))
                  have hgy := applyV_good hgv hgx
                  obtain ⟨y, hy2⟩ : ∃ y, applyV v x = y := ⟨_, rfl⟩
                  have hfo2 := hfo'.out
                  rw [if_neg (by simp)] at hfo2
                  (try simp only at hfo2)
                  rw [hy2] at hAp hgy hfo2
                  obtain ⟨yv, ae⟩ := y
                  have bE6 := (Blk.new w5 33 #[.slice pa x.add.length ca, .slice pd x.drop.length cd, .int .u64 x.floor, .int .u64 x.head, .int .i64 x.log, .int .i64 x.next]).cell
                  have cV6 := bV6.cell
                  have hVl : V < w5.heap.size := Nat.lt_of_lt_of_le (by obtain ⟨_, hb, _⟩ := hL'.out.row; exact hb.lt) hb5.size
                  have hAp' := Lib.hid hAp
                  have hL6' := Lib.hid hL6
                  have bV6' := Lib.hid bV6
                  have hgy' := Lib.hid hgy
                  have hfo3 := Lib.hid hfo2
                  have hB6' := Lib.hid hB6
                  clear hAp hL6 bV6 oV6 hgv hgy hy2 hA5 oa od hb5 hL' hgx hgE' hDec' hEI6 hfo2 hfo' hB6 hB4' hst2
                  obtain ⟨tv, fv, dv, lv, xv⟩ := v
                  obtain ⟨ta, td, fe, dq, le_, xe⟩ := x
                  simp only at cV6 bE6 hAp' hL6' bV6' hfo3 hB6'
                  obtain ⟨nT, hnT⟩ : ∃ nT, tv.length = nT := ⟨_, rfl⟩
                  obtain ⟨nA, hnA⟩ : ∃ nA, ta.length = nA := ⟨_, rfl⟩
                  obtain ⟨nD, hnD⟩ : ∃ nD, td.length = nD := ⟨_, rfl⟩
                  rw [hnT] at cV6 hAp' bV6'
                  rw [hnA, hnD] at bE6 hAp' hL6' bV6' cV6 hB6' ⊢
                  go_wp2_with fail
                  refine hAp'.out.mono ?_
                  rintro e w7 ⟨v7, rfl, ⟨sv7, hv7, o7⟩, hb7⟩
                  obtain ⟨p7, c7, rfl⟩ := o7.slice
                  subst hv7
                  have hLc := hL6'.out.later hb7
                  have hB7 := hB6'.out.trans (hb7.mono hB6'.out.size)
                  obtain ⟨W8, hW8, hL8, kW8⟩ := hLc.set_ (v' := yv) (sv := .slice p7 yv.tables.length c7) (o7.mono hL6'.out.below.size) hgy'.out
                  have hB8 := Lib.hid (hB7.trans (kW8.below (fun j _ e => by have := hVw.out; omega) hB7.size))
                  have bV7 := bV6'.out.below hb7 bV6'.out.lt
                  have cV7 := bV7.cell
                  have fV7 := bV7.frozen
                  have hL8' := Lib.hid hL8
                  clear hLc hL8 o7 hb7 bV7 hL6' bV6' hAp' cV6 bE6 hB7 kW8 hB6'
                  obtain ⟨tz, fz, dz, lz, xz⟩ := yv
                  simp only at hW8 hfo3 hgy' hL8' ⊢
                  by_cases hae : ae = 0
                  · subst hae
                    have hfo4 := hfo3.out
                    rw [if_neg (by simp)] at hfo4
                    have hfo5 := Lib.hid hfo4
                    clear hfo4 hfo3 hX2'
                    go_wp2_with fail
                    go_roundw
                    case rel => exact ⟨k + 1, ⟨tz, fz, dz, lz, xz⟩, by go_num, by omega, hfo5.out, by rw [← hst'.out]; exact hL8'.out, hB8.out⟩
                    case measure => simp [intOf]; omega
                  · have td : (ae != 0) = true := by simpa using hae
                    have hfo4 := hfo3.out
                    rw [if_pos hae] at hfo4
                    have hXe := hX2'.out
                    rw [hfo4] at hXe
                    have hX4 : (Ver.zero, (0 : Int), (9 : Int)) = X := hXe
                    subst hX4
                    obtain ⟨W9, hW9, bW9, kW9⟩ := ver_set rfl hL8'.out.bz (.slice none 0 0) (.int .u64 0) (.int .u64 0) (.int .i64 0) (.int .i64 0)
                    have bW9' := Lib.hid bW9
                    have cZ8 := hL8'.out.bz.cell
                    have fZ8 := hL8'.out.bz.frozen
                    have hBz := Lib.hid hL8'.out.below
                    clear hXe hX2' hgy' bW9 hfo4 hfo3
                    go_wp2_with fail
                    have cW9 := bW9'.out.cell
                    refine bodyPost_ret (v := .tuple #[.agg vZero, .int .i64 0, .int .i64 9]) (by simp [results, Tryz.results29, go_sem, cW9]) rfl (load_bad (hBz.out.trans (kW9.below (fun j _ e => by omega) hBz.out.size)))
                · have td : (de != 0) = true := by simpa using hde
                  have hfo4 := hfo'.out
                  rw [if_pos hde] at hfo4
                  have hXe := hX2'.out
                  rw [hfo4] at hXe
                  have hX4 : (Ver.zero, (0 : Int), (9 : Int)) = X := hXe
                  subst hX4
                  have bZo := Lib.hid hL'.out.bz
                  have hBo := Lib.hid hL'.out.below
                  clear hXe hfo' hfo4 hX2'
                  go_wp2_with (go_at_call 75; (refine hDec'.out.mono ?_; rintro e w5 ⟨v5, rfl, ⟨av, dv, rfl, oa, od⟩, hb5⟩; obtain ⟨pa, ca, rfl⟩ := oa.slice; obtain ⟨pd, cd, rfl⟩ := od.slice; have bZ5 := (bZo.out.below hb5 bZo.out.lt).alloc (.cells #[.slice pa x.add.length ca, .slice pd x.drop.length cd, .int .u64 x.floor, .int .u64 x.head, .int .i64 x.log, .int .i64 x.next] 33); have hB5 := Lib.hid ((hBo.out.trans (hb5.mono hBo.out.size)).alloc (Nat.le_trans hBo.out.size hb5.size) (.cells #[.slice pa x.add.length ca, .slice pd x.drop.length cd, .int .u64 x.floor, .int .u64 x.head, .int .i64 x.log, .int .i64 x.next] 33)); have cZ5 := bZ5.cell; have fZ5 := bZ5.frozen; clear oa od hb5; obtain ⟨W9, hW9, bW9, kW9⟩ := ver_set rfl bZ5 (.slice none 0 0) (.int .u64 0) (.int .u64 0) (.int .i64 0) (.int .i64 0); have bW9' := Lib.hid bW9; clear bW9 bZ5))
                  have cW9 := bW9'.out.cell
                  refine bodyPost_ret (v := .tuple #[.agg vZero, .int .i64 0, .int .i64 9]) (by simp [results, Tryz.results29, go_sem, cW9]) rfl (load_bad (hB5.out.trans (kW9.below (fun j _ e => by omega) hB5.out.size)))
              · obtain rfl : k = N := by omega
                rw [show fs.drop k = [] from List.drop_eq_nil_of_le (by rw [hN'.out]; exact Nat.le_refl _)] at hfo
                have hfo2 : foldB Ver.first fs = some v := hfo
                have hXe := hX2'.out
                rw [hfo2] at hXe
                have hX4 : (v, (n : Int), (0 : Int)) = X := hXe
                subst hX4
                obtain ⟨sv, bV4, oV4⟩ := hL.row
                obtain ⟨sp, sc, rfl⟩ := oV4.slice
                have bZ4 := hL.bz
                have hne := oV4.blk_ne bZ4 (by decide)
                obtain ⟨M, hM⟩ : ∃ M, v.tables.length = M := ⟨_, rfl⟩
                rw [hM] at bV4 oV4 hne
                obtain ⟨W9, hW9, bW9, kW9⟩ := ver_set rfl bZ4 (.slice sp M sc) (.int .u64 v.floor) (.int .u64 v.head) (.int .i64 v.log) (.int .i64 v.next)
                have cZ := bZ4.cell
                have fZ := bZ4.frozen
                have cV := bV4.cell
                have hV4 := hL.hV
                have oW9 : VerOwn w.heap.size W9 (.agg #[.slice sp M sc, .int .u64 v.floor, .int .u64 v.head, .int .i64 v.log, .int .i64 v.next]) v := ⟨_, rfl, oV4.keeps kW9 fun j hj e => hne (by rw [hj, e])⟩
                have bW9' := Lib.hid bW9
                have oW9' := Lib.hid oW9
                have hBz := Lib.hid hL.below
                clear hXe hfo2 hfo bV4 oV4 bZ4 bW9 oW9 hne hM hL hB4 hX2'
                obtain ⟨tv, fv, dv, lv, xv⟩ := v
                simp only at cV hW9 bW9' oW9' kW9
                go_wp2_with fail
                have cW9 := bW9'.out.cell
                refine bodyPost_ret (v := .tuple #[.agg #[.slice sp M sc, .int .u64 fv, .int .u64 dv, .int .i64 lv, .int .i64 xv], .int .i64 n, .int .i64 0]) (by simp [results, Tryz.results29, go_sem, cW9]) rfl ⟨_, rfl, oW9'.out, hBz.out.trans (kW9.below (fun j _ e => by omega) hBz.out.size)⟩
        · rw [if_pos h2] at hX2
          subst hX2
          have t2 : (e2 != 0) = true := by simpa using h2
          go_enter Tryz.func29, Tryz.ntmps29
          go_wp2_with (first
            | (go_at_call_of 73 (Value.string { data := #[99, 117, 114, 114, 101, 110, 116] }); (refine hR1'.out.mono ?_; rintro e w1 ⟨v1, rfl, o1, hb1⟩; have bZ1 := Lib.hid (bZ'.out.below hb1 bZ'.out.lt); have hb2 := Lib.hid (hAl'.out.trans (hb1.mono hAl'.out.size)); have hcv := bytes_string o1; have hBy := Lib.hid o1; obtain ⟨p1, c1, rfl⟩ := o1.slice; clear o1 hb1))
            | (go_at_call 10; (refine (hN2.out w1).mono ?_; rintro e w2 ⟨rfl, hb3⟩; have hb4 := Lib.hid (hb2.out.trans (hb3.mono hb2.out.size)); have bZ2 := Lib.hid (bZ1.out.below hb3 bZ1.out.lt); have hcv2 := bytes_string (hBy.out.later hb3); clear hb3 hcv))
            | (go_at_call_of 73 (Value.string { data := b1.toArray }); (refine (hR2'.out w2 hb4.out).mono ?_; rintro e w3 ⟨v3, rfl, o3, hb5⟩; have bZ3 := Lib.hid (bZ2.out.below hb5 bZ2.out.lt); have hb6 := Lib.hid (hb4.out.trans (hb5.mono hb4.out.size)); clear hb5; have cZ := bZ3.out.cell; have fZ := bZ3.out.frozen; obtain ⟨W9, hW9, bW9, kW9⟩ := ver_set rfl bZ3.out (.slice none 0 0) (.int .u64 0) (.int .u64 0) (.int .i64 0) (.int .i64 0))))
          have cW9 := bW9.cell
          refine bodyPost_ret (v := .tuple #[.agg vZero, .int .i64 0, .int .i64 e2]) (by simp [results, Tryz.results29, go_sem, cW9]) rfl (load_bad (hb6.out.trans (kW9.below (fun j _ e => by omega) hb6.out.size)))
      · rw [if_pos hk] at hX2
        subst hX2
        have tk : ((k.toNat : Int) != 109) = true := by
          rw [bne_iff_ne]
          intro hh
          exact hk (UInt8.toNat_inj.1 (by show k.toNat = 109; omega))
        go_enter Tryz.func29, Tryz.ntmps29
        go_wp2_with (first
          | (go_at_call 73; (refine hR1'.out.mono ?_; rintro e w1 ⟨v1, rfl, o1, hb1⟩; have bZ1 := Lib.hid (bZ'.out.below hb1 bZ'.out.lt); have hb2 := Lib.hid (hAl'.out.trans (hb1.mono hAl'.out.size)); have hcv := bytes_string o1; obtain ⟨p1, c1, rfl⟩ := o1.slice; clear o1 hb1))
          | (go_at_call 10; (refine (hN2.out w1).mono ?_; rintro e w2 ⟨rfl, hb3⟩; have hb4 := Lib.hid (hb2.out.trans (hb3.mono hb2.out.size)); have bZ2 := Lib.hid (bZ1.out.below hb3 bZ1.out.lt); clear hb3; have cZ := bZ2.out.cell; have fZ := bZ2.out.frozen; obtain ⟨W9, hW9, bW9, kW9⟩ := ver_set rfl bZ2.out (.slice none 0 0) (.int .u64 0) (.int .u64 0) (.int .i64 0) (.int .i64 0))))
        have cW9 := bW9.cell
        refine bodyPost_ret (v := .tuple #[.agg vZero, .int .i64 0, .int .i64 9]) (by simp [results, Tryz.results29, go_sem, cW9]) rfl (load_bad (hb4.out.trans (kW9.below (fun j _ e => by omega) hb4.out.size)))
  · rw [if_pos h0] at hX
    subst hX
    have t1 : (e1 != 0) = true := by simpa using h0
    go_enter Tryz.func29, Tryz.ntmps29
    go_wp2_with (go_at_call 73; (refine hR1'.out.mono ?_; rintro e w1 ⟨v1, rfl, o1, hb1⟩; have bZ1 := bZ'.out.below hb1 bZ'.out.lt; have hb2 := Lib.hid (hAl'.out.trans (hb1.mono hAl'.out.size)); obtain ⟨p1, c1, rfl⟩ := o1.slice; have cZ1 := bZ1.cell; have fZ1 := bZ1.frozen; clear o1 hb1; obtain ⟨W9, hW9, bW9, kW9⟩ := ver_set rfl bZ1 (.slice none 0 0) (.int .u64 0) (.int .u64 0) (.int .i64 0) (.int .i64 0); clear bZ1))
    have cW9 := bW9.cell
    refine bodyPost_ret (v := .tuple #[.agg vZero, .int .i64 0, .int .i64 e1]) (by simp [results, Tryz.results29, go_sem, cW9]) rfl (load_bad (hb2.out.trans (kW9.below (fun j _ e => by omega) hb2.out.size)))
end Go.Proofs.YtabcdodjkfknlaaGreatDoor
namespace Go.Proofs.YtabcdodjkfknlaaGreatDoor
open Go.RowKit
attribute [local go_sem] Oper.semAt_some
/-- if it says that it is few, there are no more than 40 tables -/
def FewAny (w : World) (n : Nat) (e : Ending) (w' : World) : Prop := ∃ b : Bool, e = .returned (.bool b) ∧ (b = true → n ≤ 40) ∧ Below w.heap.size w w'
set_option maxHeartbeats 4000000 in
set_option maxRecDepth 100000 in
theorem few16_any (p : Option Addr) (c : Nat) (l : List Tbl) (w : World) (hA : rkT.At w p l) (hl : l.length ≤ maxLen) : Calls Tryz.prog 14 #[.agg #[.slice p l.length c, .slice none 0 0, .int .u64 0, .int .u64 0, .int .i64 0, .int .i64 0]] w (FewAny w l.length) := by
  obtain ⟨L, hL⟩ : ∃ L, l.length = L := ⟨_, rfl⟩
  rw [hL] at hl ⊢
  obtain ⟨W1, hW1⟩ : ∃ W1, w.alloc (.cells #[.slice p L c, .slice none 0 0, .int .u64 0, .int .u64 0, .int .i64 0, .int .i64 0] 33) = W1 := ⟨_, rfl⟩
  have b1 : Blk W1 w.heap.size 33 #[.slice p L c, .slice none 0 0, .int .u64 0, .int .u64 0, .int .i64 0, .int .i64 0] := by rw [← hW1]; exact Blk.new w _ _
  have hB1 : Below w.heap.size w W1 := by rw [← hW1]; exact (Below.refl _ w).alloc (Nat.le_refl _) _
  have c1 := b1.cell
  have b1' := Lib.hid b1
  have hB1' := Lib.hid hB1
  have hA' := Lib.hid (hA.below hB1)
  have hL' := Lib.hid hL
  have hl' : L ≤ 9223372036854775807 := hl
  clear hL hA b1 hB1 hl
  go_enter Tryz.func14, Tryz.ntmps14
  go_wp2
  have hlt1 := Lib.hid b1'.out.lt
  go_loopw [8] (fun i wr => ∃ k : Nat, i = .int .i64 k ∧ k ≤ L ∧ Below W1.heap.size W1 wr) (fun i _ => L - (intOf i).toNat)
  case atStart => exact ⟨0, rfl, by omega, Below.refl _ _⟩
  case round =>
    obtain ⟨wo, rfl⟩ : ∃ wo : World, wo = wr := ⟨_, rfl⟩
    obtain ⟨k, rfl, hk, hb⟩ := hrel
    clear c1
    by_cases hlt : k < L
    · obtain ⟨t, ht⟩ : ∃ t, l[k]? = some t := ⟨_, List.getElem?_eq_getElem (by rw [hL'.out]; exact hlt)⟩
      obtain ⟨a, b, rfl, hab, hbl, q0, q1, q2, q3, q4⟩ := tbl_at (hA'.out.below hb) ht
      obtain ⟨tn, tl, tz, tf, ta⟩ := t
      simp only at q0 q1 q2 q3 q4
      have n1 : 0 < L := by omega
      have hb' := Lib.hid (hb.alloc hb.size (.cells #[.int .i64 tn, .int .i64 tl, .int .i64 tz, .string tf, .string ta] 76))
      clear hb ht
      go_upto_region 4 with fail
      go_cut [19] from 12 to 19 (fun s wx => (∃ b : Bool, s = .bool b) ∧ Below W1.heap.size W1 wx)
      case first =>
        go_wp2_with fail
        go_meet
        exact ⟨⟨_, rfl⟩, hb'.out⟩
      case rest =>
        obtain ⟨⟨bb, rfl⟩, hb2⟩ := hcut
        have hb2' := Lib.hid hb2
        clear hb2 q0 q1 q2 q3 q4
        cases bb with
        | true =>
          go_wp2_with fail
          go_ret
          exact ⟨false, rfl, fun h => (by cases h), hB1'.out.trans (hb2'.out.mono hB1'.out.size)⟩
        | false =>
          go_wp2_with fail
          go_roundw
          case rel => exact ⟨k + 1, by go_num, by omega, hb2'.out⟩
          case measure => simp [intOf]; omega
    · obtain rfl : k = L := by omega
      have c2 := (b1'.out.below hb b1'.out.lt).cell
      have hB3 := Lib.hid (hB1'.out.trans (hb.mono hB1'.out.size))
      clear hb
      by_cases h1 : k ≤ 40
      · have t2 : (k : Int) ≤ 40 := by omega
        go_wp2
        go_ret
        exact ⟨true, rfl, fun _ => h1, hB3.out⟩
      · have t2 : ¬ (k : Int) ≤ 40 := by omega
        go_wp2
        go_ret
        exact ⟨false, rfl, fun h => (by cases h), hB3.out⟩
set_option maxHeartbeats 1000000 in
set_option maxRecDepth 100000 in
theorem few21_any (p : Option Addr) (c : Nat) (l : List Tbl) (f h : Nat) (lg nx : Int) (w : World) (hA : rkT.At w p l) (hl : l.length ≤ maxLen) : Calls Tryz.prog 13 #[.agg #[.slice p l.length c, .int .u64 f, .int .u64 h, .int .i64 lg, .int .i64 nx]] w (FewAny w l.length) := by
  have b1 := Blk.new w 30 #[.slice p l.length c, .int .u64 f, .int .u64 h, .int .i64 lg, .int .i64 nx]
  have hB1 := (Below.refl w.heap.size w).alloc (Nat.le_refl _) (.cells #[.slice p l.length c, .int .u64 f, .int .u64 h, .int .i64 lg, .int .i64 nx] 30)
  have hC := few16_any p c l _ (hA.below hB1) hl
  have c1 := b1.cell
  have hC' := Lib.hid hC
  have hB1' := Lib.hid hB1
  clear hC hB1 b1 hA
  generalize l.length = L at *
  go_enter Tryz.func13, Tryz.ntmps13
  go_wp2_with fail
  refine hC'.out.mono ?_
  rintro e w1 ⟨bb, rfl, hq, hb⟩
  have hb' := Lib.hid (hB1'.out.trans (hb.mono hB1'.out.size))
  clear hb c1
  go_wp2_with fail
  go_ret
  exact ⟨bb, rfl, hq, hb'.out⟩
end Go.Proofs.YtabcdodjkfknlaaGreatDoor
namespace Go.Proofs.YtabcdodjkfknlaaGreatDoor
open Go.RowKit
attribute [local go_sem] Oper.semAt_some
set_option maxHeartbeats 2000000 in
set_option maxRecDepth 100000 in
theorem steps_calls (fs : List (Nat × Array Value × Array Value)) (g : Nat) (w : World) (J : Nat → World → Prop) (Done : Int → World → Prop)
    (hE : ∀ x ∈ fs, ∀ args w, (callFunc x.1 args).run Tryz.prog w = .ok (.enter x.1 args) w)
    (hcell : ∀ i W, J i W → ∀ x, fs[i]? = some x → W.cell? ⟨g, i, none⟩ = some (.func (.func x.1) x.2.1 x.2.2))
    (hstep : ∀ i x W, fs[i]? = some x → J i W → Calls Tryz.prog x.1 (x.2.1 ++ x.2.2) W fun e w' => ∃ E, e = .returned (.int .i64 E) ∧ (E ≠ 0 → Done E w') ∧ (E = 0 → J (i + 1) w'))
    (hend : ∀ W, J fs.length W → Done 0 W) (h0 : J 0 w) (hn : fs.length ≤ 1000) :
    Calls Tryz.prog 47 #[.slice (some ⟨g, 0, none⟩) fs.length fs.length] w fun e w' => ∃ E, e = .returned (.int .i64 E) ∧ Done E w' := by
  have hE' := Lib.hid hE
  have hcell' := Lib.hid hcell
  have hstep' := Lib.hid hstep
  have hend' := Lib.hid hend
  have h0' := Lib.hid h0
  clear hE hcell hstep hend h0
  obtain ⟨L, hL⟩ : ∃ L, fs.length = L := ⟨_, rfl⟩
  have hL' := Lib.hid hL
  rw [hL] at hn ⊢
  clear hL
  go_enter Tryz.func47, Tryz.ntmps47
  go_wp2
  go_loopw [4, 5, 8] (fun _ _ i wr => ∃ k : Nat, i = .int .i64 k ∧ k ≤ L ∧ J k wr) (fun _ _ i _ => L - (intOf i).toNat)
  case atStart => exact ⟨0, rfl, by omega, h0'.out⟩
  case round =>
    obtain ⟨wo, rfl⟩ : ∃ wo : World, wo = wr := ⟨_, rfl⟩
    obtain ⟨k, rfl, hk, hJ⟩ := hrel
    by_cases hlt : k < L
    · obtain ⟨x, hx⟩ : ∃ x, fs[k]? = some x := ⟨_, List.getElem?_eq_getElem (by rw [hL'.out]; exact hlt)⟩
      have hc := hcell'.out k wo hJ x hx
      have hS := hstep'.out k x wo hx hJ
      have hEx := hE'.out x (List.mem_of_getElem? hx)
      obtain ⟨F, bb, cc⟩ := x
      simp only at hc hS hEx
      have hS' := Lib.hid hS
      have n1 : 0 < L := by omega
      clear hS hJ hx
      go_wp2_with fail
      refine hS'.out.mono ?_
      rintro e w2 ⟨E, rfl, hD, hN⟩
      by_cases he : E = 0
      · subst he
        have hJ2 := Lib.hid (hN rfl)
        clear hD hN
        go_wp2_with fail
        exact ⟨⟨k + 1, by rw [Int.natCast_add]; rfl, by omega, hJ2.out⟩, by simp only [intOf]; omega⟩
      · have hD2 := Lib.hid (hD he)
        have t1 : (E == 0) = false := by simpa using he
        clear hD hN he
        go_wp2_with fail
        go_ret
        exact ⟨E, rfl, hD2.out⟩
    · obtain rfl : L = k := by omega
      have hD := Lib.hid (hend'.out wo (by rw [hL'.out]; exact hJ))
      clear hJ
      go_wp2_with fail
      go_ret
      exact ⟨0, rfl, hD.out⟩
end Go.Proofs.YtabcdodjkfknlaaGreatDoor
namespace Go.Proofs.YtabcdodjkfknlaaGreatDoor
open Go.RowKit
attribute [local go_sem] Oper.semAt_some
section
variable {w w1 w2 W : World} {B D m m' : Nat} {O O1 : Nat → Prop} {r r' : RD}
theorem DGo.refl (h : DAt w B D O r m) : DGo w B D O r m w := ⟨O, h, fun _ h => .inl h, Keeps.refl _ _⟩
theorem DGo.trans {m1 : Nat} {r1 : RD} (h : DGo w B D O r1 m1 w1) (h2 : ∀ O1, DAt w1 B D O1 r1 m1 → (∀ j, O1 j → O j ∨ w.heap.size ≤ j) → Keeps O w w1 → DGo w1 B D O1 r' m' w2) : DGo w B D O r' m' w2 := by
  obtain ⟨O1, hD, hs, hk⟩ := h
  obtain ⟨O2, hD2, hs2, hk2⟩ := h2 O1 hD hs hk
  have hz := hk.size
  exact ⟨O2, hD2, fun j hj => (hs2 j hj).elim (hs j) fun h => .inr (by omega), hk.step hk2 hs⟩
theorem DGo.step (hs : ∀ j, O1 j → O j ∨ w.heap.size ≤ j) (hk : Keeps O w w1) (hg : DGo w1 B D O1 r' m' w2) : DGo w B D O r' m' w2 := by
  obtain ⟨O2, hD2, hs2, hk2⟩ := hg
  have hz := hk.size
  exact ⟨O2, hD2, fun j hj => (hs2 j hj).elim (hs j) fun h => .inr (by omega), hk.step hk2 hs⟩
theorem DGo.ahead (hb : Below w.heap.size w w1) (h : DGo w1 B D O r m w2) : DGo w B D O r m w2 := by
  obtain ⟨O1, hD, hs, hk⟩ := h
  have hz := hb.size
  exact ⟨O1, hD, fun j hj => (hs j hj).imp id fun h => by omega, (Keeps.of_below hb).trans hk⟩
theorem DGo.more (h : DGo w B D O r m w1) (hm : m ≤ m') : DGo w B D O r m' w1 := by
  obtain ⟨O1, ⟨⟨k, bl, a, b, c, d⟩, e⟩, hs, hk⟩ := h
  exact ⟨O1, ⟨⟨k, bl, a, b, c, Nat.le_trans d hm⟩, e⟩, hs, hk⟩
theorem DAt.more (h : DAt w B D O r m) (hm : m ≤ m') : DAt w B D O r m' := by
  obtain ⟨⟨k, bl, a, b, c, d⟩, e⟩ := h
  exact ⟨⟨k, bl, a, b, c, Nat.le_trans d hm⟩, e⟩
end
/-- a disk's answer to a call -/
def Ans (w : World) (B D : Nat) (O : Nat → Prop) (x : RD × Int) (m : Nat) (e : Ending) (w' : World) : Prop := e = .returned (.int .i64 x.2) ∧ DGo w B D O x.1 m w'
/-- a variable of the disk's pointer, a variable of a name -/
abbrev dptr (D : Nat) : Value := .pointer (some ⟨D, 0, none⟩)
section
variable {W : World} {B D m : Nat} {O : Nat → Prop} {r : RD} {bd bn bb : Nat} {s : ByteArray}
set_option maxRecDepth 100000 in
theorem lay1_calls (h : DAt W B D O r m) (h1 : Blk W bd 39 #[dptr D]) (h2 : Blk W bn 9 #[.string s]) (hs : s.size ≤ maxLen) (hm : m < 4000) :
    Calls Tryz.prog 94 #[.pointer (some ⟨bd, 0, none⟩), .pointer (some ⟨bn, 0, none⟩)] W (Ans W B D O (r.create s.data.toList, r.createE s.data.toList) (m + 1)) := by
  have hC := Lib.hid (create_do h s hs hm)
  have c1 := h1.cell
  have c2 := h2.cell
  clear h h1 h2
  go_enter Tryz.func94, Tryz.ntmps94
  go_wp2_with (go_at_call 70; (refine hC.out.mono ?_; rintro e w1 ⟨rfl, hg⟩; have hg' := Lib.hid hg; clear hg))
  go_ret
  exact ⟨rfl, hg'.out⟩
set_option maxRecDepth 100000 in
theorem lay2_calls {v : Value} {b : List UInt8} (h : DAt W B D O r m) (h1 : Blk W bd 39 #[dptr D]) (h2 : Blk W bn 9 #[.string s]) (h3 : Blk W bb 43 #[v]) (hv : Bytes W v b) (hn : ∀ g, v.ownBlock = some g → b ≠ [] → ¬ O g) (hs : s.size ≤ maxLen) (hm : m < 4000) (hl : b.length ≤ 65536) :
    Calls Tryz.prog 95 #[.pointer (some ⟨bd, 0, none⟩), .pointer (some ⟨bn, 0, none⟩), .pointer (some ⟨bb, 0, none⟩)] W (Ans W B D O (r.append s.data.toList b, r.appE s.data.toList b.length) (m + 1)) := by
  have hC := Lib.hid (append_do h s hv hn hs hm hl)
  obtain ⟨p, c, rfl⟩ := hv.slice
  have c1 := h1.cell
  have c2 := h2.cell
  have c3 := h3.cell
  clear h h1 h2 h3 hv hn hl
  go_enter Tryz.func95, Tryz.ntmps95
  go_wp2_with (go_at_call 21; (refine hC.out.mono ?_; rintro e w1 ⟨rfl, hg⟩; have hg' := Lib.hid hg; clear hg))
  go_ret
  exact ⟨rfl, hg'.out⟩
set_option maxRecDepth 100000 in
theorem lay3_calls (h : DAt W B D O r m) (h1 : Blk W bd 39 #[dptr D]) (h2 : Blk W bn 9 #[.string s]) (hs : s.size ≤ maxLen) :
    Calls Tryz.prog 96 #[.pointer (some ⟨bd, 0, none⟩), .pointer (some ⟨bn, 0, none⟩)] W (Ans W B D O (r.sync s.data.toList, r.syncE s.data.toList) m) := by
  have hC := Lib.hid (sync_do h s hs)
  have c1 := h1.cell
  have c2 := h2.cell
  clear h h1 h2
  go_enter Tryz.func96, Tryz.ntmps96
  go_wp2_with (go_at_call 97; (refine hC.out.mono ?_; rintro e w1 ⟨rfl, hg⟩; have hg' := Lib.hid hg; clear hg))
  go_ret
  exact ⟨rfl, hg'.out⟩
/-- the old fresh file taken away -/
def oldR (r : RD) : RD × Int := (r.remove freshL, if r.removeE freshL = 4 then 0 else r.removeE freshL)
set_option maxRecDepth 100000 in
theorem old_calls (h : DAt W B D O r m) (h1 : Blk W bd 39 #[dptr D]) (hm : m < 4000) :
    Calls Tryz.prog 45 #[.pointer (some ⟨bd, 0, none⟩)] W (Ans W B D O (oldR r) (m + 1)) := by
  have hC : Calls _ _ _ W fun e w' => e = .returned (.int .i64 (r.removeE freshL)) ∧ DGo W B D O (r.remove freshL) (m + 1) w' := remove_do h freshB (by decide) hm
  unfold oldR
  obtain ⟨E, hE⟩ : ∃ E, r.removeE freshL = E := ⟨_, rfl⟩
  rw [hE] at hC ⊢
  have hC' := Lib.hid hC
  have c1 := h1.cell
  clear h h1 hC
  by_cases h4 : E = 4
  · subst h4
    go_enter Tryz.func45, Tryz.ntmps45
    go_wp2_with (go_at_call 46; (refine hC'.out.mono ?_; rintro e w1 ⟨rfl, hg⟩; have hg' := Lib.hid hg; clear hg))
    go_ret
    exact ⟨rfl, hg'.out⟩
  · have t1 : (E == 4) = false := by simpa using h4
    rw [if_neg h4]
    go_enter Tryz.func45, Tryz.ntmps45
    go_wp2_with (go_at_call 46; (refine hC'.out.mono ?_; rintro e w1 ⟨rfl, hg⟩; have hg' := Lib.hid hg; clear hg))
    go_ret
    exact ⟨rfl, hg'.out⟩
set_option maxRecDepth 100000 in
theorem ren_calls (h : DAt W B D O r m) (h1 : Blk W bd 39 #[dptr D]) (hm : m < 4000) :
    Calls Tryz.prog 50 #[.pointer (some ⟨bd, 0, none⟩)] W (Ans W B D O (r.rename freshL currentL, r.renameE freshL currentL) (m + 1)) := by
  have hC : Calls _ _ _ W fun e w' => e = .returned (.int .i64 (r.renameE freshL currentL)) ∧ DGo W B D O (r.rename freshL currentL) (m + 1) w' := rename_do h freshB currentB (by decide) (by decide) hm
  have hC' := Lib.hid hC
  have c1 := h1.cell
  clear h h1 hC
  go_enter Tryz.func50, Tryz.ntmps50
  go_wp2_with (go_at_call 51; (refine hC'.out.mono ?_; rintro e w1 ⟨rfl, hg⟩; have hg' := Lib.hid hg; clear hg))
  go_ret
  exact ⟨rfl, hg'.out⟩
end
end Go.Proofs.YtabcdodjkfknlaaGreatDoor
namespace Go.Proofs.YtabcdodjkfknlaaGreatDoor
open Go.RowKit
attribute [local go_sem] Oper.semAt_some
/-- a file laid whose bytes are safe -/
def layR (r : RD) (s b : List UInt8) : RD × Int :=
  if r.createE s ≠ 0 then (r.create s, r.createE s) else
  if (r.create s).appE s b.length ≠ 0 then ((r.create s).append s b, (r.create s).appE s b.length) else
  (((r.create s).append s b).sync s, ((r.create s).append s b).syncE s)
section
variable {W : World} {B D m : Nat} {O : Nat → Prop} {r : RD} {bd bn bb : Nat} {s : ByteArray}
theorem DGo.blk {W1 W2 : World} {r' : RD} {m' g : Nat} {t : TypeId} {cs : Array Value} (h : DGo W1 B D O r' m' W2) (hb : Blk W1 g t cs) (ho : ¬ O g) : Blk W2 g t cs := by
  obtain ⟨_, _, _, hk⟩ := h
  exact hb.keeps hk ho
def layJ (W1 : World) (B D m : Nat) (O : Nat → Prop) (r : RD) (s b : List UInt8) (k : Nat) (W' : World) : Prop :=
  match k with
  | 0 => DGo W1 B D O r m W'
  | 1 => r.createE s = 0 ∧ DGo W1 B D O (r.create s) (m + 1) W'
  | 2 => r.createE s = 0 ∧ (r.create s).appE s b.length = 0 ∧ DGo W1 B D O ((r.create s).append s b) (m + 2) W'
  | 3 => r.createE s = 0 ∧ (r.create s).appE s b.length = 0 ∧ ((r.create s).append s b).syncE s = 0 ∧ DGo W1 B D O (((r.create s).append s b).sync s) (m + 2) W'
  | _ => False
theorem layJ_go {W1 W' : World} {b l : List UInt8} {k : Nat} (h : layJ W1 B D m O r l b k W') : ∃ r' m', DGo W1 B D O r' m' W' := by
  match k, h with
  | 0, h => exact ⟨_, _, h⟩
  | 1, h => exact ⟨_, _, h.2⟩
  | 2, h => exact ⟨_, _, h.2.2⟩
  | 3, h => exact ⟨_, _, h.2.2.2⟩
set_option maxHeartbeats 1000000 in
set_option maxRecDepth 100000 in
theorem layC_calls {v : Value} {b : List UInt8} (h : DAt W B D O r m) (h1 : Blk W bd 39 #[dptr D]) (h2 : Blk W bn 9 #[.string s]) (h3 : Blk W bb 43 #[v]) (ho : ¬ O bd ∧ ¬ O bn ∧ ¬ O bb)
    (hv : Bytes W v b) (hn : ∀ g, v.ownBlock = some g → b ≠ [] → ¬ O g ∧ g < W.heap.size) (hs : s.size ≤ maxLen) (hm : m + 2 < 4000) (hl : b.length ≤ 65536) :
    Calls Tryz.prog 93 #[.pointer (some ⟨bd, 0, none⟩), .pointer (some ⟨bn, 0, none⟩), .pointer (some ⟨bb, 0, none⟩)] W (Ans W B D O (layR r s.data.toList b) (m + 2)) := by
  obtain ⟨cs, hcs⟩ : ∃ cs : Array Value, #[Value.func (.func 94) #[] #[.pointer (some ⟨bd, 0, none⟩), .pointer (some ⟨bn, 0, none⟩)], .func (.func 95) #[] #[.pointer (some ⟨bd, 0, none⟩), .pointer (some ⟨bn, 0, none⟩), .pointer (some ⟨bb, 0, none⟩)], .func (.func 96) #[] #[.pointer (some ⟨bd, 0, none⟩), .pointer (some ⟨bn, 0, none⟩)]] = cs := ⟨_, rfl⟩
  obtain ⟨W1, hW1⟩ : ∃ W1, W.alloc (.cells cs 88) = W1 := ⟨_, rfl⟩
  have hA := (Below.refl W.heap.size W).alloc (Nat.le_refl _) (.cells cs 88)
  have bG := Blk.new W 88 cs
  rw [hW1] at hA bG
  have hsz := hA.size
  have hO : ∀ j, O j → j < W.heap.size := fun j hj => (h.lt j hj).2
  have hgO : ¬ O W.heap.size := fun e => Nat.lt_irrefl _ (hO _ e)
  have b1 := h1.below hA h1.lt
  have b2 := h2.below hA h2.lt
  have b3 := h3.below hA h3.lt
  have hv1 := hv.later hA
  have hS := steps_calls [(94, #[], #[.pointer (some ⟨bd, 0, none⟩), .pointer (some ⟨bn, 0, none⟩)]), (95, #[], #[.pointer (some ⟨bd, 0, none⟩), .pointer (some ⟨bn, 0, none⟩), .pointer (some ⟨bb, 0, none⟩)]), (96, #[], #[.pointer (some ⟨bd, 0, none⟩), .pointer (some ⟨bn, 0, none⟩)])] W.heap.size W1
    (layJ W1 B D m O r s.data.toList b) (fun E W' => E = (layR r s.data.toList b).2 ∧ DGo W1 B D O (layR r s.data.toList b).1 (m + 2) W')
    (by
      intro x hx
      simp only [List.mem_cons, List.not_mem_nil, or_false] at hx
      rcases hx with rfl | rfl | rfl
      · exact enters_of Tryz.func94 (by kernel_rfl) rfl
      · exact enters_of Tryz.func95 (by kernel_rfl) rfl
      · exact enters_of Tryz.func96 (by kernel_rfl) rfl)
    (by
      intro i W' hJ x hx
      obtain ⟨r', m', hg⟩ := layJ_go hJ
      rw [(hg.blk bG hgO).cell, ← hcs]
      match i, hx with
      | 0, hx => obtain rfl := Option.some.inj hx; rfl
      | 1, hx => obtain rfl := Option.some.inj hx; rfl
      | 2, hx => obtain rfl := Option.some.inj hx; rfl)
    (by
      intro i x W' hx hJ
      match i, hx, hJ with
      | 0, hx, hJ =>
        obtain rfl := Option.some.inj hx
        have hJ0 : DGo W1 B D O r m W' := hJ
        obtain ⟨O1, hD, hsub, hk⟩ := id hJ0
        refine (lay1_calls hD (hJ0.blk b1 ho.1) (hJ0.blk b2 ho.2.1) hs (by omega)).mono ?_
        rintro e w' ⟨rfl, hg⟩
        have hT := DGo.step hsub hk hg
        refine ⟨_, rfl, fun hE => ?_, fun hE => ⟨hE, hT⟩⟩
        unfold layR
        rw [if_pos hE]
        exact ⟨rfl, hT.more (by omega)⟩
      | 1, hx, hJ =>
        obtain rfl := Option.some.inj hx
        obtain ⟨e1, hJ1⟩ : r.createE s.data.toList = 0 ∧ DGo W1 B D O (r.create s.data.toList) (m + 1) W' := hJ
        obtain ⟨O1, hD, hsub, hk⟩ := id hJ1
        refine (lay2_calls (v := v) (b := b) hD (hJ1.blk b1 ho.1) (hJ1.blk b2 ho.2.1) (hJ1.blk b3 ho.2.2) (hv1.keepsP hk fun g hg hb => (hn g hg hb).1) (fun g hg hb hO1 => by
          rcases hsub g hO1 with h | h
          · exact (hn g hg hb).1 h
          · have := (hn g hg hb).2; omega) hs (by omega) hl).mono ?_
        rintro e w' ⟨rfl, hg⟩
        have hT := DGo.step hsub hk hg
        refine ⟨_, rfl, fun hE => ?_, fun hE => ⟨e1, hE, hT⟩⟩
        unfold layR
        rw [if_neg (by rw [e1]; simp), if_pos hE]
        exact ⟨rfl, hT⟩
      | 2, hx, hJ =>
        obtain rfl := Option.some.inj hx
        obtain ⟨e1, e2, hJ2⟩ : r.createE s.data.toList = 0 ∧ (r.create s.data.toList).appE s.data.toList b.length = 0 ∧ DGo W1 B D O ((r.create s.data.toList).append s.data.toList b) (m + 2) W' := hJ
        obtain ⟨O1, hD, hsub, hk⟩ := id hJ2
        refine (lay3_calls hD (hJ2.blk b1 ho.1) (hJ2.blk b2 ho.2.1) hs).mono ?_
        rintro e w' ⟨rfl, hg⟩
        have hT := DGo.step hsub hk hg
        refine ⟨_, rfl, fun hE => ?_, fun hE => ⟨e1, e2, hE, hT⟩⟩
        unfold layR
        rw [if_neg (by rw [e1]; simp), if_neg (by rw [e2]; simp)]
        exact ⟨rfl, hT⟩)
    (by
      intro W' hJ
      have hJ3 : layJ W1 B D m O r s.data.toList b 3 W' := hJ
      obtain ⟨e1, e2, e3, hg⟩ := hJ3
      unfold layR
      rw [if_neg (by rw [e1]; simp), if_neg (by rw [e2]; simp)]
      exact ⟨e3.symm, hg⟩)
    (DGo.refl (h.later hA)) (by simp)
  have hS2 : Calls Tryz.prog 47 #[.slice (some ⟨W.heap.size, 0, none⟩) 3 3] W1 fun e w' => ∃ E, e = .returned (.int .i64 E) ∧ (E = (layR r s.data.toList b).2 ∧ DGo W1 B D O (layR r s.data.toList b).1 (m + 2) w') := hS
  have hS' := Lib.hid hS2
  have hA' := Lib.hid hA
  clear hS hS2 hA bG b1 b2 b3 hv1 hO hgO hsz h h1 h2 h3 ho hv hn
  subst hcs
  go_enter Tryz.func93, Tryz.ntmps93
  go_wp2_with (go_at_call 47; ((with_reducible refine hS'.out.mono ?_); rintro e w9 ⟨E, rfl, rfl, hg⟩; have hg' := Lib.hid (hg.ahead hA'.out); clear hg))
  go_ret
  exact ⟨rfl, hg'.out⟩
end
end Go.Proofs.YtabcdodjkfknlaaGreatDoor
