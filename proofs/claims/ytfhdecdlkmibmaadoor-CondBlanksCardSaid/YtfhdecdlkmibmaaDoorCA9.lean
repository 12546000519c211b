/- Walks: conditions: sums. -/
import Derived.Test.YtfhdecdlkmibmaaDoorCA8
namespace Go.Proofs.YtfhdecdlkmibmaaDoor
open Go.RowKit
/-- what stands at the head of a round of sums -/
def SumI (U : Toks → Res) (w : World) (g A : Nat) (s : ByteArray) (l : Toks) (deep : Int) (k : Nat) (wr : World) : Prop :=
  ∃ a m d b, Var w A wr a ∧ Rd wr g s m d b ∧ Keeps (fun j => j = g) w wr ∧ Blk wr w.heap.size 25 condZ ∧ m.length ≤ k ∧ m.length ≤ l.length ∧ a.parts.length + m.length ≤ l.length + 1 ∧
    ((b = false ∧ d = deep ∧ ∃ n, m.length < n ∧ sumL U n a m = gSum U l) ∨ (b = true ∧ gSum U l = .error (posT m)))
theorem sumL_no {U : Toks → Res} {n : Nat} {a : CT} {m : Toks} (hn : m.length < n) (h : isT m [43] = false) (h2 : isT m [45] = false) : sumL U n a m = .ok (a, m) := by
  obtain ⟨n, rfl⟩ : ∃ k, n = k + 1 := ⟨n - 1, by omega⟩
  unfold sumL
  rw [if_neg (by rw [h]; decide), if_neg (by rw [h2]; decide)]
theorem sumL_plus {U : Toks → Res} {n : Nat} {a : CT} {m : Toks} (h : isT m [43] = true) : sumL U (n + 1) a m = match U m.tail with
      | .error e => .error e
      | .ok (b, m) => sumL U n (pairC 12 a b) m := by
  conv => lhs; unfold sumL
  rw [if_pos h]
  cases U m.tail <;> rfl
theorem sumL_minus {U : Toks → Res} {n : Nat} {a : CT} {m : Toks} (h : isT m [43] = false) (h2 : isT m [45] = true) : sumL U (n + 1) a m = match U m.tail with
      | .error e => .error e
      | .ok (b, m) => sumL U n (pairC 13 a b) m := by
  conv => lhs; unfold sumL
  rw [if_neg (by rw [h]; decide), if_pos h2]
  cases U m.tail <;> rfl
set_option maxHeartbeats 4000000 in
set_option maxRecDepth 100000 in
theorem sum_calls {w : World} {g : Nat} {s : ByteArray} {l : Toks} {deep : Int} (U : Toks → Res) (h : Rd w g s l deep false)
    (hU : ∀ m w, Rd w g s m deep false → Calls Tryd.prog 62 #[.pointer (some ⟨g, 0, none⟩)] w (Told U w g s m deep)) :
    Calls Tryd.prog 50 #[.pointer (some ⟨g, 0, none⟩)] w (Told (gSum U) w g s l deep) := by
  have hgl := h.lt
  have h5 := h.b5
  have hB := Lib.hid (Blk.new w 25 condZ)
  have hz0 := alloc_size w (.cells condZ 25)
  have h1 := Lib.hid (h.alloc (.cells condZ 25))
  have k1 := Lib.hid ((Keeps.refl (fun j => j = g) w).alloc (.cells condZ 25))
  have hU' := Lib.hid hU
  have hz0' := Lib.hid hz0
  clear hU h hz0
  go_enter Tryd.func50, Tryd.ntmps50
  go_wp2_with fail
  refine (hU'.out l _ h1.out).mono ?_
  rintro e w2 ⟨cs, c, m, d, b, rfl, hC, hR2, k2, hm1, hm2, hcase⟩
  have hB2 := Lib.hid (hB.out.keeps k2 (Nat.ne_of_gt hgl))
  have hK2 := Lib.hid (k1.out.trans k2)
  have hC2 := Lib.hid (hC.mono (Q := fun j => w.heap.size < j) fun j hj _ => by rw [hz0'.out] at hj; exact hj)
  have hR2' := Lib.hid hR2
  have hcase' := Lib.hid hcase
  clear hC k2 hR2 hcase
  obtain ⟨Q, pp, nn, cc, rfl⟩ := hC2.out.open_
  have hA : w.heap.size < w2.heap.size := hB2.out.lt
  have hV := Lib.hid (Var.new hC2.out hA)
  have hR3 := Lib.hid (hR2'.out.alloc (.cells #[.int .i64 c.kind, .int .i64 c.num, .string Q, .slice pp nn cc] 25))
  have hB3 := Lib.hid (hB2.out.alloc (.cells #[.int .i64 c.kind, .int .i64 c.num, .string Q, .slice pp nn cc] 25))
  have hK3 := Lib.hid (hK2.out.alloc (.cells #[.int .i64 c.kind, .int .i64 c.num, .string Q, .slice pp nn cc] 25))
  obtain ⟨w3, e3⟩ : ∃ w3, w2.alloc (.cells #[.int .i64 c.kind, .int .i64 c.num, .string Q, .slice pp nn cc] 25) = w3 := ⟨_, rfl⟩
  obtain ⟨A, eA⟩ : ∃ A, w2.heap.size = A := ⟨_, rfl⟩
  have hA2 : w.heap.size < A := by omega
  have hV : Hid (Var w A w3 c) := by
    rw [← e3, ← eA]; exact hV
  rw [e3] at hR3 hB3 hK3
  clear hB2 hK2 hC2 hR2' hB h1 k1 hA
  go_wp2_with fail
  clear e3 eA
  go_loopg [6] (m.length) (fun k _ wr => SumI U w g A s l deep k wr)
  case atStart =>
    refine ⟨c, m, d, b, hV.out, hR3.out, hK3.out, hB3.out, Nat.le_refl _, hm1, hm2, ?_⟩
    rcases hcase'.out with ⟨h1, h2, h3⟩ | ⟨h1, h2⟩
    · refine .inl ⟨h1, h2, m.length + 1, Nat.lt_succ_self _, ?_⟩
      show _ = (match U l with | .error e => _ | .ok (a, m) => _)
      rw [h3]
    · refine .inr ⟨h1, ?_⟩
      show (match U l with | .error e => _ | .ok (a, m) => _) = _
      rw [h2]
  case round =>
    clear hm1 hm2 hcase' hV hR3 hB3 hK3
    obtain ⟨a, m, d, b, hV, hR, hK, hB, hk, hml, hmp, hcase⟩ := hrel
    obtain ⟨Q, pp, nn, cc, hV1, hV2⟩ := hV.open_
    have hV' := Lib.hid hV
    have hR' := Lib.hid hR
    have hK' := Lib.hid hK
    have hB' := Lib.hid hB
    have hV2' := Lib.hid hV2
    have hV1' := Lib.hid hV1
    have a0 := Blk.cell hV1
    have af := Blk.frozen hV1
    have b0 := Blk.cell hB
    have bf := Blk.frozen hB
    unfold condZ at b0
    clear hV hR hK hV1 hV2 hB
    by_cases ht : b = false ∧ isT m [43] = true
    · obtain ⟨rfl, ht⟩ := ht
      obtain ⟨rfl, n, hn, hG⟩ : d = deep ∧ ∃ n, m.length < n ∧ sumL U n a m = gSum U l := by
        rcases hcase with ⟨_, e, h⟩ | ⟨e, _⟩
        · exact ⟨e, h⟩
        · cases e
      have hG' := Lib.hid hG
      have D := Lib.hid (take_yes ⟨#[43]⟩ hR'.out ht)
      have ht' := Lib.hid ht
      clear hG hcase ht
      go_wp2_with fail
      refine D.out.mono ?_
      rintro e w5 ⟨rfl, hR5, k5⟩
      have hV5 := Lib.hid (hV2'.out.keeps k5 fun j hj _ e => by omega)
      have hA5 := hV1'.out.keeps k5 (by omega)
      have a5 := Blk.cell hA5
      have af5 := Blk.frozen hA5
      have hK5 := Lib.hid (hK'.out.trans k5)
      have hB5 := Lib.hid (hB'.out.keeps k5 (Nat.ne_of_gt hgl))
      have hR5' := Lib.hid hR5
      clear a0 af b0 bf D hR5 k5
      have hR6 : Hid (Rd w5.drew g s m.tail d false) := Lib.hid (hR5'.out.same ((Keeps.refl _ w5).drew))
      have hA6 := Lib.hid hA5.drew
      have hV6 := Lib.hid (hV5.out.keeps (S := fun _ => False) ((Keeps.refl _ w5).drew) fun _ _ _ => id)
      have hB6 := Lib.hid hB5.out.drew
      have hK6 := Lib.hid hK5.out.drew
      clear hR5' hA5 hV5 hB5 hK5
      go_wp2_with fail
      go_region_with (first | ((go_at_call 62); (with_reducible refine (hU'.out m.tail _ hR6.out).mono ?_); (rintro e w7 ⟨cs, c7, m', d', b', rfl, hC, hR7, k7, hm1, hm2, hcase⟩); (obtain ⟨Q2, p2, n2, c2, rfl⟩ := hC.open_); (have hA7 := hA6.out.keeps k7 (by omega)); (have hV7 := Lib.hid (hV6.out.keeps k7 fun j hj _ e => by omega)); (have hB7 := Lib.hid (hB6.out.keeps k7 (Nat.ne_of_gt hgl))); (have hK7 := Lib.hid (hK6.out.trans k7)); (have hC7 := Lib.hid (hC.mono (Q := fun j => w.heap.size < j ∧ j ≠ A) fun j hj _ => ⟨by have := hA6.out.lt; omega, by have := hA6.out.lt; omega⟩)); (have hR7' := Lib.hid hR7); (have hcase' := Lib.hid hcase); (have a7 := Blk.cell hA7); (have af7 := Blk.frozen hA7); (clear hC hR7 k7 hcase)) | ((go_at_call 51); (with_reducible refine (pair_calls (fun j => w.heap.size < j ∧ j ≠ A) 12 a c7 _ _ w7 hV7.out hC7.out).mono ?_); (rintro e w8 ⟨cs8, rfl, hC8, hb8⟩); (obtain ⟨Q8, p8, n8, c8, rfl⟩ := hC8.open_); (have hA8 := hA7.below hb8 hA7.lt); (have a8 := Blk.cell hA8); (have af8 := Blk.frozen hA8)))
      all_goals
        have hA7l := hA7.lt
        have k8 := Keeps.of_below (S := fun _ => False) hb8
        have hm3 := isT_len ht'.out
        obtain ⟨W, eW, hBW, hRW, hKW⟩ := put_cond rfl hA8 (hR7'.out.same k8) (Nat.ne_of_lt (by omega)) (Nat.ne_of_lt (by omega)) (.int .i64 (pairC 12 a c7).kind) (.int .i64 (pairC 12 a c7).num) (.string Q8) (.slice p8 n8 c8)
        have hVW : Hid (Var w A W (pairC 12 a c7)) := Lib.hid ⟨⟨_, hBW, (hC8.mono (Q := fun j => w.heap.size < j ∧ j ≠ A) fun j hj _ => by rcases hj with h | h <;> omega).keeps hKW fun j hj _ e => hj.2 e⟩, hA2⟩
        have hBW2 := Lib.hid ((hB7.out.keeps k8 id).keeps hKW (by omega))
        have hKW2 := Lib.hid ((hK7.out.step k8 fun _ e => e.elim).step hKW (fun j e => .inr (by omega)))
        have hRW' := Lib.hid hRW
        rw [eW]
        clear hKW hBW eW hC8 hb8 hA8 a8 af8 hRW a7 af7 hA7 k8
        go_wp2_with fail
        go_roundg (m'.length)
        case measure => omega
        case rel =>
          refine ⟨pairC 12 a c7, m', d', b', hVW.out, hRW'.out, hKW2.out, hBW2.out, Nat.le_refl _, by omega, ?_, ?_⟩
          · show 2 + m'.length ≤ _
            omega
          · obtain ⟨n, rfl⟩ : ∃ k, n = k + 1 := ⟨n - 1, by omega⟩
            have hG2 := hG'.out
            rw [sumL_plus ht'.out] at hG2
            rcases hcase'.out with ⟨h1, h2, h3⟩ | ⟨h1, h2⟩
            · rw [h3] at hG2
              exact .inl ⟨h1, h2, n, by omega, hG2⟩
            · rw [h2] at hG2
              exact .inr ⟨h1, hG2.symm⟩
    · have D := Lib.hid (take_no (bad := b) ⟨#[43]⟩ hR'.out (by
        cases b with
        | true => exact .inl rfl
        | false => exact .inr (Bool.eq_false_iff.2 fun e => ht ⟨rfl, e⟩)))
      have hp : Hid (b = false → isT m [43] = false) := Lib.hid fun e => Bool.eq_false_iff.2 fun e2 => ht ⟨e, e2⟩
      clear ht
      go_wp2_with fail
      refine D.out.mono ?_
      rintro e w' ⟨rfl, rfl⟩
      clear D
      by_cases ht : b = false ∧ isT m [45] = true
      · obtain ⟨rfl, ht⟩ := ht
        obtain ⟨rfl, n, hn, hG⟩ : d = deep ∧ ∃ n, m.length < n ∧ sumL U n a m = gSum U l := by
          rcases hcase with ⟨_, e, h⟩ | ⟨e, _⟩
          · exact ⟨e, h⟩
          · cases e
        have hG' := Lib.hid hG
        have D := Lib.hid (take_yes ⟨#[45]⟩ hR'.out ht)
        have ht' := Lib.hid ht
        clear hG hcase ht
        go_wp2_with fail
        refine D.out.mono ?_
        rintro e w5 ⟨rfl, hR5, k5⟩
        have hV5 := Lib.hid (hV2'.out.keeps k5 fun j hj _ e => by omega)
        have hA5 := hV1'.out.keeps k5 (by omega)
        have a5 := Blk.cell hA5
        have af5 := Blk.frozen hA5
        have hK5 := Lib.hid (hK'.out.trans k5)
        have hB5 := Lib.hid (hB'.out.keeps k5 (Nat.ne_of_gt hgl))
        have hR5' := Lib.hid hR5
        clear a0 af b0 bf D hR5 k5
        have hR6 : Hid (Rd w5.drew g s m.tail d false) := Lib.hid (hR5'.out.same ((Keeps.refl _ w5).drew))
        have hA6 := Lib.hid hA5.drew
        have hV6 := Lib.hid (hV5.out.keeps (S := fun _ => False) ((Keeps.refl _ w5).drew) fun _ _ _ => id)
        have hB6 := Lib.hid hB5.out.drew
        have hK6 := Lib.hid hK5.out.drew
        clear hR5' hA5 hV5 hB5 hK5
        go_wp2_with fail
        go_region_with (first | ((go_at_call 62); (with_reducible refine (hU'.out m.tail _ hR6.out).mono ?_); (rintro e w7 ⟨cs, c7, m', d', b', rfl, hC, hR7, k7, hm1, hm2, hcase⟩); (obtain ⟨Q2, p2, n2, c2, rfl⟩ := hC.open_); (have hA7 := hA6.out.keeps k7 (by omega)); (have hV7 := Lib.hid (hV6.out.keeps k7 fun j hj _ e => by omega)); (have hB7 := Lib.hid (hB6.out.keeps k7 (Nat.ne_of_gt hgl))); (have hK7 := Lib.hid (hK6.out.trans k7)); (have hC7 := Lib.hid (hC.mono (Q := fun j => w.heap.size < j ∧ j ≠ A) fun j hj _ => ⟨by have := hA6.out.lt; omega, by have := hA6.out.lt; omega⟩)); (have hR7' := Lib.hid hR7); (have hcase' := Lib.hid hcase); (have a7 := Blk.cell hA7); (have af7 := Blk.frozen hA7); (clear hC hR7 k7 hcase)) | ((go_at_call 51); (with_reducible refine (pair_calls (fun j => w.heap.size < j ∧ j ≠ A) 13 a c7 _ _ w7 hV7.out hC7.out).mono ?_); (rintro e w8 ⟨cs8, rfl, hC8, hb8⟩); (obtain ⟨Q8, p8, n8, c8, rfl⟩ := hC8.open_); (have hA8 := hA7.below hb8 hA7.lt); (have a8 := Blk.cell hA8); (have af8 := Blk.frozen hA8)))
        all_goals
          have hA7l := hA7.lt
          have k8 := Keeps.of_below (S := fun _ => False) hb8
          have hm3 := isT_len ht'.out
          obtain ⟨W, eW, hBW, hRW, hKW⟩ := put_cond rfl hA8 (hR7'.out.same k8) (Nat.ne_of_lt (by omega)) (Nat.ne_of_lt (by omega)) (.int .i64 (pairC 13 a c7).kind) (.int .i64 (pairC 13 a c7).num) (.string Q8) (.slice p8 n8 c8)
          have hVW : Hid (Var w A W (pairC 13 a c7)) := Lib.hid ⟨⟨_, hBW, (hC8.mono (Q := fun j => w.heap.size < j ∧ j ≠ A) fun j hj _ => by rcases hj with h | h <;> omega).keeps hKW fun j hj _ e => hj.2 e⟩, hA2⟩
          have hBW2 := Lib.hid ((hB7.out.keeps k8 id).keeps hKW (by omega))
          have hKW2 := Lib.hid ((hK7.out.step k8 fun _ e => e.elim).step hKW (fun j e => .inr (by omega)))
          have hRW' := Lib.hid hRW
          rw [eW]
          clear hKW hBW eW hC8 hb8 hA8 a8 af8 hRW a7 af7 hA7 k8
          go_wp2_with fail
          go_roundg (m'.length)
          case measure => omega
          case rel =>
            refine ⟨pairC 13 a c7, m', d', b', hVW.out, hRW'.out, hKW2.out, hBW2.out, Nat.le_refl _, by omega, ?_, ?_⟩
            · show 2 + m'.length ≤ _
              omega
            · obtain ⟨n, rfl⟩ : ∃ k, n = k + 1 := ⟨n - 1, by omega⟩
              have hG2 := hG'.out
              rw [sumL_minus (hp.out (by first | trivial | rfl)) ht'.out] at hG2
              rcases hcase'.out with ⟨h1, h2, h3⟩ | ⟨h1, h2⟩
              · rw [h3] at hG2
                exact .inl ⟨h1, h2, n, by omega, hG2⟩
              · rw [h2] at hG2
                exact .inr ⟨h1, hG2.symm⟩
      · have D := Lib.hid (take_no (bad := b) ⟨#[45]⟩ hR'.out (by
          cases b with
          | true => exact .inl rfl
          | false => exact .inr (Bool.eq_false_iff.2 fun e => ht ⟨rfl, e⟩)))
        have hcase' := Lib.hid hcase
        have ht' := Lib.hid ht
        clear hcase ht
        go_wp2_with fail
        refine D.out.mono ?_
        rintro e w' ⟨rfl, rfl⟩
        go_wp2_with fail
        obtain ⟨W, eW, hBW, hRW, hKW⟩ := put_cond rfl hB'.out hR'.out (Nat.ne_of_lt hgl) (Nat.ne_of_lt h5) (.int .i64 a.kind) (.int .i64 a.num) (.string Q) (.slice pp nn cc)
        rw [eW]
        have c5 := hBW.cell
        refine bodyPost_ret (v := .agg #[.int .i64 a.kind, .int .i64 a.num, .string Q, .slice pp nn cc]) (by simp [results, Tryd.results50, go_sem, c5]) rfl ?_
        refine ⟨_, a, m, d, b, rfl, (hV2'.out.keeps hKW fun j hj _ e => by omega).mono fun j hj _ => Nat.le_of_lt hj.1, hRW, hK'.out.step hKW (fun j e => .inr (by omega)), hml, hmp, ?_⟩
        rcases hcase'.out with ⟨h1, h2, n, hn, hG⟩ | h
        · refine .inl ⟨h1, h2, ?_⟩
          rw [← hG]
          exact sumL_no hn (hp.out h1) (Bool.eq_false_iff.2 fun e => ht'.out ⟨h1, e⟩)
        · exact .inr h
end Go.Proofs.YtfhdecdlkmibmaaDoor
