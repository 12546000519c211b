/- Walks: the document's sums of conditions. Walk: the document's held of conditions, without lists. -/
import Derived.Test.YtdfgbkilaepolaaGreatDoorPO06
namespace Go.Proofs.YtdfgbkilaepolaaGreatDoor
open Go.RowKit
/-- what stands at the head of a round of sums -/
def SumG (U : Toks → Res) (w : World) (g gs A : Nat) (L : Toks) (c : CT) (r : Toks) (k : Nat) (wr : World) : Prop :=
  ∃ a m, Var w A wr a ∧ RgL wr g gs L m ∧ Keeps (fun j => j = g) w wr ∧ Blk wr w.heap.size 28 condZ ∧ m.length ≤ k ∧ ∃ n, m.length < n ∧ sumL U n a m = .ok (c, r)
set_option maxHeartbeats 4000000 in
set_option maxRecDepth 100000 in
theorem rsum_calls (U : Toks → Res) (g gs : Nat) (L : Toks) (hU : SaidG 105 U g gs L) (hl : Less U) : SaidG 89 (gSum U) g gs L := by
  intro w l c r h hT
  have hgl := h.lt
  have hsl := h.slt
  have hne := h.ne
  have hB := Lib.hid (Blk.new w 28 condZ)
  have hz0 := alloc_size w (.cells condZ 28)
  have h1 := Lib.hid (h.later ((Below.refl w.heap.size w).alloc (Nat.le_refl _) (.cells condZ 28)))
  have k1 := Lib.hid ((Keeps.refl (fun j => j = g) w).alloc (.cells condZ 28))
  have hz0' := Lib.hid hz0
  obtain ⟨a0, m0, hU0, hT0⟩ : ∃ a m, U l = .ok (a, m) ∧ sumL U (m.length + 1) a m = .ok (c, r) := by
    have hT : (match U l with | .error e => .error e | .ok (a, m) => sumL U (m.length + 1) a m : Res) = .ok (c, r) := hT
    cases hu : U l with
    | error e => rw [hu] at hT; cases hT
    | ok am => rw [hu] at hT; exact ⟨am.1, am.2, rfl, hT⟩
  have D0 := Lib.hid (hU _ l a0 m0 h1.out hU0)
  have hU' := Lib.hid hU
  have hT0' := Lib.hid hT0
  have hl' := Lib.hid hl
  clear hU h hz0 hT hT0 hU0 h1 hl
  go_enter Tryz.func89, Tryz.ntmps89
  go_wp2_with fail
  refine D0.out.mono ?_
  rintro e w2 ⟨cs, rfl, hC, hR2, k2⟩
  have hB2 := Lib.hid (hB.out.keeps k2 (Nat.ne_of_gt hgl))
  have hK2 := Lib.hid (k1.out.trans k2)
  have hC2 := Lib.hid (hC.mono (Q := fun j => w.heap.size < j) fun j hj _ => by rw [hz0'.out] at hj; exact hj)
  have hR2' := Lib.hid hR2
  clear hC k2 hR2 D0
  obtain ⟨Q, pp, nn, cc, rfl⟩ := hC2.out.open_
  have hA : w.heap.size < w2.heap.size := hB2.out.lt
  have hV := Lib.hid (Var.new hC2.out hA)
  have hR3 := Lib.hid (hR2'.out.later ((Below.refl w2.heap.size w2).alloc (Nat.le_refl _) (.cells #[.int .i64 a0.kind, .int .i64 a0.num, .string Q, .slice pp nn cc] 28)))
  have hB3 := Lib.hid (hB2.out.alloc (.cells #[.int .i64 a0.kind, .int .i64 a0.num, .string Q, .slice pp nn cc] 28))
  have hK3 := Lib.hid (hK2.out.alloc (.cells #[.int .i64 a0.kind, .int .i64 a0.num, .string Q, .slice pp nn cc] 28))
  obtain ⟨w3, e3⟩ : ∃ w3, w2.alloc (.cells #[.int .i64 a0.kind, .int .i64 a0.num, .string Q, .slice pp nn cc] 28) = w3 := ⟨_, rfl⟩
  obtain ⟨A, eA⟩ : ∃ A, w2.heap.size = A := ⟨_, rfl⟩
  have hA2 : w.heap.size < A := by omega
  have hV : Hid (Var w A w3 a0) := by
    rw [← e3, ← eA]; exact hV
  rw [e3] at hR3 hB3 hK3
  clear hB2 hK2 hC2 hR2' hB k1 hA
  go_wp2_with fail
  clear e3 eA
  go_loopg [6] (m0.length) (fun k _ wr => SumG U w g gs A L c r k wr)
  case atStart => exact ⟨a0, m0, hV.out, hR3.out, hK3.out, hB3.out, Nat.le_refl _, _, Nat.lt_succ_self _, hT0'.out⟩
  case round =>
    clear hT0' hV hR3 hB3 hK3
    obtain ⟨a, m, hV, hR, hK, hB, hk, n, hn, hG⟩ := hrel
    obtain ⟨Q, pp, nn, cc, hV1, hV2⟩ := hV.open_
    have hV' := Lib.hid hV
    have hR' := Lib.hid hR
    have hK' := Lib.hid hK
    have hB' := Lib.hid hB
    have hV2' := Lib.hid hV2
    have hV1' := Lib.hid hV1
    have a0 := Blk.cell hV1
    have af := Blk.frozen hV1
    have b0 := Blk.cell hB
    have bf := Blk.frozen hB
    unfold condZ at b0
    have hG' := Lib.hid hG
    clear hV hR hK hV1 hV2 hB hG
    by_cases ht : isT m [43] = true
    · have D := Lib.hid (rtake_yes ⟨#[43]⟩ hR'.out (by decide) ht)
      have hm3 := isT_len ht
      obtain ⟨n, rfl⟩ : ∃ k, n = k + 1 := ⟨n - 1, by omega⟩
      obtain ⟨b, m', hU1, hG1⟩ : ∃ b m', U m.tail = .ok (b, m') ∧ sumL U n (pairC 12 a b) m' = .ok (c, r) := by
        have hG2 := hG'.out
        rw [sumL_plus ht] at hG2
        cases hu : U m.tail with
        | error e => rw [hu] at hG2; cases hG2
        | ok am => rw [hu] at hG2; exact ⟨am.1, am.2, rfl, hG2⟩
      have hm1 := hl'.out _ _ _ hU1
      have hU1' := Lib.hid hU1
      have hG1' := Lib.hid hG1
      clear hG' ht hU1 hG1
      go_wp2_with fail
      refine D.out.mono ?_
      rintro e w5 ⟨rfl, hR5, k5⟩
      have hV5 := Lib.hid (hV2'.out.keeps k5 fun j hj _ e => by omega)
      have hA5 := hV1'.out.keeps k5 (by omega)
      have a5 := Blk.cell hA5
      have af5 := Blk.frozen hA5
      have hK5 := Lib.hid (hK'.out.trans k5)
      have hB5 := Lib.hid (hB'.out.keeps k5 (Nat.ne_of_gt hgl))
      have hR5' := Lib.hid hR5
      clear a0 af b0 bf D hR5 k5
      have hR6 : Hid (RgL w5.drew g gs L m.tail) := Lib.hid (hR5'.out.later (Below.refl _ w5).drew)
      have hA6 := Lib.hid hA5.drew
      have hV6 := Lib.hid (hV5.out.keeps (S := fun _ => False) ((Keeps.refl _ w5).drew) fun _ _ _ => id)
      have hB6 := Lib.hid hB5.out.drew
      have hK6 := Lib.hid hK5.out.drew
      have D7 := Lib.hid (hU'.out _ m.tail b m' hR6.out hU1'.out)
      clear hR5' hA5 hV5 hB5 hK5
      go_wp2_with fail
      go_region_with (first | ((go_at_call 105); (with_reducible refine D7.out.mono ?_); (rintro e w7 ⟨cs, rfl, hC, hR7, k7⟩); (obtain ⟨Q2, p2, n2, c2, rfl⟩ := hC.open_); (have hA7 := hA6.out.keeps k7 (by omega)); (have hV7 := Lib.hid (hV6.out.keeps k7 fun j hj _ e => by omega)); (have hB7 := Lib.hid (hB6.out.keeps k7 (Nat.ne_of_gt hgl))); (have hK7 := Lib.hid (hK6.out.trans k7)); (have hC7 := Lib.hid (hC.mono (Q := fun j => w.heap.size < j ∧ j ≠ A) fun j hj _ => ⟨by have := hA6.out.lt; omega, by have := hA6.out.lt; omega⟩)); (have hR7' := Lib.hid hR7); (have a7 := Blk.cell hA7); (have af7 := Blk.frozen hA7); (clear hC hR7 k7)) | ((go_at_call 90); (with_reducible refine (rtwo_calls (fun j => w.heap.size < j ∧ j ≠ A) 12 a b _ _ w7 hV7.out hC7.out).mono ?_); (rintro e w8 ⟨cs8, rfl, hC8, hb8⟩); (obtain ⟨Q8, p8, n8, c8, rfl⟩ := hC8.open_); (have hA8 := hA7.below hb8 hA7.lt); (have a8 := Blk.cell hA8); (have af8 := Blk.frozen hA8)))
      all_goals
        have hA7l := hA7.lt
        have k8 := Keeps.of_below (S := fun _ => False) hb8
        obtain ⟨W, eW, hBW, hRW, hKW⟩ := rput_cond rfl hA8 (hR7'.out.later hb8) (Nat.ne_of_lt (by omega)) (Nat.ne_of_lt (by omega)) (.int .i64 (pairC 12 a b).kind) (.int .i64 (pairC 12 a b).num) (.string Q8) (.slice p8 n8 c8)
        have hVW : Hid (Var w A W (pairC 12 a b)) := Lib.hid ⟨⟨_, hBW, (hC8.mono (Q := fun j => w.heap.size < j ∧ j ≠ A) fun j hj _ => by rcases hj with h | h <;> omega).keeps hKW fun j hj _ e => hj.2 e⟩, hA2⟩
        have hBW2 := Lib.hid ((hB7.out.keeps k8 id).keeps hKW (by omega))
        have hKW2 := Lib.hid ((hK7.out.step k8 fun _ e => e.elim).step hKW (fun j e => .inr (by omega)))
        have hRW' := Lib.hid hRW
        rw [eW]
        clear hKW hBW eW hC8 hb8 hA8 a8 af8 hRW a7 af7 hA7 k8
        go_wp2_with fail
        go_roundg (m'.length)
        case measure => omega
        case rel => exact ⟨pairC 12 a b, m', hVW.out, hRW'.out, hKW2.out, hBW2.out, Nat.le_refl _, n, by omega, hG1'.out⟩
    have h43 : isT m [43] = false := by simpa using ht
    clear ht
    by_cases ht : isT m [45] = true
    · have D0 := Lib.hid (rtake_no ⟨#[43]⟩ hR'.out (by decide) h43)
      have ht' := Lib.hid ht
      have hm3 := isT_len ht
      obtain ⟨n, rfl⟩ : ∃ k, n = k + 1 := ⟨n - 1, by omega⟩
      obtain ⟨b, m', hU1, hG1⟩ : ∃ b m', U m.tail = .ok (b, m') ∧ sumL U n (pairC 13 a b) m' = .ok (c, r) := by
        have hG2 := hG'.out
        rw [sumL_minus h43 ht] at hG2
        cases hu : U m.tail with
        | error e => rw [hu] at hG2; cases hG2
        | ok am => rw [hu] at hG2; exact ⟨am.1, am.2, rfl, hG2⟩
      have hm1 := hl'.out _ _ _ hU1
      have hU1' := Lib.hid hU1
      have hG1' := Lib.hid hG1
      clear hG' ht h43 hU1 hG1
      go_wp2_with fail
      refine D0.out.mono ?_
      rintro e w4 ⟨rfl, hb4⟩
      have hR4 := Lib.hid (hR'.out.later hb4)
      have hV4 := Lib.hid (hV2'.out.later hb4)
      have hA4 := Lib.hid (hV1'.out.below hb4 hV1'.out.lt)
      have hB4 := Lib.hid (hB'.out.below hb4 hB'.out.lt)
      have hK4 := Lib.hid (hK'.out.step (Keeps.of_below (S := fun _ => False) hb4) fun _ e => e.elim)
      have D := Lib.hid (rtake_yes ⟨#[45]⟩ hR4.out (by decide) ht'.out)
      clear a0 af b0 bf hb4 D0
      go_wp2_with fail
      refine D.out.mono ?_
      rintro e w5 ⟨rfl, hR5, k5⟩
      have hV5 := Lib.hid (hV4.out.keeps k5 fun j hj _ e => by omega)
      have hA5 := hA4.out.keeps k5 (by omega)
      have a5 := Blk.cell hA5
      have af5 := Blk.frozen hA5
      have hK5 := Lib.hid (hK4.out.trans k5)
      have hB5 := Lib.hid (hB4.out.keeps k5 (Nat.ne_of_gt hgl))
      have hR5' := Lib.hid hR5
      clear D hR5 k5
      have hR6 : Hid (RgL w5.drew g gs L m.tail) := Lib.hid (hR5'.out.later (Below.refl _ w5).drew)
      have hA6 := Lib.hid hA5.drew
      have hV6 := Lib.hid (hV5.out.keeps (S := fun _ => False) ((Keeps.refl _ w5).drew) fun _ _ _ => id)
      have hB6 := Lib.hid hB5.out.drew
      have hK6 := Lib.hid hK5.out.drew
      have D7 := Lib.hid (hU'.out _ m.tail b m' hR6.out hU1'.out)
      clear hR5' hA5 hV5 hB5 hK5
      go_wp2_with fail
      go_region_with (first | ((go_at_call 105); (with_reducible refine D7.out.mono ?_); (rintro e w7 ⟨cs, rfl, hC, hR7, k7⟩); (obtain ⟨Q2, p2, n2, c2, rfl⟩ := hC.open_); (have hA7 := hA6.out.keeps k7 (by omega)); (have hV7 := Lib.hid (hV6.out.keeps k7 fun j hj _ e => by omega)); (have hB7 := Lib.hid (hB6.out.keeps k7 (Nat.ne_of_gt hgl))); (have hK7 := Lib.hid (hK6.out.trans k7)); (have hC7 := Lib.hid (hC.mono (Q := fun j => w.heap.size < j ∧ j ≠ A) fun j hj _ => ⟨by have := hA6.out.lt; omega, by have := hA6.out.lt; omega⟩)); (have hR7' := Lib.hid hR7); (have a7 := Blk.cell hA7); (have af7 := Blk.frozen hA7); (clear hC hR7 k7)) | ((go_at_call 90); (with_reducible refine (rtwo_calls (fun j => w.heap.size < j ∧ j ≠ A) 13 a b _ _ w7 hV7.out hC7.out).mono ?_); (rintro e w8 ⟨cs8, rfl, hC8, hb8⟩); (obtain ⟨Q8, p8, n8, c8, rfl⟩ := hC8.open_); (have hA8 := hA7.below hb8 hA7.lt); (have a8 := Blk.cell hA8); (have af8 := Blk.frozen hA8)))
      all_goals
        have hA7l := hA7.lt
        have k8 := Keeps.of_below (S := fun _ => False) hb8
        obtain ⟨W, eW, hBW, hRW, hKW⟩ := rput_cond rfl hA8 (hR7'.out.later hb8) (Nat.ne_of_lt (by omega)) (Nat.ne_of_lt (by omega)) (.int .i64 (pairC 13 a b).kind) (.int .i64 (pairC 13 a b).num) (.string Q8) (.slice p8 n8 c8)
        have hVW : Hid (Var w A W (pairC 13 a b)) := Lib.hid ⟨⟨_, hBW, (hC8.mono (Q := fun j => w.heap.size < j ∧ j ≠ A) fun j hj _ => by rcases hj with h | h <;> omega).keeps hKW fun j hj _ e => hj.2 e⟩, hA2⟩
        have hBW2 := Lib.hid ((hB7.out.keeps k8 id).keeps hKW (by omega))
        have hKW2 := Lib.hid ((hK7.out.step k8 fun _ e => e.elim).step hKW (fun j e => .inr (by omega)))
        have hRW' := Lib.hid hRW
        rw [eW]
        clear hKW hBW eW hC8 hb8 hA8 a8 af8 hRW a7 af7 hA7 k8
        go_wp2_with fail
        go_roundg (m'.length)
        case measure => omega
        case rel => exact ⟨pairC 13 a b, m', hVW.out, hRW'.out, hKW2.out, hBW2.out, Nat.le_refl _, n, by omega, hG1'.out⟩
    · have h45 : isT m [45] = false := by simpa using ht
      have D0 := Lib.hid (rtake_no ⟨#[43]⟩ hR'.out (by decide) h43)
      have h45' := Lib.hid h45
      have hG2 := hG'.out
      rw [sumL_no hn h43 h45] at hG2
      injection hG2 with hG2
      injection hG2 with hG3 hG4
      subst hG3 hG4
      clear ht h43 h45 hG'
      go_wp2_with fail
      refine D0.out.mono ?_
      rintro e w4 ⟨rfl, hb4⟩
      have hR4 := hR'.out.later hb4
      have D := Lib.hid (rtake_no ⟨#[45]⟩ hR4 (by decide) h45'.out)
      have hb4' := Lib.hid hb4
      clear hb4 hR4 D0 a0 af b0 bf
      go_wp2_with fail
      refine D.out.mono ?_
      rintro e w5 ⟨rfl, hb5'⟩
      have hb5 := hb4'.out.trans (hb5'.mono hb4'.out.size)
      have hR5 := Lib.hid (hR'.out.later hb5)
      have hV5 := Lib.hid (hV2'.out.later hb5)
      have hA5 := hV1'.out.below hb5 hV1'.out.lt
      have hB5 := hB'.out.below hb5 hB'.out.lt
      have hK5 := Lib.hid (hK'.out.step (Keeps.of_below (S := fun _ => False) hb5) fun _ e => e.elim)
      have a5 := Blk.cell hA5
      have b5 := Blk.cell hB5
      have f5 := Blk.frozen hB5
      have hB5' := Lib.hid hB5
      unfold condZ at b5
      clear D hb5 hb5' hb4' hA5 hB5
      go_wp2_with fail
      obtain ⟨W, eW, hBW, hRW, hKW⟩ := rput_cond rfl hB5'.out hR5.out (Nat.ne_of_lt hgl) (Nat.ne_of_lt hsl) (.int .i64 a.kind) (.int .i64 a.num) (.string Q) (.slice pp nn cc)
      rw [eW]
      have c5 := hBW.cell
      refine bodyPost_ret (v := .agg #[.int .i64 a.kind, .int .i64 a.num, .string Q, .slice pp nn cc]) (by simp [results, Tryz.results89, go_sem, c5]) rfl ?_
      exact ⟨_, rfl, (hV5.out.keeps hKW fun j hj _ e => by omega).mono fun j hj _ => Nat.le_of_lt hj.1, hRW, hK5.out.step hKW (fun j e => .inr (by omega))⟩
end Go.Proofs.YtdfgbkilaepolaaGreatDoor
namespace Go.Proofs.YtdfgbkilaepolaaGreatDoor
open Go.RowKit
def heldR (U : Toks → Res) (a : CT) (m : Toks) : Res :=
    if isT m [61] then heldB U m.tail fun b => pairC 9 a b
    else if isT m [33, 61] then heldB U m.tail fun b => notC (pairC 9 a b)
    else if isT m [60] then heldB U m.tail fun b => pairC 10 a b
    else if isT m [60, 61] then heldB U m.tail fun b => pairC 11 a b
    else if isT m [62] then .error 0
    else if isT m [62, 61] then .error 0
    else if isT m inL then .error 0
    else .ok (a, m)
def gHeldR (U : Toks → Res) (l : Toks) : Res := match U l with
  | .error e => .error e
  | .ok (a, m) => heldR U a m
theorem heldB_is {U : Toks → Res} {m r : Toks} {f : CT → CT} {c : CT} (h : heldB U m f = .ok (c, r)) : ∃ b, U m = .ok (b, r) ∧ c = f b := by
  unfold heldB at h
  cases hu : U m with
  | error e => rw [hu] at h; cases h
  | ok am =>
    rw [hu] at h
    obtain ⟨b, q⟩ := am
    have h : (.ok (f b, q) : Res) = .ok (c, r) := h
    injection h with h
    injection h with h1 h2
    subst h1 h2
    exact ⟨b, rfl, rfl⟩
def opsB : List (List UInt8) := [[61], [33, 61], [60], [60, 61], [62], [62, 61]]
set_option maxHeartbeats 8000000 in
set_option maxRecDepth 100000 in
theorem rheld_calls (U : Toks → Res) (g gs : Nat) (L : Toks) (hU : SaidG 89 U g gs L) : SaidG 71 (gHeldR U) g gs L := by
  intro w l c r h hT
  have hgl := h.lt
  have hsl := h.slt
  have hne := h.ne
  have hB := Lib.hid (Blk.new w 28 condZ)
  have hz0 := alloc_size w (.cells condZ 28)
  have h1 := Lib.hid (h.later ((Below.refl w.heap.size w).alloc (Nat.le_refl _) (.cells condZ 28)))
  have k1 := Lib.hid ((Keeps.refl (fun j => j = g) w).alloc (.cells condZ 28))
  have hz0' := Lib.hid hz0
  obtain ⟨a, m, hU0, hT0⟩ : ∃ a m, U l = .ok (a, m) ∧ heldR U a m = .ok (c, r) := by
    have hT : (match U l with | .error e => .error e | .ok (a, m) => heldR U a m : Res) = .ok (c, r) := hT
    cases hu : U l with
    | error e => rw [hu] at hT; cases hT
    | ok am => rw [hu] at hT; exact ⟨am.1, am.2, rfl, hT⟩
  have D0 := Lib.hid (hU _ l a m h1.out hU0)
  have hU' := Lib.hid hU
  have hT0' := Lib.hid hT0
  clear hU h hz0 hT hT0 hU0 h1
  go_enter Tryz.func71, Tryz.ntmps71
  go_wp2_with fail
  refine D0.out.mono ?_
  rintro e w2 ⟨cs, rfl, hC, hR2, k2⟩
  have hB2 := Lib.hid (hB.out.keeps k2 (Nat.ne_of_gt hgl))
  have hK2 := Lib.hid (k1.out.trans k2)
  have hC2 := Lib.hid (hC.mono (Q := fun j => w.heap.size < j) fun j hj _ => by rw [hz0'.out] at hj; exact hj)
  have hR2' := Lib.hid hR2
  clear hC k2 hR2 D0
  obtain ⟨Q, pp, nn, cc, rfl⟩ := hC2.out.open_
  have hA : w.heap.size < w2.heap.size := hB2.out.lt
  have hV := Lib.hid (Var.new hC2.out hA)
  have hR3 := hR2'.out.later ((Below.refl w2.heap.size w2).alloc (Nat.le_refl _) (.cells #[.int .i64 a.kind, .int .i64 a.num, .string Q, .slice pp nn cc] 28))
  have hB3 := hB2.out.alloc (.cells #[.int .i64 a.kind, .int .i64 a.num, .string Q, .slice pp nn cc] 28)
  have hK3 := hK2.out.alloc (.cells #[.int .i64 a.kind, .int .i64 a.num, .string Q, .slice pp nn cc] 28)
  obtain ⟨w3, e3⟩ : ∃ w3, w2.alloc (.cells #[.int .i64 a.kind, .int .i64 a.num, .string Q, .slice pp nn cc] 28) = w3 := ⟨_, rfl⟩
  obtain ⟨A, eA⟩ : ∃ A, w2.heap.size = A := ⟨_, rfl⟩
  have hA2 : w.heap.size < A := by omega
  have hV : Hid (Var w A w3 a) := by
    rw [← e3, ← eA]; exact hV
  rw [e3] at hR3 hB3 hK3
  -- the operators
  have o4 := Blk.new w3 9 #[.string ⟨#[61]⟩, .string ⟨#[33, 61]⟩, .string ⟨#[60]⟩, .string ⟨#[60, 61]⟩, .string ⟨#[62]⟩, .string ⟨#[62, 61]⟩]
  have hA4 : Below w3.heap.size w3 (w3.alloc (.cells #[.string ⟨#[61]⟩, .string ⟨#[33, 61]⟩, .string ⟨#[60]⟩, .string ⟨#[60, 61]⟩, .string ⟨#[62]⟩, .string ⟨#[62, 61]⟩] 9)) := (Below.refl w3.heap.size w3).alloc (Nat.le_refl _) _
  obtain ⟨w4, e4⟩ : ∃ w4, w3.alloc (.cells #[.string ⟨#[61]⟩, .string ⟨#[33, 61]⟩, .string ⟨#[60]⟩, .string ⟨#[60, 61]⟩, .string ⟨#[62]⟩, .string ⟨#[62, 61]⟩] 9) = w4 := ⟨_, rfl⟩
  obtain ⟨O, eO⟩ : ∃ O, w3.heap.size = O := ⟨_, rfl⟩
  rw [e4] at o4 hA4
  rw [eO] at o4
  have hAl : A < w3.heap.size := by obtain ⟨_, h, _⟩ := hV.out.blk; exact h.lt
  have hR4 := Lib.hid (hR3.later hA4)
  have hB4 := Lib.hid (hB3.below hA4 hB3.lt)
  have hK4 := Lib.hid (hK3.step (Keeps.of_below (S := fun _ => False) hA4) fun _ e => e.elim)
  have hV4 : Hid (Var w A w4 a) := Lib.hid (hV.out.keeps (Keeps.of_below (S := fun _ => False) hA4) fun _ _ => id)
  have o4' := Lib.hid o4
  clear hB2 hK2 hC2 hR2' hB k1 hA hV hR3 hB3 hK3 o4 hA4 hAl
  go_wp2_with fail
  clear e3 eA e4 eO
  go_loopw [12] (fun i wr => ∃ k : Nat, i = .int .i64 k ∧ k ≤ 6 ∧ Below w4.heap.size w4 wr ∧ ∀ j x, j < k → opsB[j]? = some x → isT m x = false) (fun i _ => 6 - (intOf i).toNat)
  case atStart => exact ⟨0, rfl, by omega, Below.refl _ _, fun j x hj => absurd hj (Nat.not_lt_zero _)⟩
  case round =>
    obtain ⟨k, rfl, hk, hb, hno⟩ := hrel
    have hRr := Lib.hid (hR4.out.later hb)
    have hBr := Lib.hid (hB4.out.below hb hB4.out.lt)
    have hKr := Lib.hid (hK4.out.step (Keeps.of_below (S := fun _ => False) hb) fun _ e => e.elim)
    have hVr : Hid (Var w A wr a) := Lib.hid (hV4.out.keeps (Keeps.of_below (S := fun _ => False) hb) fun _ _ => id)
    have oc := o4'.out.below hb o4'.out.lt
    have ol := oc.lt
    have hb' := Lib.hid hb
    have hno' := Lib.hid hno
    have c0 : wr.cell? ⟨O, 0, none⟩ = some (.string ⟨#[61]⟩) := oc.cell 0
    have c1 : wr.cell? ⟨O, 1, none⟩ = some (.string ⟨#[33, 61]⟩) := oc.cell 1
    have c2 : wr.cell? ⟨O, 2, none⟩ = some (.string ⟨#[60]⟩) := oc.cell 2
    have c3 : wr.cell? ⟨O, 3, none⟩ = some (.string ⟨#[60, 61]⟩) := oc.cell 3
    have c4 : wr.cell? ⟨O, 4, none⟩ = some (.string ⟨#[62]⟩) := oc.cell 4
    have c5 : wr.cell? ⟨O, 5, none⟩ = some (.string ⟨#[62, 61]⟩) := oc.cell 5
    clear hb hno oc
    have hk7 : k = 0 ∨ k = 1 ∨ k = 2 ∨ k = 3 ∨ k = 4 ∨ k = 5 ∨ k = 6 := by omega
    rcases hk7 with rfl | rfl | rfl | rfl | rfl | rfl | rfl
    · by_cases ht : isT m [61] = true
      · have hT1 := hT0'.out
        unfold heldR at hT1
        rw [if_pos ht] at hT1
        obtain ⟨b, hU1, hcb⟩ := heldB_is hT1
        have hcb : Hid (c = pairC 9 a b) := Lib.hid hcb
        have D := Lib.hid (rtake_yes ⟨#[61]⟩ hRr.out (by decide) ht)
        have hU1' := Lib.hid hU1
        clear hT1 hU1 ht
        go_wp2_with fail
        refine D.out.mono ?_
        rintro e w5 ⟨rfl, hR5, k5⟩
        have hV5 := Lib.hid (hVr.out.keeps k5 fun j hj e => by omega)
        have hB5 := Lib.hid (hBr.out.keeps k5 (Nat.ne_of_gt hgl))
        have hK5 := Lib.hid (hKr.out.trans k5)
        have D6 := Lib.hid (hU'.out _ m.tail b r hR5 hU1'.out)
        have hw5 : w.heap.size < w5.heap.size := hB5.out.lt
        clear D hR5 k5 c0 c1 c2 c3 c4 c5
        go_wp2_with fail
        refine D6.out.mono ?_
        rintro e w6 ⟨cs, rfl, hC6, hR6, k6⟩
        obtain ⟨Q6, p6, n6, c6, rfl⟩ := hC6.open_
        have hV6 := hV5.out.keeps k6 fun j hj e => by omega
        have hB6 := hB5.out.keeps k6 (Nat.ne_of_gt hgl)
        have hK6 := hK5.out.trans k6
        have hC6 := hC6.mono (Q := fun j => w.heap.size < j) fun j hj _ => Nat.lt_of_lt_of_le hw5 hj
        have hA7 := (Below.refl w6.heap.size w6).alloc (Nat.le_refl _) (.cells #[.int .i64 b.kind, .int .i64 b.num, .string Q6, .slice p6 n6 c6] 28)
        have b7 := Blk.new w6 28 #[.int .i64 b.kind, .int .i64 b.num, .string Q6, .slice p6 n6 c6]
        obtain ⟨w7, e7⟩ : ∃ w7, w6.alloc (.cells #[.int .i64 b.kind, .int .i64 b.num, .string Q6, .slice p6 n6 c6] 28) = w7 := ⟨_, rfl⟩
        rw [e7] at hA7 b7
        have hV7 := hV6.keeps (Keeps.of_below (S := fun _ => False) hA7) fun _ _ => id
        have hB7 := Lib.hid (hB6.below hA7 hB6.lt)
        have hK7 := Lib.hid (hK6.step (Keeps.of_below (S := fun _ => False) hA7) fun _ e => e.elim)
        have hR7 := Lib.hid (hR6.later hA7)
        have hC7 := Lib.hid (hC6.later hA7)
        obtain ⟨Q7, p7, n7, c7, hV71, hV72⟩ := hV7.open_
        have a7 := hV71.cell
        have bc7 := b7.cell
        have hC71 := Lib.hid (hV72.mono (Q := fun j => w.heap.size < j) fun j hj _ => hj.1)
        have T := Lib.hid (rtwo_calls (fun j => w.heap.size < j) 9 a b _ _ w7 hC71.out hC7.out)
        clear hC6 hR6 k6 hV6 hB6 hK6 hA7 b7 hV7 hV71 hV72 D6
        go_wp2_with fail
        refine T.out.mono ?_
        rintro e w8 ⟨cs8, rfl, hC8, hb8⟩
        obtain ⟨Q8, p8, n8, c8, rfl⟩ := hC8.open_
        have hB8 := hB7.out.below hb8 hB7.out.lt
        have hR8 := hR7.out.later hb8
        have hK8 := hK7.out.step (Keeps.of_below (S := fun _ => False) hb8) fun _ e => e.elim
        have hB8' := Lib.hid hB8
        have hR8' := Lib.hid hR8
        have hK8' := Lib.hid hK8
        have hC8' := Lib.hid hC8
        have hwl : w.heap.size < w7.heap.size := hB7.out.lt
        have z8 := hB8.cell
        have zf := hB8.frozen
        unfold condZ at z8
        clear hC8 hb8 hB8 hR8 hK8 T a7 bc7
        go_wp2_with fail
        obtain ⟨W, eW, hBW, hRW, hKW⟩ := rput_cond rfl hB8'.out hR8'.out (Nat.ne_of_lt hgl) (Nat.ne_of_lt hsl) (.int .i64 (pairC 9 a b).kind) (.int .i64 (pairC 9 a b).num) (.string Q8) (.slice p8 n8 c8)
        rw [eW]
        have c5 := hBW.cell
        refine bodyPost_ret (v := .agg #[.int .i64 (pairC 9 a b).kind, .int .i64 (pairC 9 a b).num, .string Q8, .slice p8 n8 c8]) (by simp [results, Tryz.results71, go_sem, c5]) rfl ?_
        rw [hcb.out]
        exact ⟨_, rfl, ((hC8'.out.mono (Q := fun j => w.heap.size < j) fun j hj _ => by rcases hj with h | h <;> omega).keeps hKW fun j hj _ e => by omega).mono fun j hj _ => Nat.le_of_lt hj, hRW, hK8'.out.step hKW (fun j e => .inr (by omega))⟩
      · have ht : isT m [61] = false := by simpa using ht
        have D := Lib.hid (rtake_no ⟨#[61]⟩ hRr.out (by decide) ht)
        have ht' := Lib.hid ht
        clear ht
        go_wp2_with fail
        refine D.out.mono ?_
        rintro e w5 ⟨rfl, hb5⟩
        have hb5' := Lib.hid (hb'.out.trans (hb5.mono hb'.out.size))
        clear D hb5
        go_wp2_with fail
        go_roundw
        case rel =>
          refine ⟨1, rfl, by omega, hb5'.out, fun j x hj hx => ?_⟩
          by_cases hjk : j < 0
          · exact hno'.out j x hjk hx
          · obtain rfl : j = 0 := by omega
            obtain rfl := Option.some.inj hx
            exact ht'.out
        case measure => simp [intOf]
    · by_cases ht : isT m [33, 61] = true
      · have hT1 := hT0'.out
        unfold heldR at hT1
        rw [if_neg (by rw [hno'.out 0 _ (by decide) rfl]; decide), if_pos ht] at hT1
        obtain ⟨b, hU1, hcb⟩ := heldB_is hT1
        have hcb : Hid (c = notC (pairC 9 a b)) := Lib.hid hcb
        have D := Lib.hid (rtake_yes ⟨#[33, 61]⟩ hRr.out (by decide) ht)
        have hU1' := Lib.hid hU1
        clear hT1 hU1 ht
        go_wp2_with fail
        refine D.out.mono ?_
        rintro e w5 ⟨rfl, hR5, k5⟩
        have hV5 := Lib.hid (hVr.out.keeps k5 fun j hj e => by omega)
        have hB5 := Lib.hid (hBr.out.keeps k5 (Nat.ne_of_gt hgl))
        have hK5 := Lib.hid (hKr.out.trans k5)
        have D6 := Lib.hid (hU'.out _ m.tail b r hR5 hU1'.out)
        have hw5 : w.heap.size < w5.heap.size := hB5.out.lt
        clear D hR5 k5 c0 c1 c2 c3 c4 c5
        go_wp2_with fail
        refine D6.out.mono ?_
        rintro e w6 ⟨cs, rfl, hC6, hR6, k6⟩
        obtain ⟨Q6, p6, n6, c6, rfl⟩ := hC6.open_
        have hV6 := hV5.out.keeps k6 fun j hj e => by omega
        have hB6 := hB5.out.keeps k6 (Nat.ne_of_gt hgl)
        have hK6 := hK5.out.trans k6
        have hC6 := hC6.mono (Q := fun j => w.heap.size < j) fun j hj _ => Nat.lt_of_lt_of_le hw5 hj
        have hA7 := (Below.refl w6.heap.size w6).alloc (Nat.le_refl _) (.cells #[.int .i64 b.kind, .int .i64 b.num, .string Q6, .slice p6 n6 c6] 28)
        have b7 := Blk.new w6 28 #[.int .i64 b.kind, .int .i64 b.num, .string Q6, .slice p6 n6 c6]
        obtain ⟨w7, e7⟩ : ∃ w7, w6.alloc (.cells #[.int .i64 b.kind, .int .i64 b.num, .string Q6, .slice p6 n6 c6] 28) = w7 := ⟨_, rfl⟩
        rw [e7] at hA7 b7
        have hV7 := hV6.keeps (Keeps.of_below (S := fun _ => False) hA7) fun _ _ => id
        have hB7 := Lib.hid (hB6.below hA7 hB6.lt)
        have hK7 := Lib.hid (hK6.step (Keeps.of_below (S := fun _ => False) hA7) fun _ e => e.elim)
        have hR7 := Lib.hid (hR6.later hA7)
        have hC7 := Lib.hid (hC6.later hA7)
        obtain ⟨Q7, p7, n7, c7, hV71, hV72⟩ := hV7.open_
        have a7 := hV71.cell
        have bc7 := b7.cell
        have hC71 := Lib.hid (hV72.mono (Q := fun j => w.heap.size < j) fun j hj _ => hj.1)
        have T := Lib.hid (rtwo_calls (fun j => w.heap.size < j) 9 a b _ _ w7 hC71.out hC7.out)
        clear hC6 hR6 k6 hV6 hB6 hK6 hA7 b7 hV7 hV71 hV72 D6
        go_wp2_with fail
        refine T.out.mono ?_
        rintro e w8 ⟨cs8, rfl, hC8, hb8⟩
        obtain ⟨Q8, p8, n8, c8, rfl⟩ := hC8.open_
        have hB8 := hB7.out.below hb8 hB7.out.lt
        have hR8 := hR7.out.later hb8
        have hK8 := hK7.out.step (Keeps.of_below (S := fun _ => False) hb8) fun _ e => e.elim
        have d9 := Blk.new w8 28 #[.int .i64 (pairC 9 a b).kind, .int .i64 (pairC 9 a b).num, .string Q8, .slice p8 n8 c8]
        have hA9 := (Below.refl w8.heap.size w8).alloc (Nat.le_refl _) (.cells #[.int .i64 (pairC 9 a b).kind, .int .i64 (pairC 9 a b).num, .string Q8, .slice p8 n8 c8] 28)
        have hk9 := (Keeps.refl (fun _ => False) w8).alloc (.cells #[.int .i64 (pairC 9 a b).kind, .int .i64 (pairC 9 a b).num, .string Q8, .slice p8 n8 c8] 28)
        have row := CAt.row (q := w8.heap.size) (ps := [pairC 9 a b]) (P := fun j => w.heap.size < j ∨ w7.heap.size ≤ j) (w := w8) d9 (Nat.le_refl _) hC8.one hk9 6 0 []
        obtain ⟨w9, e9⟩ : ∃ w9, w8.alloc (.cells #[.int .i64 (pairC 9 a b).kind, .int .i64 (pairC 9 a b).num, .string Q8, .slice p8 n8 c8] 28) = w9 := ⟨_, rfl⟩
        rw [e9] at d9 hA9 hk9 row
        have hB9 := Lib.hid (hB8.below hA9 hB8.lt)
        have hR9 := Lib.hid (hR8.later hA9)
        have hK9 := Lib.hid (hK8.step (Keeps.of_below (S := fun _ => False) hA9) fun _ e => e.elim)
        have row' := Lib.hid row
        have hwl : w.heap.size < w7.heap.size := hB7.out.lt
        have hwl8 : w.heap.size < w8.heap.size := hB8.lt
        have z8 := hB9.out.cell
        have zf := hB9.out.frozen
        unfold condZ at z8
        clear hC8 hb8 hB8 hR8 hK8 T d9 hA9 hk9 row a7 bc7
        go_wp2_with fail
        obtain ⟨W, eW, hBW, hRW, hKW⟩ := rput_cond rfl hB9.out hR9.out (Nat.ne_of_lt hgl) (Nat.ne_of_lt hsl) (.int .i64 6) (.int .i64 0) (.string ⟨#[]⟩) (.slice (some ⟨w8.heap.size, 0, none⟩) 1 1)
        rw [eW]
        have c5 := hBW.cell
        refine bodyPost_ret (v := .agg #[.int .i64 6, .int .i64 0, .string ⟨#[]⟩, .slice (some ⟨w8.heap.size, 0, none⟩) 1 1]) (by simp [results, Tryz.results71, go_sem, c5]) rfl ?_
        rw [hcb.out]
        exact ⟨_, rfl, ((row'.out.mono (Q := fun j => w.heap.size < j) fun j hj _ => by rcases hj with (h | h) | h <;> omega).keeps hKW fun j hj _ e => by omega).mono fun j hj _ => Nat.le_of_lt hj, hRW, hK9.out.step hKW (fun j e => .inr (by omega))⟩
      · have ht : isT m [33, 61] = false := by simpa using ht
        have D := Lib.hid (rtake_no ⟨#[33, 61]⟩ hRr.out (by decide) ht)
        have ht' := Lib.hid ht
        clear ht
        go_wp2_with fail
        refine D.out.mono ?_
        rintro e w5 ⟨rfl, hb5⟩
        have hb5' := Lib.hid (hb'.out.trans (hb5.mono hb'.out.size))
        clear D hb5
        go_wp2_with fail
        go_roundw
        case rel =>
          refine ⟨2, rfl, by omega, hb5'.out, fun j x hj hx => ?_⟩
          by_cases hjk : j < 1
          · exact hno'.out j x hjk hx
          · obtain rfl : j = 1 := by omega
            obtain rfl := Option.some.inj hx
            exact ht'.out
        case measure => simp [intOf]
    · by_cases ht : isT m [60] = true
      · have hT1 := hT0'.out
        unfold heldR at hT1
        rw [if_neg (by rw [hno'.out 0 _ (by decide) rfl]; decide), if_neg (by rw [hno'.out 1 _ (by decide) rfl]; decide), if_pos ht] at hT1
        obtain ⟨b, hU1, hcb⟩ := heldB_is hT1
        have hcb : Hid (c = pairC 10 a b) := Lib.hid hcb
        have D := Lib.hid (rtake_yes ⟨#[60]⟩ hRr.out (by decide) ht)
        have hU1' := Lib.hid hU1
        clear hT1 hU1 ht
        go_wp2_with fail
        refine D.out.mono ?_
        rintro e w5 ⟨rfl, hR5, k5⟩
        have hV5 := Lib.hid (hVr.out.keeps k5 fun j hj e => by omega)
        have hB5 := Lib.hid (hBr.out.keeps k5 (Nat.ne_of_gt hgl))
        have hK5 := Lib.hid (hKr.out.trans k5)
        have D6 := Lib.hid (hU'.out _ m.tail b r hR5 hU1'.out)
        have hw5 : w.heap.size < w5.heap.size := hB5.out.lt
        clear D hR5 k5 c0 c1 c2 c3 c4 c5
        go_wp2_with fail
        refine D6.out.mono ?_
        rintro e w6 ⟨cs, rfl, hC6, hR6, k6⟩
        obtain ⟨Q6, p6, n6, c6, rfl⟩ := hC6.open_
        have hV6 := hV5.out.keeps k6 fun j hj e => by omega
        have hB6 := hB5.out.keeps k6 (Nat.ne_of_gt hgl)
        have hK6 := hK5.out.trans k6
        have hC6 := hC6.mono (Q := fun j => w.heap.size < j) fun j hj _ => Nat.lt_of_lt_of_le hw5 hj
        have hA7 := (Below.refl w6.heap.size w6).alloc (Nat.le_refl _) (.cells #[.int .i64 b.kind, .int .i64 b.num, .string Q6, .slice p6 n6 c6] 28)
        have b7 := Blk.new w6 28 #[.int .i64 b.kind, .int .i64 b.num, .string Q6, .slice p6 n6 c6]
        obtain ⟨w7, e7⟩ : ∃ w7, w6.alloc (.cells #[.int .i64 b.kind, .int .i64 b.num, .string Q6, .slice p6 n6 c6] 28) = w7 := ⟨_, rfl⟩
        rw [e7] at hA7 b7
        have hV7 := hV6.keeps (Keeps.of_below (S := fun _ => False) hA7) fun _ _ => id
        have hB7 := Lib.hid (hB6.below hA7 hB6.lt)
        have hK7 := Lib.hid (hK6.step (Keeps.of_below (S := fun _ => False) hA7) fun _ e => e.elim)
        have hR7 := Lib.hid (hR6.later hA7)
        have hC7 := Lib.hid (hC6.later hA7)
        obtain ⟨Q7, p7, n7, c7, hV71, hV72⟩ := hV7.open_
        have a7 := hV71.cell
        have bc7 := b7.cell
        have hC71 := Lib.hid (hV72.mono (Q := fun j => w.heap.size < j) fun j hj _ => hj.1)
        have T := Lib.hid (rtwo_calls (fun j => w.heap.size < j) 10 a b _ _ w7 hC71.out hC7.out)
        clear hC6 hR6 k6 hV6 hB6 hK6 hA7 b7 hV7 hV71 hV72 D6
        go_wp2_with fail
        refine T.out.mono ?_
        rintro e w8 ⟨cs8, rfl, hC8, hb8⟩
        obtain ⟨Q8, p8, n8, c8, rfl⟩ := hC8.open_
        have hB8 := hB7.out.below hb8 hB7.out.lt
        have hR8 := hR7.out.later hb8
        have hK8 := hK7.out.step (Keeps.of_below (S := fun _ => False) hb8) fun _ e => e.elim
        have hB8' := Lib.hid hB8
        have hR8' := Lib.hid hR8
        have hK8' := Lib.hid hK8
        have hC8' := Lib.hid hC8
        have hwl : w.heap.size < w7.heap.size := hB7.out.lt
        have z8 := hB8.cell
        have zf := hB8.frozen
        unfold condZ at z8
        clear hC8 hb8 hB8 hR8 hK8 T a7 bc7
        go_wp2_with fail
        obtain ⟨W, eW, hBW, hRW, hKW⟩ := rput_cond rfl hB8'.out hR8'.out (Nat.ne_of_lt hgl) (Nat.ne_of_lt hsl) (.int .i64 (pairC 10 a b).kind) (.int .i64 (pairC 10 a b).num) (.string Q8) (.slice p8 n8 c8)
        rw [eW]
        have c5 := hBW.cell
        refine bodyPost_ret (v := .agg #[.int .i64 (pairC 10 a b).kind, .int .i64 (pairC 10 a b).num, .string Q8, .slice p8 n8 c8]) (by simp [results, Tryz.results71, go_sem, c5]) rfl ?_
        rw [hcb.out]
        exact ⟨_, rfl, ((hC8'.out.mono (Q := fun j => w.heap.size < j) fun j hj _ => by rcases hj with h | h <;> omega).keeps hKW fun j hj _ e => by omega).mono fun j hj _ => Nat.le_of_lt hj, hRW, hK8'.out.step hKW (fun j e => .inr (by omega))⟩
      · have ht : isT m [60] = false := by simpa using ht
        have D := Lib.hid (rtake_no ⟨#[60]⟩ hRr.out (by decide) ht)
        have ht' := Lib.hid ht
        clear ht
        go_wp2_with fail
        refine D.out.mono ?_
        rintro e w5 ⟨rfl, hb5⟩
        have hb5' := Lib.hid (hb'.out.trans (hb5.mono hb'.out.size))
        clear D hb5
        go_wp2_with fail
        go_roundw
        case rel =>
          refine ⟨3, rfl, by omega, hb5'.out, fun j x hj hx => ?_⟩
          by_cases hjk : j < 2
          · exact hno'.out j x hjk hx
          · obtain rfl : j = 2 := by omega
            obtain rfl := Option.some.inj hx
            exact ht'.out
        case measure => simp [intOf]
    · by_cases ht : isT m [60, 61] = true
      · have hT1 := hT0'.out
        unfold heldR at hT1
        rw [if_neg (by rw [hno'.out 0 _ (by decide) rfl]; decide), if_neg (by rw [hno'.out 1 _ (by decide) rfl]; decide), if_neg (by rw [hno'.out 2 _ (by decide) rfl]; decide), if_pos ht] at hT1
        obtain ⟨b, hU1, hcb⟩ := heldB_is hT1
        have hcb : Hid (c = pairC 11 a b) := Lib.hid hcb
        have D := Lib.hid (rtake_yes ⟨#[60, 61]⟩ hRr.out (by decide) ht)
        have hU1' := Lib.hid hU1
        clear hT1 hU1 ht
        go_wp2_with fail
        refine D.out.mono ?_
        rintro e w5 ⟨rfl, hR5, k5⟩
        have hV5 := Lib.hid (hVr.out.keeps k5 fun j hj e => by omega)
        have hB5 := Lib.hid (hBr.out.keeps k5 (Nat.ne_of_gt hgl))
        have hK5 := Lib.hid (hKr.out.trans k5)
        have D6 := Lib.hid (hU'.out _ m.tail b r hR5 hU1'.out)
        have hw5 : w.heap.size < w5.heap.size := hB5.out.lt
        clear D hR5 k5 c0 c1 c2 c3 c4 c5
        go_wp2_with fail
        refine D6.out.mono ?_
        rintro e w6 ⟨cs, rfl, hC6, hR6, k6⟩
        obtain ⟨Q6, p6, n6, c6, rfl⟩ := hC6.open_
        have hV6 := hV5.out.keeps k6 fun j hj e => by omega
        have hB6 := hB5.out.keeps k6 (Nat.ne_of_gt hgl)
        have hK6 := hK5.out.trans k6
        have hC6 := hC6.mono (Q := fun j => w.heap.size < j) fun j hj _ => Nat.lt_of_lt_of_le hw5 hj
        have hA7 := (Below.refl w6.heap.size w6).alloc (Nat.le_refl _) (.cells #[.int .i64 b.kind, .int .i64 b.num, .string Q6, .slice p6 n6 c6] 28)
        have b7 := Blk.new w6 28 #[.int .i64 b.kind, .int .i64 b.num, .string Q6, .slice p6 n6 c6]
        obtain ⟨w7, e7⟩ : ∃ w7, w6.alloc (.cells #[.int .i64 b.kind, .int .i64 b.num, .string Q6, .slice p6 n6 c6] 28) = w7 := ⟨_, rfl⟩
        rw [e7] at hA7 b7
        have hV7 := hV6.keeps (Keeps.of_below (S := fun _ => False) hA7) fun _ _ => id
        have hB7 := Lib.hid (hB6.below hA7 hB6.lt)
        have hK7 := Lib.hid (hK6.step (Keeps.of_below (S := fun _ => False) hA7) fun _ e => e.elim)
        have hR7 := Lib.hid (hR6.later hA7)
        have hC7 := Lib.hid (hC6.later hA7)
        obtain ⟨Q7, p7, n7, c7, hV71, hV72⟩ := hV7.open_
        have a7 := hV71.cell
        have bc7 := b7.cell
        have hC71 := Lib.hid (hV72.mono (Q := fun j => w.heap.size < j) fun j hj _ => hj.1)
        have T := Lib.hid (rtwo_calls (fun j => w.heap.size < j) 11 a b _ _ w7 hC71.out hC7.out)
        clear hC6 hR6 k6 hV6 hB6 hK6 hA7 b7 hV7 hV71 hV72 D6
        go_wp2_with fail
        refine T.out.mono ?_
        rintro e w8 ⟨cs8, rfl, hC8, hb8⟩
        obtain ⟨Q8, p8, n8, c8, rfl⟩ := hC8.open_
        have hB8 := hB7.out.below hb8 hB7.out.lt
        have hR8 := hR7.out.later hb8
        have hK8 := hK7.out.step (Keeps.of_below (S := fun _ => False) hb8) fun _ e => e.elim
        have hB8' := Lib.hid hB8
        have hR8' := Lib.hid hR8
        have hK8' := Lib.hid hK8
        have hC8' := Lib.hid hC8
        have hwl : w.heap.size < w7.heap.size := hB7.out.lt
        have z8 := hB8.cell
        have zf := hB8.frozen
        unfold condZ at z8
        clear hC8 hb8 hB8 hR8 hK8 T a7 bc7
        go_wp2_with fail
        obtain ⟨W, eW, hBW, hRW, hKW⟩ := rput_cond rfl hB8'.out hR8'.out (Nat.ne_of_lt hgl) (Nat.ne_of_lt hsl) (.int .i64 (pairC 11 a b).kind) (.int .i64 (pairC 11 a b).num) (.string Q8) (.slice p8 n8 c8)
        rw [eW]
        have c5 := hBW.cell
        refine bodyPost_ret (v := .agg #[.int .i64 (pairC 11 a b).kind, .int .i64 (pairC 11 a b).num, .string Q8, .slice p8 n8 c8]) (by simp [results, Tryz.results71, go_sem, c5]) rfl ?_
        rw [hcb.out]
        exact ⟨_, rfl, ((hC8'.out.mono (Q := fun j => w.heap.size < j) fun j hj _ => by rcases hj with h | h <;> omega).keeps hKW fun j hj _ e => by omega).mono fun j hj _ => Nat.le_of_lt hj, hRW, hK8'.out.step hKW (fun j e => .inr (by omega))⟩
      · have ht : isT m [60, 61] = false := by simpa using ht
        have D := Lib.hid (rtake_no ⟨#[60, 61]⟩ hRr.out (by decide) ht)
        have ht' := Lib.hid ht
        clear ht
        go_wp2_with fail
        refine D.out.mono ?_
        rintro e w5 ⟨rfl, hb5⟩
        have hb5' := Lib.hid (hb'.out.trans (hb5.mono hb'.out.size))
        clear D hb5
        go_wp2_with fail
        go_roundw
        case rel =>
          refine ⟨4, rfl, by omega, hb5'.out, fun j x hj hx => ?_⟩
          by_cases hjk : j < 3
          · exact hno'.out j x hjk hx
          · obtain rfl : j = 3 := by omega
            obtain rfl := Option.some.inj hx
            exact ht'.out
        case measure => simp [intOf]
    · by_cases ht : isT m [62] = true
      · exfalso
        have hT1 := hT0'.out
        unfold heldR at hT1
        rw [if_neg (by rw [hno'.out 0 _ (by decide) rfl]; decide), if_neg (by rw [hno'.out 1 _ (by decide) rfl]; decide), if_neg (by rw [hno'.out 2 _ (by decide) rfl]; decide), if_neg (by rw [hno'.out 3 _ (by decide) rfl]; decide), if_pos ht] at hT1
        cases hT1
      · have ht : isT m [62] = false := by simpa using ht
        have D := Lib.hid (rtake_no ⟨#[62]⟩ hRr.out (by decide) ht)
        have ht' := Lib.hid ht
        clear ht
        go_wp2_with fail
        refine D.out.mono ?_
        rintro e w5 ⟨rfl, hb5⟩
        have hb5' := Lib.hid (hb'.out.trans (hb5.mono hb'.out.size))
        clear D hb5
        go_wp2_with fail
        go_roundw
        case rel =>
          refine ⟨5, rfl, by omega, hb5'.out, fun j x hj hx => ?_⟩
          by_cases hjk : j < 4
          · exact hno'.out j x hjk hx
          · obtain rfl : j = 4 := by omega
            obtain rfl := Option.some.inj hx
            exact ht'.out
        case measure => simp [intOf]
    · by_cases ht : isT m [62, 61] = true
      · exfalso
        have hT1 := hT0'.out
        unfold heldR at hT1
        rw [if_neg (by rw [hno'.out 0 _ (by decide) rfl]; decide), if_neg (by rw [hno'.out 1 _ (by decide) rfl]; decide), if_neg (by rw [hno'.out 2 _ (by decide) rfl]; decide), if_neg (by rw [hno'.out 3 _ (by decide) rfl]; decide), if_neg (by rw [hno'.out 4 _ (by decide) rfl]; decide), if_pos ht] at hT1
        cases hT1
      · have ht : isT m [62, 61] = false := by simpa using ht
        have D := Lib.hid (rtake_no ⟨#[62, 61]⟩ hRr.out (by decide) ht)
        have ht' := Lib.hid ht
        clear ht
        go_wp2_with fail
        refine D.out.mono ?_
        rintro e w5 ⟨rfl, hb5⟩
        have hb5' := Lib.hid (hb'.out.trans (hb5.mono hb'.out.size))
        clear D hb5
        go_wp2_with fail
        go_roundw
        case rel =>
          refine ⟨6, rfl, by omega, hb5'.out, fun j x hj hx => ?_⟩
          by_cases hjk : j < 5
          · exact hno'.out j x hjk hx
          · obtain rfl : j = 5 := by omega
            obtain rfl := Option.some.inj hx
            exact ht'.out
        case measure => simp [intOf]
    · have hT1 := hT0'.out
      unfold heldR at hT1
      rw [if_neg (by rw [hno'.out 0 _ (by decide) rfl]; decide), if_neg (by rw [hno'.out 1 _ (by decide) rfl]; decide), if_neg (by rw [hno'.out 2 _ (by decide) rfl]; decide), if_neg (by rw [hno'.out 3 _ (by decide) rfl]; decide), if_neg (by rw [hno'.out 4 _ (by decide) rfl]; decide), if_neg (by rw [hno'.out 5 _ (by decide) rfl]; decide)] at hT1
      have hin : isT m inL = false := by
        cases hi : isT m inL with
        | false => rfl
        | true => rw [hi, if_pos rfl] at hT1; cases hT1
      rw [hin, if_neg (by decide)] at hT1
      injection hT1 with hT1
      injection hT1 with hT2 hT3
      subst hT2 hT3
      have D := Lib.hid (rtake_no ⟨#[105, 110]⟩ hRr.out (by decide) hin)
      clear hin c0 c1 c2 c3 c4 c5
      go_wp2_with fail
      refine D.out.mono ?_
      rintro e w5 ⟨rfl, hb5⟩
      have hR5 := Lib.hid (hRr.out.later hb5)
      have hV5 := hVr.out.keeps (Keeps.of_below (S := fun _ => False) hb5) fun _ _ => id
      have hB5 := hBr.out.below hb5 hBr.out.lt
      have hK5 := Lib.hid (hKr.out.step (Keeps.of_below (S := fun _ => False) hb5) fun _ e => e.elim)
      obtain ⟨Q7, p7, n7, c7, hV71, hV72⟩ := hV5.open_
      have a7 := hV71.cell
      have z8 := hB5.cell
      have zf := hB5.frozen
      have hB5' := Lib.hid hB5
      have hV72' := Lib.hid hV72
      unfold condZ at z8
      clear hb5 hV5 hB5 hV71 hV72 D
      go_wp2_with fail
      obtain ⟨W, eW, hBW, hRW, hKW⟩ := rput_cond rfl hB5'.out hR5.out (Nat.ne_of_lt hgl) (Nat.ne_of_lt hsl) (.int .i64 a.kind) (.int .i64 a.num) (.string Q7) (.slice p7 n7 c7)
      rw [eW]
      have c5 := hBW.cell
      refine bodyPost_ret (v := .agg #[.int .i64 a.kind, .int .i64 a.num, .string Q7, .slice p7 n7 c7]) (by simp [results, Tryz.results71, go_sem, c5]) rfl ?_
      exact ⟨_, rfl, (hV72'.out.keeps hKW fun j hj _ e => by omega).mono fun j hj _ => Nat.le_of_lt hj.1, hRW, hK5.out.step hKW (fun j e => .inr (by omega))⟩
end Go.Proofs.YtdfgbkilaepolaaGreatDoor
