/- Walks: conditions: comparisons. -/
import Derived.Test.YtdfgbkilaepolaaGreatDoorPO08
import Derived.Test.YtdfgbkilaepolaaGreatDoorPO09
namespace Go.Proofs.YtdfgbkilaepolaaGreatDoor
open Go.RowKit
/-- the list behind "in" -/
def listM (U : Toks → Res) (a : CT) (n : Nat) (m : Toks) : Except Nat (List CT × Toks) := if isT m [91] then inLp U n [a] m.tail else .error (posT m)
/-- what comes behind the first sum -/
def heldM (U : Toks → Res) (a : CT) (m : Toks) : Res :=
    if isT m [61] then heldB U m.tail fun b => pairC 9 a b
    else if isT m [33, 61] then heldB U m.tail fun b => notC (pairC 9 a b)
    else if isT m [60] then heldB U m.tail fun b => pairC 10 a b
    else if isT m [60, 61] then heldB U m.tail fun b => pairC 11 a b
    else if isT m [62] then heldB U m.tail fun b => pairC 10 b a
    else if isT m [62, 61] then heldB U m.tail fun b => pairC 11 b a
    else if isT m inL then
      if isT m.tail [91] then match inLp U (m.length + 1) [a] m.tail.tail with
        | .error e => .error e
        | .ok (ps, q) => if isT q [93] then .ok (.node 15 0 [] ps, q.tail) else .error (posT q)
      else .error (posT m.tail)
    else .ok (a, m)
theorem gHeld_ok {U : Toks → Res} {l m : Toks} {a : CT} (h : U l = .ok (a, m)) : gHeld U l = heldM U a m := by unfold gHeld; rw [h]; rfl
theorem gHeld_err {U : Toks → Res} {l : Toks} {e : Nat} (h : U l = .error e) : gHeld U l = .error e := by unfold gHeld; rw [h]
theorem heldB_ok {U : Toks → Res} {m q : Toks} {b : CT} {f : CT → CT} (h : U m = .ok (b, q)) : heldB U m f = .ok (f b, q) := by unfold heldB; rw [h]
theorem heldB_err {U : Toks → Res} {m : Toks} {e : Nat} {f : CT → CT} (h : U m = .error e) : heldB U m f = .error e := by unfold heldB; rw [h]
theorem heldM_0 {U : Toks → Res} {m : Toks} {a : CT}  (h0 : isT m [61] = true) : heldM U a m = heldB U m.tail fun b => pairC 9 a b := by unfold heldM; rw [if_pos h0]
theorem heldM_1 {U : Toks → Res} {m : Toks} {a : CT} (h0 : isT m [61] = false) (h1 : isT m [33, 61] = true) : heldM U a m = heldB U m.tail fun b => notC (pairC 9 a b) := by unfold heldM; rw [if_neg (by rw [h0]; decide), if_pos h1]
theorem heldM_2 {U : Toks → Res} {m : Toks} {a : CT} (h0 : isT m [61] = false) (h1 : isT m [33, 61] = false) (h2 : isT m [60] = true) : heldM U a m = heldB U m.tail fun b => pairC 10 a b := by unfold heldM; rw [if_neg (by rw [h0]; decide), if_neg (by rw [h1]; decide), if_pos h2]
theorem heldM_3 {U : Toks → Res} {m : Toks} {a : CT} (h0 : isT m [61] = false) (h1 : isT m [33, 61] = false) (h2 : isT m [60] = false) (h3 : isT m [60, 61] = true) : heldM U a m = heldB U m.tail fun b => pairC 11 a b := by unfold heldM; rw [if_neg (by rw [h0]; decide), if_neg (by rw [h1]; decide), if_neg (by rw [h2]; decide), if_pos h3]
theorem heldM_4 {U : Toks → Res} {m : Toks} {a : CT} (h0 : isT m [61] = false) (h1 : isT m [33, 61] = false) (h2 : isT m [60] = false) (h3 : isT m [60, 61] = false) (h4 : isT m [62] = true) : heldM U a m = heldB U m.tail fun b => pairC 10 b a := by unfold heldM; rw [if_neg (by rw [h0]; decide), if_neg (by rw [h1]; decide), if_neg (by rw [h2]; decide), if_neg (by rw [h3]; decide), if_pos h4]
theorem heldM_5 {U : Toks → Res} {m : Toks} {a : CT} (h0 : isT m [61] = false) (h1 : isT m [33, 61] = false) (h2 : isT m [60] = false) (h3 : isT m [60, 61] = false) (h4 : isT m [62] = false) (h5 : isT m [62, 61] = true) : heldM U a m = heldB U m.tail fun b => pairC 11 b a := by unfold heldM; rw [if_neg (by rw [h0]; decide), if_neg (by rw [h1]; decide), if_neg (by rw [h2]; decide), if_neg (by rw [h3]; decide), if_neg (by rw [h4]; decide), if_pos h5]
theorem heldM_a {U : Toks → Res} {m : Toks} {a : CT} (h0 : isT m [61] = false) (h1 : isT m [33, 61] = false) (h2 : isT m [60] = false) (h3 : isT m [60, 61] = false) (h4 : isT m [62] = false) (h5 : isT m [62, 61] = false) (h6 : isT m inL = false) : heldM U a m = .ok (a, m) := by unfold heldM; rw [if_neg (by rw [h0]; decide), if_neg (by rw [h1]; decide), if_neg (by rw [h2]; decide), if_neg (by rw [h3]; decide), if_neg (by rw [h4]; decide), if_neg (by rw [h5]; decide), if_neg (by rw [h6]; decide)]
theorem heldM_in {U : Toks → Res} {m : Toks} {a : CT} (h0 : isT m [61] = false) (h1 : isT m [33, 61] = false) (h2 : isT m [60] = false) (h3 : isT m [60, 61] = false) (h4 : isT m [62] = false) (h5 : isT m [62, 61] = false) (h6 : isT m inL = true) : heldM U a m = match listM U a (m.length + 1) m.tail with
    | .error e => .error e
    | .ok (ps, q) => if isT q [93] then .ok (.node 15 0 [] ps, q.tail) else .error (posT q) := by
  unfold heldM listM
  rw [if_neg (by rw [h0]; decide), if_neg (by rw [h1]; decide), if_neg (by rw [h2]; decide), if_neg (by rw [h3]; decide), if_neg (by rw [h4]; decide), if_neg (by rw [h5]; decide), if_pos h6]
  by_cases h7 : isT m.tail [91] = true
  · rw [if_pos h7, if_pos h7]
  · rw [if_neg h7, if_neg h7]
/-- what stands at the head of a round of a list -/
def InI (U : Toks → Res) (HE : Except Nat (List CT × Toks)) (w : World) (g O : Nat) (s : ByteArray) (l : Toks) (deep : Int) (k : Nat) (more : Value) (wr : World) : Prop :=
  ∃ acc cs p c m d b mo, more = .bool mo ∧ Blk wr O 28 #[.int .i64 15, .int .i64 0, .string ⟨#[]⟩, .slice p acc.length c] ∧ Own O (w.heap.size + 1) wr (.slice p acc.length c) acc cs ∧ Rd wr g s m d b ∧ Keeps (fun j => j = g) w wr ∧ Blk wr w.heap.size 28 condZ ∧ m.length + mo.toNat ≤ k ∧ m.length ≤ l.length ∧ acc.length + m.length + mo.toNat ≤ l.length + 1 ∧
    ((b = false ∧ d = deep ∧ ((mo = true ∧ ∃ n, m.length < n ∧ inLp U n acc m = HE) ∨ (mo = false ∧ HE = .ok (acc, m)))) ∨ (b = true ∧ HE = .error (posT m)))
/-- a sum, whether the reader is bad or not -/
def SumAny (U : Toks → Res) (w : World) (g : Nat) (s : ByteArray) (m : Toks) (deep : Int) (b : Bool) (e : Ending) (w' : World) : Prop :=
  ∃ cs c m2 d2 b2, e = .returned (.agg cs.toArray) ∧ CAt (fun j => w.heap.size ≤ j) w' cs c ∧ Rd w' g s m2 d2 b2 ∧ Keeps (fun j => j = g) w w' ∧ m2.length ≤ m.length ∧
    ((b = false ∧ ((b2 = false ∧ d2 = deep ∧ U m = .ok (c, m2)) ∨ (b2 = true ∧ U m = .error (posT m2)))) ∨ (b = true ∧ b2 = true ∧ m2 = m))
theorem sum_any {U : Toks → Res} {g : Nat} {s : ByteArray} {deep : Int} (hU : ∀ m w, Rd w g s m deep false → Calls Tryz.prog 161 #[.pointer (some ⟨g, 0, none⟩)] w (Told U w g s m deep)) {w : World} {m : Toks} {d : Int} {b : Bool} (h : Rd w g s m d b) (hd : b = false → d = deep) :
    Calls Tryz.prog 161 #[.pointer (some ⟨g, 0, none⟩)] w (SumAny U w g s m deep b) := by
  cases b with
  | false =>
    obtain rfl := hd rfl
    refine (hU m w h).mono ?_
    rintro e w' ⟨cs, c, m2, d2, b2, h1, h2, h3, h4, h5, _, h7⟩
    exact ⟨cs, c, m2, d2, b2, h1, h2, h3, h4, h5, .inl ⟨rfl, h7⟩⟩
  | true =>
    refine (sum_idle h).mono ?_
    rintro e w' ⟨cs, h1, h2, h3, h4⟩
    exact ⟨cs, _, m, d, true, h1, h2, h3, h4, Nat.le_refl _, .inr ⟨rfl, rfl, rfl⟩⟩
theorem inLp_err {U : Toks → Res} {n : Nat} {acc : List CT} {m : Toks} {e : Nat} (h : U m = .error e) : inLp U (n + 1) acc m = .error e := by unfold inLp; rw [h]
theorem inLp_more {U : Toks → Res} {n : Nat} {acc : List CT} {m q : Toks} {b : CT} (h : U m = .ok (b, q)) (hc : isT q [44] = true) : inLp U (n + 1) acc m = inLp U n (acc ++ [b]) q.tail := by
  conv => lhs; unfold inLp
  rw [h]
  show (if isT q [44] then _ else _) = _
  rw [if_pos hc]
theorem inLp_last {U : Toks → Res} {n : Nat} {acc : List CT} {m q : Toks} {b : CT} (h : U m = .ok (b, q)) (hc : isT q [44] = false) : inLp U (n + 1) acc m = .ok (acc ++ [b], q) := by
  conv => lhs; unfold inLp
  rw [h]
  show (if isT q [44] then _ else _) = _
  rw [if_neg (by rw [hc]; decide)]
attribute [local go_sem ↓] dapp_op
set_option maxHeartbeats 8000000 in
set_option maxRecDepth 100000 in
theorem held_calls {w : World} {g : Nat} {s : ByteArray} {l : Toks} {deep : Int} (U : Toks → Res) (h : Rd w g s l deep false)
    (hU : ∀ m w, Rd w g s m deep false → Calls Tryz.prog 161 #[.pointer (some ⟨g, 0, none⟩)] w (Told U w g s m deep)) :
    Calls Tryz.prog 153 #[.pointer (some ⟨g, 0, none⟩)] w (Told (gHeld U) w g s l deep) := by
  have hgl := h.lt
  have h5 := h.b5
  have hB := Lib.hid (Blk.new w 28 condZ)
  have hz0' := Lib.hid (alloc_size w (.cells condZ 28))
  have h1 := Lib.hid (h.alloc (.cells condZ 28))
  have k1 := Lib.hid ((Keeps.refl (fun j => j = g) w).alloc (.cells condZ 28))
  have hlen := h.len
  have hU' := Lib.hid hU
  clear hU h
  go_enter Tryz.func153, Tryz.ntmps153
  go_wp2_with fail
  refine (hU'.out l _ h1.out).mono ?_
  rintro e w2 ⟨cs, a, m, d, b, rfl, hC, hR2, k2, hml, hmp, hcase⟩
  have hB2 := Lib.hid (hB.out.keeps k2 (Nat.ne_of_gt hgl))
  have hK2 := Lib.hid (k1.out.trans k2)
  have hC2 := Lib.hid (hC.mono (Q := fun j => w.heap.size < j) fun j hj _ => by rw [hz0'.out] at hj; exact hj)
  have hR2' := Lib.hid hR2
  have hcase' := Lib.hid hcase
  clear hC k2 hR2 hcase
  obtain ⟨Q, pp, nn, cc, rfl⟩ := hC2.out.open_
  have hA := hB2.out.lt
  have hV := Lib.hid (Var.new hC2.out hA)
  have hR3 := Lib.hid (hR2'.out.alloc (.cells #[.int .i64 a.kind, .int .i64 a.num, .string Q, .slice pp nn cc] 28))
  have hB3 := Lib.hid (hB2.out.alloc (.cells #[.int .i64 a.kind, .int .i64 a.num, .string Q, .slice pp nn cc] 28))
  have hK3 := Lib.hid (hK2.out.alloc (.cells #[.int .i64 a.kind, .int .i64 a.num, .string Q, .slice pp nn cc] 28))
  obtain ⟨w3, e3⟩ : ∃ w3, w2.alloc (.cells #[.int .i64 a.kind, .int .i64 a.num, .string Q, .slice pp nn cc] 28) = w3 := ⟨_, rfl⟩
  obtain ⟨A, eA⟩ : ∃ A, w2.heap.size = A := ⟨_, rfl⟩
  have hA2 : w.heap.size < A := by omega
  have hV : Hid (Var w A w3 a) := by
    rw [← e3, ← eA]; exact hV
  rw [e3] at hR3 hB3 hK3
  clear hB2 hK2 hC2 hR2' hB h1 k1 hA
  go_wp2_with fail
  clear e3 eA
  obtain ⟨Q, pp, nn, cc, hV1, hV2⟩ := hV.out.open_
  have hV2' := Lib.hid hV2
  have hV1' := Lib.hid hV1
  have a0 := Blk.cell hV1
  have af := Blk.frozen hV1
  have b0 := Blk.cell hB3.out
  have bf := Blk.frozen hB3.out
  unfold condZ at b0
  clear hV1 hV2 hV
  cases b with
  | true =>
    have hG0 : Hid (gHeld U l = .error (posT m)) := by
      rcases hcase'.out with ⟨e, _⟩ | ⟨_, e⟩
      · cases e
      · exact Lib.hid (gHeld_err e)
    have D := Lib.hid (take_no ⟨#[61]⟩ hR3.out (.inl rfl))
    go_wp2_with fail
    refine D.out.mono ?_
    rintro e w' ⟨rfl, rfl⟩
    clear D
    have D := Lib.hid (take_no ⟨#[33, 61]⟩ hR3.out (.inl rfl))
    go_wp2_with fail
    refine D.out.mono ?_
    rintro e w' ⟨rfl, rfl⟩
    clear D
    have D := Lib.hid (take_no ⟨#[60]⟩ hR3.out (.inl rfl))
    go_wp2_with fail
    refine D.out.mono ?_
    rintro e w' ⟨rfl, rfl⟩
    clear D
    have D := Lib.hid (take_no ⟨#[60, 61]⟩ hR3.out (.inl rfl))
    go_wp2_with fail
    refine D.out.mono ?_
    rintro e w' ⟨rfl, rfl⟩
    clear D
    have D := Lib.hid (take_no ⟨#[62]⟩ hR3.out (.inl rfl))
    go_wp2_with fail
    refine D.out.mono ?_
    rintro e w' ⟨rfl, rfl⟩
    clear D
    have D := Lib.hid (take_no ⟨#[62, 61]⟩ hR3.out (.inl rfl))
    go_wp2_with fail
    refine D.out.mono ?_
    rintro e w' ⟨rfl, rfl⟩
    clear D
    have D := Lib.hid (take_no ⟨#[105, 110]⟩ hR3.out (.inl rfl))
    go_wp2_with fail
    refine D.out.mono ?_
    rintro e w' ⟨rfl, rfl⟩
    clear D
    go_wp2_with fail
    obtain ⟨W, eW, hBW, hRW, hKW⟩ := put_cond rfl hB3.out hR3.out (Nat.ne_of_lt hgl) (Nat.ne_of_lt h5) (.int .i64 a.kind) (.int .i64 a.num) (.string Q) (.slice pp nn cc)
    rw [eW]
    have c5 := hBW.cell
    refine bodyPost_ret (v := .agg #[.int .i64 a.kind, .int .i64 a.num, .string Q, .slice pp nn cc]) (by simp [results, Tryz.results153, go_sem, c5]) rfl ?_
    exact ⟨_, a, m, _, _, rfl, (hV2'.out.keeps hKW fun j hj _ e => by omega).mono fun j hj _ => Nat.le_of_lt hj.1, hRW, hK3.out.step hKW (fun j e => .inr (by omega)), hml, hmp, .inr ⟨rfl, hG0.out⟩⟩
  | false =>
    obtain ⟨hd, hG0⟩ : d = deep ∧ Hid (gHeld U l = heldM U a m) := by
      rcases hcase'.out with ⟨_, e, h⟩ | ⟨e, _⟩
      · exact ⟨e, Lib.hid (gHeld_ok h)⟩
      · cases e
    have hd' := hd.symm
    clear hd hcase'
    subst hd'
    by_cases hx : isT m [61] = true
    · skip
      have D := Lib.hid (take_yes ⟨#[61]⟩ hR3.out hx)
      have ht' := Lib.hid hx
      clear hx
      go_wp2_with fail
      refine D.out.mono ?_
      rintro e w5 ⟨rfl, hR5, k5⟩
      have hV6 := Lib.hid ((hV2'.out.keeps k5 fun j hj _ e => by omega).keeps (S := fun _ => False) ((Keeps.refl _ w5).drew) fun _ _ _ => id)
      have hA5 := hV1'.out.keeps k5 (by omega)
      have hA6 := Lib.hid hA5.drew
      have hB5 := hB3.out.keeps k5 (Nat.ne_of_gt hgl)
      have hB6 := Lib.hid hB5.drew
      have hK6 := Lib.hid (hK3.out.trans k5).drew
      have hR6 : Hid (Rd w5.drew g s m.tail deep false) := Lib.hid (Rd.same hR5 ((Keeps.refl _ w5).drew))
      clear a0 af b0 bf D hR5 k5
      have a5 := Blk.cell hA5
      have af5 := Blk.frozen hA5
      clear hA5 hB5
      go_wp2_with fail
      go_region_with (first | ((go_at_call 161); (with_reducible refine (hU'.out m.tail _ hR6.out).mono ?_); (rintro e w7 ⟨cs, c7, m', d', b', rfl, hC, hR7, k7, hm1, hm2, hcase⟩); (obtain ⟨Q2, p2, n2, c2, rfl⟩ := hC.open_); (have hA7 := hA6.out.keeps k7 (by omega)); (have hV7 := Lib.hid ((hV6.out.keeps k7 fun j hj _ e => by omega).mono (Q := fun j => w.heap.size < j) fun j hj _ => hj.1)); (have hB7 := Lib.hid (hB6.out.keeps k7 (Nat.ne_of_gt hgl))); (have hK7 := Lib.hid (hK6.out.trans k7)); (have hC7 := Lib.hid (hC.mono (Q := fun j => w.heap.size < j) fun j hj _ => by have := hB6.out.lt; omega)); (have hR7' := Lib.hid hR7); (have hcase2 := Lib.hid hcase); (have a7 := Blk.cell hA7); (have af7 := Blk.frozen hA7); (clear hC hR7 k7 hcase)) | ((go_at_call 162); (with_reducible refine (pair_calls (fun j => w.heap.size < j) 9 a c7 _ _ w7 hV7.out hC7.out).mono ?_); (rintro e w8 ⟨cs8, rfl, hC8, hb8⟩); (obtain ⟨Q8, p8, n8, c8, rfl⟩ := hC8.open_); (have hB8 := hB7.out.below hb8 hB7.out.lt); (have b8 := Blk.cell hB8); (unfold condZ at b8); (have bf8 := Blk.frozen hB8)))
      all_goals
        have hB7l := hB7.out.lt
        have k8 := Keeps.of_below (S := fun _ => False) hb8
        have hm3 := isT_len ht'.out
        unfold condZ at hB8
        obtain ⟨W, eW, hBW, hRW, hKW⟩ := put_cond rfl hB8 (hR7'.out.same k8) (Nat.ne_of_lt hgl) (Nat.ne_of_lt h5) (.int .i64 (pairC 9 a c7).kind) (.int .i64 (pairC 9 a c7).num) (.string Q8) (.slice p8 n8 c8)
        rw [eW]
        have c5 := hBW.cell
        go_wp2_with fail
        refine bodyPost_ret (v := .agg #[.int .i64 (pairC 9 a c7).kind, .int .i64 (pairC 9 a c7).num, .string Q8, .slice p8 n8 c8]) (by simp [results, Tryz.results153, go_sem, c5]) rfl ?_
        refine ⟨_, pairC 9 a c7, m', d', b', rfl, (((hC8.mono (Q := fun j => w.heap.size < j) fun j hj _ => by rcases hj with h | h <;> omega).keeps hKW fun j hj _ e => by omega).mono fun j hj _ => Nat.le_of_lt hj), hRW, (hK7.out.step k8 fun _ e => e.elim).step hKW (fun j e => .inr (by omega)), by omega, ?_, ?_⟩
        · show 2 + m'.length ≤ _
          omega
        · rw [hG0.out, heldM_0  ht'.out]
          rcases hcase2.out with ⟨q1, q2, q3⟩ | ⟨q1, q2⟩
          · exact .inl ⟨q1, q2, heldB_ok q3⟩
          · exact .inr ⟨q1, heldB_err q2⟩
    have hx0 := Lib.hid (Bool.eq_false_iff.2 hx)
    clear hx
    have D := Lib.hid (take_no ⟨#[61]⟩ hR3.out (.inr hx0.out))
    go_wp2_with fail
    refine D.out.mono ?_
    rintro e w' ⟨rfl, rfl⟩
    clear D
    by_cases hx : isT m [33, 61] = true
    · skip
      have D := Lib.hid (take_yes ⟨#[33, 61]⟩ hR3.out hx)
      have ht' := Lib.hid hx
      clear hx
      go_wp2_with fail
      refine D.out.mono ?_
      rintro e w5 ⟨rfl, hR5, k5⟩
      have hV6 := Lib.hid ((hV2'.out.keeps k5 fun j hj _ e => by omega).keeps (S := fun _ => False) ((Keeps.refl _ w5).drew) fun _ _ _ => id)
      have hA5 := hV1'.out.keeps k5 (by omega)
      have hA6 := Lib.hid hA5.drew
      have hB5 := hB3.out.keeps k5 (Nat.ne_of_gt hgl)
      have hB6 := Lib.hid hB5.drew
      have hK6 := Lib.hid (hK3.out.trans k5).drew
      have hR6 : Hid (Rd w5.drew g s m.tail deep false) := Lib.hid (Rd.same hR5 ((Keeps.refl _ w5).drew))
      clear a0 af b0 bf D hR5 k5
      have a5 := Blk.cell hA5
      have af5 := Blk.frozen hA5
      clear hA5 hB5
      go_wp2_with fail
      go_region_with (first | ((go_at_call 161); (with_reducible refine (hU'.out m.tail _ hR6.out).mono ?_); (rintro e w7 ⟨cs, c7, m', d', b', rfl, hC, hR7, k7, hm1, hm2, hcase⟩); (obtain ⟨Q2, p2, n2, c2, rfl⟩ := hC.open_); (have hA7 := hA6.out.keeps k7 (by omega)); (have hV7 := Lib.hid ((hV6.out.keeps k7 fun j hj _ e => by omega).mono (Q := fun j => w.heap.size < j) fun j hj _ => hj.1)); (have hB7 := Lib.hid (hB6.out.keeps k7 (Nat.ne_of_gt hgl))); (have hK7 := Lib.hid (hK6.out.trans k7)); (have hC7 := Lib.hid (hC.mono (Q := fun j => w.heap.size < j) fun j hj _ => by have := hB6.out.lt; omega)); (have hR7' := Lib.hid hR7); (have hcase2 := Lib.hid hcase); (have a7 := Blk.cell hA7); (have af7 := Blk.frozen hA7); (clear hC hR7 k7 hcase)) | ((go_at_call 162); (with_reducible refine (pair_calls (fun j => w.heap.size < j) 9 a c7 _ _ w7 hV7.out hC7.out).mono ?_); (rintro e w8 ⟨cs8, rfl, hC8, hb8⟩); (obtain ⟨Q8, p8, n8, c8, rfl⟩ := hC8.open_); (have hz8 := hb8.size)) | ((go_at_call 152); (with_reducible refine (not_calls (fun j => w.heap.size < j ∨ w7.heap.size ≤ j) (pairC 9 a c7) _ w8 hC8).mono ?_); (rintro e w9 ⟨cs9, rfl, hC9, hb9⟩); (obtain ⟨Q9, p9, n9, c9, rfl⟩ := hC9.open_); (have hB9 := (hB7.out.below hb8 hB7.out.lt).below hb9 (Nat.lt_of_lt_of_le hB7.out.lt hz8)); (have b9 := Blk.cell hB9); (unfold condZ at b9); (have bf9 := Blk.frozen hB9)))
      all_goals
        have hB7l := hB7.out.lt
        have k8 := (Keeps.of_below (S := fun _ => False) hb8).trans (Keeps.of_below hb9)
        have hm3 := isT_len ht'.out
        unfold condZ at hB9
        obtain ⟨W, eW, hBW, hRW, hKW⟩ := put_cond rfl hB9 (hR7'.out.same k8) (Nat.ne_of_lt hgl) (Nat.ne_of_lt h5) (.int .i64 (notC (pairC 9 a c7)).kind) (.int .i64 (notC (pairC 9 a c7)).num) (.string Q9) (.slice p9 n9 c9)
        rw [eW]
        have c5 := hBW.cell
        go_wp2_with fail
        refine bodyPost_ret (v := .agg #[.int .i64 (notC (pairC 9 a c7)).kind, .int .i64 (notC (pairC 9 a c7)).num, .string Q9, .slice p9 n9 c9]) (by simp [results, Tryz.results153, go_sem, c5]) rfl ?_
        refine ⟨_, notC (pairC 9 a c7), m', d', b', rfl, (((hC9.mono (Q := fun j => w.heap.size < j) fun j hj _ => by have := hb8.size; rcases hj with (h | h) | h <;> omega).keeps hKW fun j hj _ e => by omega).mono fun j hj _ => Nat.le_of_lt hj), hRW, (hK7.out.step k8 fun _ e => e.elim).step hKW (fun j e => .inr (by omega)), by omega, ?_, ?_⟩
        · show 1 + m'.length ≤ _
          omega
        · rw [hG0.out, heldM_1 hx0.out ht'.out]
          rcases hcase2.out with ⟨q1, q2, q3⟩ | ⟨q1, q2⟩
          · exact .inl ⟨q1, q2, heldB_ok q3⟩
          · exact .inr ⟨q1, heldB_err q2⟩
    have hx1 := Lib.hid (Bool.eq_false_iff.2 hx)
    clear hx
    have D := Lib.hid (take_no ⟨#[33, 61]⟩ hR3.out (.inr hx1.out))
    go_wp2_with fail
    refine D.out.mono ?_
    rintro e w' ⟨rfl, rfl⟩
    clear D
    by_cases hx : isT m [60] = true
    · skip
      have D := Lib.hid (take_yes ⟨#[60]⟩ hR3.out hx)
      have ht' := Lib.hid hx
      clear hx
      go_wp2_with fail
      refine D.out.mono ?_
      rintro e w5 ⟨rfl, hR5, k5⟩
      have hV6 := Lib.hid ((hV2'.out.keeps k5 fun j hj _ e => by omega).keeps (S := fun _ => False) ((Keeps.refl _ w5).drew) fun _ _ _ => id)
      have hA5 := hV1'.out.keeps k5 (by omega)
      have hA6 := Lib.hid hA5.drew
      have hB5 := hB3.out.keeps k5 (Nat.ne_of_gt hgl)
      have hB6 := Lib.hid hB5.drew
      have hK6 := Lib.hid (hK3.out.trans k5).drew
      have hR6 : Hid (Rd w5.drew g s m.tail deep false) := Lib.hid (Rd.same hR5 ((Keeps.refl _ w5).drew))
      clear a0 af b0 bf D hR5 k5
      have a5 := Blk.cell hA5
      have af5 := Blk.frozen hA5
      clear hA5 hB5
      go_wp2_with fail
      go_region_with (first | ((go_at_call 161); (with_reducible refine (hU'.out m.tail _ hR6.out).mono ?_); (rintro e w7 ⟨cs, c7, m', d', b', rfl, hC, hR7, k7, hm1, hm2, hcase⟩); (obtain ⟨Q2, p2, n2, c2, rfl⟩ := hC.open_); (have hA7 := hA6.out.keeps k7 (by omega)); (have hV7 := Lib.hid ((hV6.out.keeps k7 fun j hj _ e => by omega).mono (Q := fun j => w.heap.size < j) fun j hj _ => hj.1)); (have hB7 := Lib.hid (hB6.out.keeps k7 (Nat.ne_of_gt hgl))); (have hK7 := Lib.hid (hK6.out.trans k7)); (have hC7 := Lib.hid (hC.mono (Q := fun j => w.heap.size < j) fun j hj _ => by have := hB6.out.lt; omega)); (have hR7' := Lib.hid hR7); (have hcase2 := Lib.hid hcase); (have a7 := Blk.cell hA7); (have af7 := Blk.frozen hA7); (clear hC hR7 k7 hcase)) | ((go_at_call 162); (with_reducible refine (pair_calls (fun j => w.heap.size < j) 10 a c7 _ _ w7 hV7.out hC7.out).mono ?_); (rintro e w8 ⟨cs8, rfl, hC8, hb8⟩); (obtain ⟨Q8, p8, n8, c8, rfl⟩ := hC8.open_); (have hB8 := hB7.out.below hb8 hB7.out.lt); (have b8 := Blk.cell hB8); (unfold condZ at b8); (have bf8 := Blk.frozen hB8)))
      all_goals
        have hB7l := hB7.out.lt
        have k8 := Keeps.of_below (S := fun _ => False) hb8
        have hm3 := isT_len ht'.out
        unfold condZ at hB8
        obtain ⟨W, eW, hBW, hRW, hKW⟩ := put_cond rfl hB8 (hR7'.out.same k8) (Nat.ne_of_lt hgl) (Nat.ne_of_lt h5) (.int .i64 (pairC 10 a c7).kind) (.int .i64 (pairC 10 a c7).num) (.string Q8) (.slice p8 n8 c8)
        rw [eW]
        have c5 := hBW.cell
        go_wp2_with fail
        refine bodyPost_ret (v := .agg #[.int .i64 (pairC 10 a c7).kind, .int .i64 (pairC 10 a c7).num, .string Q8, .slice p8 n8 c8]) (by simp [results, Tryz.results153, go_sem, c5]) rfl ?_
        refine ⟨_, pairC 10 a c7, m', d', b', rfl, (((hC8.mono (Q := fun j => w.heap.size < j) fun j hj _ => by rcases hj with h | h <;> omega).keeps hKW fun j hj _ e => by omega).mono fun j hj _ => Nat.le_of_lt hj), hRW, (hK7.out.step k8 fun _ e => e.elim).step hKW (fun j e => .inr (by omega)), by omega, ?_, ?_⟩
        · show 2 + m'.length ≤ _
          omega
        · rw [hG0.out, heldM_2 hx0.out hx1.out ht'.out]
          rcases hcase2.out with ⟨q1, q2, q3⟩ | ⟨q1, q2⟩
          · exact .inl ⟨q1, q2, heldB_ok q3⟩
          · exact .inr ⟨q1, heldB_err q2⟩
    have hx2 := Lib.hid (Bool.eq_false_iff.2 hx)
    clear hx
    have D := Lib.hid (take_no ⟨#[60]⟩ hR3.out (.inr hx2.out))
    go_wp2_with fail
    refine D.out.mono ?_
    rintro e w' ⟨rfl, rfl⟩
    clear D
    by_cases hx : isT m [60, 61] = true
    · skip
      have D := Lib.hid (take_yes ⟨#[60, 61]⟩ hR3.out hx)
      have ht' := Lib.hid hx
      clear hx
      go_wp2_with fail
      refine D.out.mono ?_
      rintro e w5 ⟨rfl, hR5, k5⟩
      have hV6 := Lib.hid ((hV2'.out.keeps k5 fun j hj _ e => by omega).keeps (S := fun _ => False) ((Keeps.refl _ w5).drew) fun _ _ _ => id)
      have hA5 := hV1'.out.keeps k5 (by omega)
      have hA6 := Lib.hid hA5.drew
      have hB5 := hB3.out.keeps k5 (Nat.ne_of_gt hgl)
      have hB6 := Lib.hid hB5.drew
      have hK6 := Lib.hid (hK3.out.trans k5).drew
      have hR6 : Hid (Rd w5.drew g s m.tail deep false) := Lib.hid (Rd.same hR5 ((Keeps.refl _ w5).drew))
      clear a0 af b0 bf D hR5 k5
      have a5 := Blk.cell hA5
      have af5 := Blk.frozen hA5
      clear hA5 hB5
      go_wp2_with fail
      go_region_with (first | ((go_at_call 161); (with_reducible refine (hU'.out m.tail _ hR6.out).mono ?_); (rintro e w7 ⟨cs, c7, m', d', b', rfl, hC, hR7, k7, hm1, hm2, hcase⟩); (obtain ⟨Q2, p2, n2, c2, rfl⟩ := hC.open_); (have hA7 := hA6.out.keeps k7 (by omega)); (have hV7 := Lib.hid ((hV6.out.keeps k7 fun j hj _ e => by omega).mono (Q := fun j => w.heap.size < j) fun j hj _ => hj.1)); (have hB7 := Lib.hid (hB6.out.keeps k7 (Nat.ne_of_gt hgl))); (have hK7 := Lib.hid (hK6.out.trans k7)); (have hC7 := Lib.hid (hC.mono (Q := fun j => w.heap.size < j) fun j hj _ => by have := hB6.out.lt; omega)); (have hR7' := Lib.hid hR7); (have hcase2 := Lib.hid hcase); (have a7 := Blk.cell hA7); (have af7 := Blk.frozen hA7); (clear hC hR7 k7 hcase)) | ((go_at_call 162); (with_reducible refine (pair_calls (fun j => w.heap.size < j) 11 a c7 _ _ w7 hV7.out hC7.out).mono ?_); (rintro e w8 ⟨cs8, rfl, hC8, hb8⟩); (obtain ⟨Q8, p8, n8, c8, rfl⟩ := hC8.open_); (have hB8 := hB7.out.below hb8 hB7.out.lt); (have b8 := Blk.cell hB8); (unfold condZ at b8); (have bf8 := Blk.frozen hB8)))
      all_goals
        have hB7l := hB7.out.lt
        have k8 := Keeps.of_below (S := fun _ => False) hb8
        have hm3 := isT_len ht'.out
        unfold condZ at hB8
        obtain ⟨W, eW, hBW, hRW, hKW⟩ := put_cond rfl hB8 (hR7'.out.same k8) (Nat.ne_of_lt hgl) (Nat.ne_of_lt h5) (.int .i64 (pairC 11 a c7).kind) (.int .i64 (pairC 11 a c7).num) (.string Q8) (.slice p8 n8 c8)
        rw [eW]
        have c5 := hBW.cell
        go_wp2_with fail
        refine bodyPost_ret (v := .agg #[.int .i64 (pairC 11 a c7).kind, .int .i64 (pairC 11 a c7).num, .string Q8, .slice p8 n8 c8]) (by simp [results, Tryz.results153, go_sem, c5]) rfl ?_
        refine ⟨_, pairC 11 a c7, m', d', b', rfl, (((hC8.mono (Q := fun j => w.heap.size < j) fun j hj _ => by rcases hj with h | h <;> omega).keeps hKW fun j hj _ e => by omega).mono fun j hj _ => Nat.le_of_lt hj), hRW, (hK7.out.step k8 fun _ e => e.elim).step hKW (fun j e => .inr (by omega)), by omega, ?_, ?_⟩
        · show 2 + m'.length ≤ _
          omega
        · rw [hG0.out, heldM_3 hx0.out hx1.out hx2.out ht'.out]
          rcases hcase2.out with ⟨q1, q2, q3⟩ | ⟨q1, q2⟩
          · exact .inl ⟨q1, q2, heldB_ok q3⟩
          · exact .inr ⟨q1, heldB_err q2⟩
    have hx3 := Lib.hid (Bool.eq_false_iff.2 hx)
    clear hx
    have D := Lib.hid (take_no ⟨#[60, 61]⟩ hR3.out (.inr hx3.out))
    go_wp2_with fail
    refine D.out.mono ?_
    rintro e w' ⟨rfl, rfl⟩
    clear D
    by_cases hx : isT m [62] = true
    · skip
      have D := Lib.hid (take_yes ⟨#[62]⟩ hR3.out hx)
      have ht' := Lib.hid hx
      clear hx
      go_wp2_with fail
      refine D.out.mono ?_
      rintro e w5 ⟨rfl, hR5, k5⟩
      have hV6 := Lib.hid ((hV2'.out.keeps k5 fun j hj _ e => by omega).keeps (S := fun _ => False) ((Keeps.refl _ w5).drew) fun _ _ _ => id)
      have hA5 := hV1'.out.keeps k5 (by omega)
      have hA6 := Lib.hid hA5.drew
      have hB5 := hB3.out.keeps k5 (Nat.ne_of_gt hgl)
      have hB6 := Lib.hid hB5.drew
      have hK6 := Lib.hid (hK3.out.trans k5).drew
      have hR6 : Hid (Rd w5.drew g s m.tail deep false) := Lib.hid (Rd.same hR5 ((Keeps.refl _ w5).drew))
      clear a0 af b0 bf D hR5 k5
      have a5 := Blk.cell hA5
      have af5 := Blk.frozen hA5
      clear hA5 hB5
      go_wp2_with fail
      go_region_with (first | ((go_at_call 161); (with_reducible refine (hU'.out m.tail _ hR6.out).mono ?_); (rintro e w7 ⟨cs, c7, m', d', b', rfl, hC, hR7, k7, hm1, hm2, hcase⟩); (obtain ⟨Q2, p2, n2, c2, rfl⟩ := hC.open_); (have hA7 := hA6.out.keeps k7 (by omega)); (have hV7 := Lib.hid ((hV6.out.keeps k7 fun j hj _ e => by omega).mono (Q := fun j => w.heap.size < j) fun j hj _ => hj.1)); (have hB7 := Lib.hid (hB6.out.keeps k7 (Nat.ne_of_gt hgl))); (have hK7 := Lib.hid (hK6.out.trans k7)); (have hC7 := Lib.hid (hC.mono (Q := fun j => w.heap.size < j) fun j hj _ => by have := hB6.out.lt; omega)); (have hR7' := Lib.hid hR7); (have hcase2 := Lib.hid hcase); (have a7 := Blk.cell hA7); (have af7 := Blk.frozen hA7); (clear hC hR7 k7 hcase)) | ((go_at_call 162); (with_reducible refine (pair_calls (fun j => w.heap.size < j) 10 c7 a _ _ w7 hC7.out hV7.out).mono ?_); (rintro e w8 ⟨cs8, rfl, hC8, hb8⟩); (obtain ⟨Q8, p8, n8, c8, rfl⟩ := hC8.open_); (have hB8 := hB7.out.below hb8 hB7.out.lt); (have b8 := Blk.cell hB8); (unfold condZ at b8); (have bf8 := Blk.frozen hB8)))
      all_goals
        have hB7l := hB7.out.lt
        have k8 := Keeps.of_below (S := fun _ => False) hb8
        have hm3 := isT_len ht'.out
        unfold condZ at hB8
        obtain ⟨W, eW, hBW, hRW, hKW⟩ := put_cond rfl hB8 (hR7'.out.same k8) (Nat.ne_of_lt hgl) (Nat.ne_of_lt h5) (.int .i64 (pairC 10 c7 a).kind) (.int .i64 (pairC 10 c7 a).num) (.string Q8) (.slice p8 n8 c8)
        rw [eW]
        have c5 := hBW.cell
        go_wp2_with fail
        refine bodyPost_ret (v := .agg #[.int .i64 (pairC 10 c7 a).kind, .int .i64 (pairC 10 c7 a).num, .string Q8, .slice p8 n8 c8]) (by simp [results, Tryz.results153, go_sem, c5]) rfl ?_
        refine ⟨_, pairC 10 c7 a, m', d', b', rfl, (((hC8.mono (Q := fun j => w.heap.size < j) fun j hj _ => by rcases hj with h | h <;> omega).keeps hKW fun j hj _ e => by omega).mono fun j hj _ => Nat.le_of_lt hj), hRW, (hK7.out.step k8 fun _ e => e.elim).step hKW (fun j e => .inr (by omega)), by omega, ?_, ?_⟩
        · show 2 + m'.length ≤ _
          omega
        · rw [hG0.out, heldM_4 hx0.out hx1.out hx2.out hx3.out ht'.out]
          rcases hcase2.out with ⟨q1, q2, q3⟩ | ⟨q1, q2⟩
          · exact .inl ⟨q1, q2, heldB_ok q3⟩
          · exact .inr ⟨q1, heldB_err q2⟩
    have hx4 := Lib.hid (Bool.eq_false_iff.2 hx)
    clear hx
    have D := Lib.hid (take_no ⟨#[62]⟩ hR3.out (.inr hx4.out))
    go_wp2_with fail
    refine D.out.mono ?_
    rintro e w' ⟨rfl, rfl⟩
    clear D
    by_cases hx : isT m [62, 61] = true
    · skip
      have D := Lib.hid (take_yes ⟨#[62, 61]⟩ hR3.out hx)
      have ht' := Lib.hid hx
      clear hx
      go_wp2_with fail
      refine D.out.mono ?_
      rintro e w5 ⟨rfl, hR5, k5⟩
      have hV6 := Lib.hid ((hV2'.out.keeps k5 fun j hj _ e => by omega).keeps (S := fun _ => False) ((Keeps.refl _ w5).drew) fun _ _ _ => id)
      have hA5 := hV1'.out.keeps k5 (by omega)
      have hA6 := Lib.hid hA5.drew
      have hB5 := hB3.out.keeps k5 (Nat.ne_of_gt hgl)
      have hB6 := Lib.hid hB5.drew
      have hK6 := Lib.hid (hK3.out.trans k5).drew
      have hR6 : Hid (Rd w5.drew g s m.tail deep false) := Lib.hid (Rd.same hR5 ((Keeps.refl _ w5).drew))
      clear a0 af b0 bf D hR5 k5
      have a5 := Blk.cell hA5
      have af5 := Blk.frozen hA5
      clear hA5 hB5
      go_wp2_with fail
      go_region_with (first | ((go_at_call 161); (with_reducible refine (hU'.out m.tail _ hR6.out).mono ?_); (rintro e w7 ⟨cs, c7, m', d', b', rfl, hC, hR7, k7, hm1, hm2, hcase⟩); (obtain ⟨Q2, p2, n2, c2, rfl⟩ := hC.open_); (have hA7 := hA6.out.keeps k7 (by omega)); (have hV7 := Lib.hid ((hV6.out.keeps k7 fun j hj _ e => by omega).mono (Q := fun j => w.heap.size < j) fun j hj _ => hj.1)); (have hB7 := Lib.hid (hB6.out.keeps k7 (Nat.ne_of_gt hgl))); (have hK7 := Lib.hid (hK6.out.trans k7)); (have hC7 := Lib.hid (hC.mono (Q := fun j => w.heap.size < j) fun j hj _ => by have := hB6.out.lt; omega)); (have hR7' := Lib.hid hR7); (have hcase2 := Lib.hid hcase); (have a7 := Blk.cell hA7); (have af7 := Blk.frozen hA7); (clear hC hR7 k7 hcase)) | ((go_at_call 162); (with_reducible refine (pair_calls (fun j => w.heap.size < j) 11 c7 a _ _ w7 hC7.out hV7.out).mono ?_); (rintro e w8 ⟨cs8, rfl, hC8, hb8⟩); (obtain ⟨Q8, p8, n8, c8, rfl⟩ := hC8.open_); (have hB8 := hB7.out.below hb8 hB7.out.lt); (have b8 := Blk.cell hB8); (unfold condZ at b8); (have bf8 := Blk.frozen hB8)))
      all_goals
        have hB7l := hB7.out.lt
        have k8 := Keeps.of_below (S := fun _ => False) hb8
        have hm3 := isT_len ht'.out
        unfold condZ at hB8
        obtain ⟨W, eW, hBW, hRW, hKW⟩ := put_cond rfl hB8 (hR7'.out.same k8) (Nat.ne_of_lt hgl) (Nat.ne_of_lt h5) (.int .i64 (pairC 11 c7 a).kind) (.int .i64 (pairC 11 c7 a).num) (.string Q8) (.slice p8 n8 c8)
        rw [eW]
        have c5 := hBW.cell
        go_wp2_with fail
        refine bodyPost_ret (v := .agg #[.int .i64 (pairC 11 c7 a).kind, .int .i64 (pairC 11 c7 a).num, .string Q8, .slice p8 n8 c8]) (by simp [results, Tryz.results153, go_sem, c5]) rfl ?_
        refine ⟨_, pairC 11 c7 a, m', d', b', rfl, (((hC8.mono (Q := fun j => w.heap.size < j) fun j hj _ => by rcases hj with h | h <;> omega).keeps hKW fun j hj _ e => by omega).mono fun j hj _ => Nat.le_of_lt hj), hRW, (hK7.out.step k8 fun _ e => e.elim).step hKW (fun j e => .inr (by omega)), by omega, ?_, ?_⟩
        · show 2 + m'.length ≤ _
          omega
        · rw [hG0.out, heldM_5 hx0.out hx1.out hx2.out hx3.out hx4.out ht'.out]
          rcases hcase2.out with ⟨q1, q2, q3⟩ | ⟨q1, q2⟩
          · exact .inl ⟨q1, q2, heldB_ok q3⟩
          · exact .inr ⟨q1, heldB_err q2⟩
    have hx5 := Lib.hid (Bool.eq_false_iff.2 hx)
    clear hx
    have D := Lib.hid (take_no ⟨#[62, 61]⟩ hR3.out (.inr hx5.out))
    go_wp2_with fail
    refine D.out.mono ?_
    rintro e w' ⟨rfl, rfl⟩
    clear D
    by_cases hx : isT m inL = true
    · skip
      have D := Lib.hid (take_yes ⟨#[105, 110]⟩ hR3.out hx)
      have ht' := Lib.hid hx
      clear hx
      go_wp2_with fail
      refine D.out.mono ?_
      rintro e w5 ⟨rfl, hR5, k5⟩
      have hV5 := Lib.hid (hV2'.out.keeps k5 fun j hj _ e => by omega)
      have hA5 := hV1'.out.keeps k5 (by omega)
      have hB5 := Lib.hid (hB3.out.keeps k5 (Nat.ne_of_gt hgl))
      have hK5 := Lib.hid (hK3.out.trans k5)
      have hR5' : Hid (Rd w5 g s m.tail deep false) := Lib.hid hR5
      clear a0 af b0 bf D hR5 k5
      have a5 := Blk.cell hA5
      have af5 := Blk.frozen hA5
      have hAl := hA5.lt
      clear hA5
      -- the list's row and its variable
      have hz6 := Lib.hid (alloc_size w5 (.cells #[.int .i64 a.kind, .int .i64 a.num, .string Q, .slice pp nn cc] 28))
      obtain ⟨hh, eh⟩ : ∃ hh, hh = w5.heap.size := ⟨_, rfl⟩
      have hrow := ((Blk.new w5 28 #[.int .i64 a.kind, .int .i64 a.num, .string Q, .slice pp nn cc]).alloc (.cells #[.int .i64 15, .int .i64 0, .string ⟨#[]⟩, .slice (some ⟨w5.heap.size, 0, none⟩) 1 1] 28))
      have hOb := Blk.new (w5.alloc (.cells #[.int .i64 a.kind, .int .i64 a.num, .string Q, .slice pp nn cc] 28)) 28 #[.int .i64 15, .int .i64 0, .string ⟨#[]⟩, .slice (some ⟨w5.heap.size, 0, none⟩) 1 1]
      rw [hz6.out] at hOb
      have hk6 := ((Keeps.refl (fun _ => False) w5).alloc (.cells #[.int .i64 a.kind, .int .i64 a.num, .string Q, .slice pp nn cc] 28)).alloc (.cells #[.int .i64 15, .int .i64 0, .string ⟨#[]⟩, .slice (some ⟨w5.heap.size, 0, none⟩) 1 1] 28)
      obtain ⟨w6, e6⟩ : ∃ w6, (w5.alloc (.cells #[.int .i64 a.kind, .int .i64 a.num, .string Q, .slice pp nn cc] 28)).alloc (.cells #[.int .i64 15, .int .i64 0, .string ⟨#[]⟩, .slice (some ⟨w5.heap.size, 0, none⟩) 1 1] 28) = w6 := ⟨_, rfl⟩
      rw [e6] at hrow hOb hk6
      have hO6 := Lib.hid hOb
      have hown6 : Hid (Own (w5.heap.size + 1) (w.heap.size + 1) w6 (.slice (some ⟨w5.heap.size, 0, none⟩) 1 1) [a] [.int .i64 a.kind, .int .i64 a.num, .string Q, .slice pp nn cc]) := by
        refine Lib.hid (Own.new (ps := [a]) hrow (by omega) (Nat.ne_of_lt (Nat.lt_succ_self _)) ?_ (by show 1 ≤ maxLen; decide))
        exact ((hV5.out.mono (Q := fun j => w.heap.size + 1 ≤ j ∧ j ≠ w5.heap.size + 1 ∧ j ≠ w5.heap.size) fun j hj hl => ⟨hj.1, by omega, by omega⟩).keeps hk6 fun _ _ _ => id).one
      have hR6 := Lib.hid (hR5'.out.same hk6)
      have hB6 := Lib.hid (hB5.out.keeps hk6 id)
      have hK6 := Lib.hid (hK5.out.step hk6 fun _ e => e.elim)
      clear hrow hOb hk6 hB5 hK5 hR5' hV5
      go_wp2_with fail
      by_cases hx7 : isT m.tail [91] = true
      · skip
        have D := Lib.hid (need_yes ⟨#[91]⟩ hR6.out hx7)
        have hx7' := Lib.hid hx7
        clear hx7
        refine D.out.mono ?_
        rintro e w7 ⟨rfl, hR7, k7⟩
        have hm3 := isT_len ht'.out
        have hm4 := isT_len hx7'.out
        obtain ⟨O, eO⟩ : ∃ O, w5.heap.size + 1 = O := ⟨_, rfl⟩
        have hOlt : w.heap.size + 1 < O := by omega
        have hstart : Hid (InI U (listM U a (m.length + 1) m.tail) w g O s l deep (m.length + 2) (.bool true) w7) := by
          rw [← eO]
          exact Lib.hid ⟨[a], _, _, _, m.tail.tail, deep, false, true, rfl, hO6.out.keeps k7 (by omega), hown6.out.keeps k7 (fun j hj _ _ e => by omega), hR7, hK6.out.trans k7, hB6.out.keeps k7 (Nat.ne_of_gt hgl), by show m.tail.tail.length + 1 ≤ _; omega, by omega, by show 1 + m.tail.tail.length + 1 ≤ _; omega, .inl ⟨rfl, rfl, .inl ⟨rfl, m.length + 1, by omega, by unfold listM; rw [if_pos hx7'.out]⟩⟩⟩
        clear hO6 hown6 hR6 hB6 hK6 k7 hR7 a5 af5 D
        rw [eO]
        clear eO e6 hz6
        go_wp2_with fail
        go_loopg [5] (m.length + 2) (fun k more wr => InI U (listM U a (m.length + 1) m.tail) w g O s l deep k more wr)
        case atStart => exact hstart.out
        case round =>
          obtain ⟨acc, cs, p, c, m', d', b', mo, rfl, hO, hown, hR, hK, hB, hk, hml', hmp', hst⟩ := hrel
          have hO' := Lib.hid hO
          have hown' := Lib.hid hown
          have hR' := Lib.hid hR
          have hK' := Lib.hid hK
          have hB' := Lib.hid hB
          have hst' := Lib.hid hst
          have hOl := hO.lt
          have o0 := Blk.cell hO
          have of0 := Blk.frozen hO
          have b0 := Blk.cell hB
          have bf0 := Blk.frozen hB
          unfold condZ at b0
          clear hO hown hR hK hB hst
          cases mo with
          | false =>
            have hst2 : Hid ((b' = false ∧ d' = deep ∧ listM U a (m.length + 1) m.tail = .ok (acc, m')) ∨ (b' = true ∧ listM U a (m.length + 1) m.tail = .error (posT m'))) := by
              rcases hst'.out with ⟨h1, h2, ⟨h3, _⟩ | ⟨_, h3⟩⟩ | h
              · cases h3
              · exact Lib.hid (.inl ⟨h1, h2, h3⟩)
              · exact Lib.hid (.inr h)
            have hmp2 : acc.length + m'.length ≤ l.length + 1 := hmp'
            clear hst'
            by_cases hcl : b' = false ∧ isT m' [93] = true
            · obtain ⟨rfl, hcl⟩ := hcl
              obtain ⟨hd, hL⟩ : d' = deep ∧ Hid (listM U a (m.length + 1) m.tail = .ok (acc, m')) := by
                rcases hst2.out with ⟨_, h2, h3⟩ | ⟨h, _⟩
                · exact ⟨h2, Lib.hid h3⟩
                · cases h
              have hd' := hd.symm
              clear hd hst2
              subst hd'
              have hcl' := Lib.hid hcl
              clear hcl
              have D := Lib.hid (need_yes ⟨#[93]⟩ hR'.out hcl'.out)
              go_wp2_with fail
              refine D.out.mono ?_
              rintro e w9 ⟨rfl, hR9, k9⟩
              have hR9 := Lib.hid hR9
              have hB9 := Lib.hid (hB'.out.keeps k9 (Nat.ne_of_gt hgl))
              have hK9 := Lib.hid (hK'.out.trans k9)
              have hO9 := hO'.out.keeps k9 (by omega)
              have hown9 := Lib.hid (hown'.out.keeps k9 fun j hj _ _ e => by omega)
              have o9 := Blk.cell hO9
              have of9 := Blk.frozen hO9
              have b9 := Blk.cell hB9.out
              have bf9 := Blk.frozen hB9.out
              unfold condZ at b9
              clear k9 hO9 D
              go_wp2_with fail
              obtain ⟨W, eW, hBW, hRW, hKW⟩ := put_cond rfl hB9.out hR9.out (Nat.ne_of_lt hgl) (Nat.ne_of_lt h5) (.int .i64 15) (.int .i64 0) (.string ⟨#[]⟩) (.slice p acc.length c)
              rw [eW]
              have c5 := hBW.cell
              refine bodyPost_ret (v := .agg #[.int .i64 15, .int .i64 0, .string ⟨#[]⟩, .slice p acc.length c]) (by simp [results, Tryz.results153, go_sem, c5]) rfl ?_
              have hO9 := hown9.out.keeps hKW fun j hj _ _ e => by omega
              exact ⟨_, .node 15 0 [] acc, _, _, _, rfl, .mk (RowAt.of_own hO9.row) (fun j hj => by have := (hO9.row.lt j hj).1; omega) hO9.parts.len (fun i q hi => (hO9.parts.part i q hi).mono fun j hj _ => by omega), hRW, hK9.out.step hKW (fun j e => .inr (by omega)), (by have : m'.tail.length ≤ m'.length := (by simp); omega), (by show acc.length + m'.tail.length ≤ _; have : m'.tail.length ≤ m'.length := (by simp); omega), (.inl ⟨rfl, rfl, by rw [hG0.out, (heldM_in hx0.out hx1.out hx2.out hx3.out hx4.out hx5.out ht'.out), hL.out]; show (if isT m' [93] then _ else _) = _; rw [if_pos hcl'.out]⟩)⟩
            · have hcl' : Hid (b' = true ∨ isT m' [93] = false) := by
                cases b' with
                | true => exact Lib.hid (.inl rfl)
                | false => exact Lib.hid (.inr (Bool.eq_false_iff.2 fun e => hcl ⟨rfl, e⟩))
              have hE : Hid (gHeld U l = .error (posT m')) := by
                refine Lib.hid ?_
                rw [hG0.out, (heldM_in hx0.out hx1.out hx2.out hx3.out hx4.out hx5.out ht'.out)]
                rcases hst2.out with ⟨h1, _, h3⟩ | ⟨_, h3⟩
                · rw [h3]
                  show (if isT m' [93] then _ else _) = _
                  rcases hcl'.out with h | h
                  · rw [h1] at h; cases h
                  · rw [if_neg (by rw [h]; decide)]
                · rw [h3]
              clear hcl hst2
              have D := Lib.hid (need_no ⟨#[93]⟩ hR'.out hcl'.out)
              go_wp2_with fail
              refine D.out.mono ?_
              rintro e w9 ⟨rfl, hR9, k9⟩
              have hR9 := Lib.hid hR9
              have hB9 := Lib.hid (hB'.out.keeps k9 (Nat.ne_of_gt hgl))
              have hK9 := Lib.hid (hK'.out.trans k9)
              have hO9 := hO'.out.keeps k9 (by omega)
              have hown9 := Lib.hid (hown'.out.keeps k9 fun j hj _ _ e => by omega)
              have o9 := Blk.cell hO9
              have of9 := Blk.frozen hO9
              have b9 := Blk.cell hB9.out
              have bf9 := Blk.frozen hB9.out
              unfold condZ at b9
              clear k9 hO9 D
              go_wp2_with fail
              obtain ⟨W, eW, hBW, hRW, hKW⟩ := put_cond rfl hB9.out hR9.out (Nat.ne_of_lt hgl) (Nat.ne_of_lt h5) (.int .i64 15) (.int .i64 0) (.string ⟨#[]⟩) (.slice p acc.length c)
              rw [eW]
              have c5 := hBW.cell
              refine bodyPost_ret (v := .agg #[.int .i64 15, .int .i64 0, .string ⟨#[]⟩, .slice p acc.length c]) (by simp [results, Tryz.results153, go_sem, c5]) rfl ?_
              have hO9 := hown9.out.keeps hKW fun j hj _ _ e => by omega
              exact ⟨_, .node 15 0 [] acc, _, _, _, rfl, .mk (RowAt.of_own hO9.row) (fun j hj => by have := (hO9.row.lt j hj).1; omega) hO9.parts.len (fun i q hi => (hO9.parts.part i q hi).mono fun j hj _ => by omega), hRW, hK9.out.step hKW (fun j e => .inr (by omega)), hml', hmp2, (.inr ⟨rfl, hE.out⟩)⟩
          | true =>
            have hk2 : m'.length + 1 ≤ gk := hk
            have hmp2 : acc.length + m'.length + 1 ≤ l.length + 1 := hmp'
            have hdd : b' = false → d' = deep := by
              intro e
              rcases hst'.out with ⟨_, h, _⟩ | ⟨h, _⟩
              · exact h
              · rw [e] at h; cases h
            have SA := Lib.hid (sum_any hU'.out (hR'.out.same ((Keeps.refl _ wr).drew)) hdd)
            have hownd := Lib.hid (hown'.out.keeps (S := fun _ => False) ((Keeps.refl _ wr).drew) fun _ _ _ _ => id)
            have hOd := Lib.hid hO'.out.drew
            have hBd := Lib.hid hB'.out.drew
            have hKd := Lib.hid hK'.out.drew
            have hvb := Lib.hid (fun j hj => (hownd.out.row.lt j hj))
            clear hdd hk hmp'
            go_wp2_with fail
            go_region_with (first | ((go_at_call 161); (with_reducible refine SA.out.mono ?_); (rintro e w7 ⟨cs7, c7, m2, d2, b2, rfl, hC, hR7, k7, hm2, hs2⟩); (obtain ⟨Q7, p7, n7, c77, rfl⟩ := hC.open_); (have hB7 := Lib.hid (hBd.out.keeps k7 (Nat.ne_of_gt hgl))); (have hK7 := Lib.hid (hKd.out.trans k7)); (have hO7 := hOd.out.keeps k7 (by omega)); (have hrow7 := Blk.new w7 28 #[.int .i64 c7.kind, .int .i64 c7.num, .string Q7, .slice p7 n7 c77]); (have k8 := Keeps.of_below (S := fun _ => False) ((Below.refl w7.heap.size w7).alloc (Nat.le_refl _) (.cells #[.int .i64 c7.kind, .int .i64 c7.num, .string Q7, .slice p7 n7 c77] 28))); (have hown8 := (hownd.out.keeps k7 fun j hj _ _ e => by omega).keeps k8 fun _ _ _ _ => id); (have hz7 := hO7.lt); (have hzd := hOd.out.lt); (have hC8 := (hC.mono (Q := fun j => w.heap.size + 1 ≤ j ∧ j ≠ O ∧ (Value.slice p acc.length c).ownBlock ≠ some j) fun j hj _ => ⟨by omega, by omega, fun e => by have := (hvb.out j e).2; omega⟩).keeps k8 fun _ _ _ => id); (have hz8 := alloc_size w7 (.cells #[.int .i64 c7.kind, .int .i64 c7.num, .string Q7, .slice p7 n7 c77] 28)); (obtain ⟨p9, c9, w9, e9, own9, k9⟩ := hown8.app (u := .slice (some ⟨w7.heap.size, 0, none⟩) 1 1) (qs := [c7]) (by omega) (by omega) (.inr ⟨_, _, _, rfl, Nat.le_refl _, hrow7, fun i u hi => by simpa using hi⟩) hC8.one (by show acc.length + 1 ≤ _; omega)); (have hO9 := (hO7.keeps k8 id).keeps k9 (fun e => hown8.ne e.2.2)); (have o9 := Blk.cell hO9); (have of9 := Blk.frozen hO9); (have o7 := Blk.cell hO7); (have of7 := Blk.frozen hO7); (have own9' := Lib.hid own9); (have k9' := Lib.hid k9); (have k8' := Lib.hid k8); (have hs2' := Lib.hid hs2); (have hR7' := Lib.hid hR7); (have hO9' := Lib.hid hO9); (have hz7' := Lib.hid hz7); (clear hC k7 hrow7 k8 hown8 hC8 hz8 own9 k9 hs2 hR7 hO9)))
            all_goals
              have k9b : Keeps (fun j => w.heap.size < j) w7 (w9.setCell ⟨O, 3, none⟩ (.slice p9 (acc.length + 1) c9)) := ((k8'.out.mono fun _ _ e => e.elim).trans (k9'.out.mono fun j _ hj => by omega)).setCell (.inl (by show w.heap.size < O; omega)) _
              have hOV := Lib.hid (hO9'.out.set_ 3 (.slice p9 (acc.length + 1) c9))
              have hownV := Lib.hid (own9'.out.keeps ((Keeps.refl (fun j => j = O) w9).setCell (p := ⟨O, 3, none⟩) (.inl rfl) (.slice p9 (acc.length + 1) c9)) fun j _ hj _ e => hj e)
              have hRV := Lib.hid (hR7'.out.keeps k9b (by omega) (by omega))
              have hBV := Lib.hid (hB7.out.keeps k9b (by omega))
              have hKV := Lib.hid (hK7.out.step k9b fun j hj => .inr (Nat.le_of_lt hj))
              generalize w9.setCell ⟨O, 3, none⟩ (.slice p9 (acc.length + 1) c9) = V at *
              clear o9 of9 o7 of7 k9b e9 b0 bf0 o0 of0
              by_cases hcm : b2 = false ∧ isT m2 [44] = true
              · obtain ⟨rfl, hcm⟩ := hcm
                have D := Lib.hid (take_yes ⟨#[44]⟩ hRV.out hcm)
                have hcm' := Lib.hid hcm
                clear hcm
                go_wp2_with fail
                refine D.out.mono ?_
                rintro e w10 ⟨rfl, hR10, k10⟩
                have hR10 := Lib.hid hR10
                have hO10 := Lib.hid (hOV.out.keeps k10 (by omega))
                have hown10 := Lib.hid (hownV.out.keeps k10 fun j hj _ _ e => by omega)
                have hB10 := Lib.hid (hBV.out.keeps k10 (Nat.ne_of_gt hgl))
                have hK10 := Lib.hid (hKV.out.trans k10)
                have hm5 := isT_len hcm'.out
                clear k10 D
                go_wp2_with fail
                go_roundg (m2.tail.length + 1)
                case measure => omega
                case rel =>
                  refine ⟨acc ++ [c7], _, p9, c9, m2.tail, d2, false, true, rfl, ?_, hown10.out, hR10.out, hK10.out, hB10.out, Nat.le_refl _, by omega, ?_, ?_⟩
                  · rw [List.length_append]; exact hO10.out
                  · rw [List.length_append]
                    show acc.length + 1 + m2.tail.length + 1 ≤ _
                    omega
                  · rcases hs2'.out with ⟨hb, ⟨_, h2, h3⟩ | ⟨h, _⟩⟩ | ⟨_, h, _⟩
                    · rcases hst'.out with ⟨_, _, ⟨_, n, hn, hG⟩ | ⟨h, _⟩⟩ | ⟨h, _⟩
                      · obtain ⟨n, rfl⟩ : ∃ k, n = k + 1 := ⟨n - 1, by omega⟩
                        rw [inLp_more h3 hcm'.out] at hG
                        exact .inl ⟨rfl, h2, .inl ⟨rfl, n, by omega, hG⟩⟩
                      · cases h
                      · rw [hb] at h; cases h
                    · cases h
                    · cases h
              · have hcm' : Hid (b2 = true ∨ isT m2 [44] = false) := by
                  cases b2 with
                  | true => exact Lib.hid (.inl rfl)
                  | false => exact Lib.hid (.inr (Bool.eq_false_iff.2 fun e => hcm ⟨rfl, e⟩))
                have D := Lib.hid (take_no ⟨#[44]⟩ hRV.out hcm'.out)
                clear hcm
                go_wp2_with fail
                refine D.out.mono ?_
                rintro e w' ⟨rfl, rfl⟩
                clear D
                go_wp2_with fail
                go_roundg (m2.length)
                case measure => omega
                case rel =>
                  refine ⟨acc ++ [c7], _, p9, c9, m2, d2, b2, false, rfl, ?_, hownV.out, hRV.out, hKV.out, hBV.out, Nat.le_refl _, by omega, ?_, ?_⟩
                  · rw [List.length_append]; exact hOV.out
                  · rw [List.length_append]
                    show acc.length + 1 + m2.length + 0 ≤ _
                    omega
                  · rcases hs2'.out with ⟨hb, ⟨h1, h2, h3⟩ | ⟨h1, h3⟩⟩ | ⟨hb, h1, h3⟩
                    · rcases hst'.out with ⟨_, _, ⟨_, n, hn, hG⟩ | ⟨h, _⟩⟩ | ⟨h, _⟩
                      · obtain ⟨n, rfl⟩ : ∃ k, n = k + 1 := ⟨n - 1, by omega⟩
                        have hc2 : isT m2 [44] = false := by
                          rcases hcm'.out with h | h
                          · rw [h1] at h; cases h
                          · exact h
                        rw [inLp_last h3 hc2] at hG
                        exact .inl ⟨h1, h2, .inr ⟨rfl, hG.symm⟩⟩
                      · cases h
                      · rw [hb] at h; cases h
                    · rcases hst'.out with ⟨_, _, ⟨_, n, hn, hG⟩ | ⟨h, _⟩⟩ | ⟨h, _⟩
                      · obtain ⟨n, rfl⟩ : ∃ k, n = k + 1 := ⟨n - 1, by omega⟩
                        rw [inLp_err h3] at hG
                        exact .inr ⟨h1, hG.symm⟩
                      · cases h
                      · rw [hb] at h; cases h
                    · rcases hst'.out with ⟨h, _, _⟩ | ⟨_, h⟩
                      · rw [hb] at h; cases h
                      · rw [h3]; exact .inr ⟨h1, h⟩
      · skip
        have D := Lib.hid (need_no ⟨#[91]⟩ hR6.out (.inr (Bool.eq_false_iff.2 hx7)))
        have hx7' := Lib.hid (Bool.eq_false_iff.2 hx7)
        clear hx7
        refine D.out.mono ?_
        rintro e w7 ⟨rfl, hR7, k7⟩
        have hm3 := isT_len ht'.out
        obtain ⟨O, eO⟩ : ∃ O, w5.heap.size + 1 = O := ⟨_, rfl⟩
        have hOlt : w.heap.size + 1 < O := by omega
        have hstart : Hid (InI U (listM U a (m.length + 1) m.tail) w g O s l deep (m.length + 2) (.bool true) w7) := by
          rw [← eO]
          exact Lib.hid ⟨[a], _, _, _, m.tail, deep, true, true, rfl, hO6.out.keeps k7 (by omega), hown6.out.keeps k7 (fun j hj _ _ e => by omega), hR7, hK6.out.trans k7, hB6.out.keeps k7 (Nat.ne_of_gt hgl), by show m.tail.length + 1 ≤ _; omega, by omega, by show 1 + m.tail.length + 1 ≤ _; omega, .inr ⟨rfl, by unfold listM; rw [if_neg (by rw [hx7'.out]; decide)]⟩⟩
        clear hO6 hown6 hR6 hB6 hK6 k7 hR7 a5 af5 D
        rw [eO]
        clear eO e6 hz6
        go_wp2_with fail
        go_loopg [5] (m.length + 2) (fun k more wr => InI U (listM U a (m.length + 1) m.tail) w g O s l deep k more wr)
        case atStart => exact hstart.out
        case round =>
          obtain ⟨acc, cs, p, c, m', d', b', mo, rfl, hO, hown, hR, hK, hB, hk, hml', hmp', hst⟩ := hrel
          have hO' := Lib.hid hO
          have hown' := Lib.hid hown
          have hR' := Lib.hid hR
          have hK' := Lib.hid hK
          have hB' := Lib.hid hB
          have hst' := Lib.hid hst
          have hOl := hO.lt
          have o0 := Blk.cell hO
          have of0 := Blk.frozen hO
          have b0 := Blk.cell hB
          have bf0 := Blk.frozen hB
          unfold condZ at b0
          clear hO hown hR hK hB hst
          cases mo with
          | false =>
            have hst2 : Hid ((b' = false ∧ d' = deep ∧ listM U a (m.length + 1) m.tail = .ok (acc, m')) ∨ (b' = true ∧ listM U a (m.length + 1) m.tail = .error (posT m'))) := by
              rcases hst'.out with ⟨h1, h2, ⟨h3, _⟩ | ⟨_, h3⟩⟩ | h
              · cases h3
              · exact Lib.hid (.inl ⟨h1, h2, h3⟩)
              · exact Lib.hid (.inr h)
            have hmp2 : acc.length + m'.length ≤ l.length + 1 := hmp'
            clear hst'
            by_cases hcl : b' = false ∧ isT m' [93] = true
            · obtain ⟨rfl, hcl⟩ := hcl
              obtain ⟨hd, hL⟩ : d' = deep ∧ Hid (listM U a (m.length + 1) m.tail = .ok (acc, m')) := by
                rcases hst2.out with ⟨_, h2, h3⟩ | ⟨h, _⟩
                · exact ⟨h2, Lib.hid h3⟩
                · cases h
              have hd' := hd.symm
              clear hd hst2
              subst hd'
              have hcl' := Lib.hid hcl
              clear hcl
              have D := Lib.hid (need_yes ⟨#[93]⟩ hR'.out hcl'.out)
              go_wp2_with fail
              refine D.out.mono ?_
              rintro e w9 ⟨rfl, hR9, k9⟩
              have hR9 := Lib.hid hR9
              have hB9 := Lib.hid (hB'.out.keeps k9 (Nat.ne_of_gt hgl))
              have hK9 := Lib.hid (hK'.out.trans k9)
              have hO9 := hO'.out.keeps k9 (by omega)
              have hown9 := Lib.hid (hown'.out.keeps k9 fun j hj _ _ e => by omega)
              have o9 := Blk.cell hO9
              have of9 := Blk.frozen hO9
              have b9 := Blk.cell hB9.out
              have bf9 := Blk.frozen hB9.out
              unfold condZ at b9
              clear k9 hO9 D
              go_wp2_with fail
              obtain ⟨W, eW, hBW, hRW, hKW⟩ := put_cond rfl hB9.out hR9.out (Nat.ne_of_lt hgl) (Nat.ne_of_lt h5) (.int .i64 15) (.int .i64 0) (.string ⟨#[]⟩) (.slice p acc.length c)
              rw [eW]
              have c5 := hBW.cell
              refine bodyPost_ret (v := .agg #[.int .i64 15, .int .i64 0, .string ⟨#[]⟩, .slice p acc.length c]) (by simp [results, Tryz.results153, go_sem, c5]) rfl ?_
              have hO9 := hown9.out.keeps hKW fun j hj _ _ e => by omega
              exact ⟨_, .node 15 0 [] acc, _, _, _, rfl, .mk (RowAt.of_own hO9.row) (fun j hj => by have := (hO9.row.lt j hj).1; omega) hO9.parts.len (fun i q hi => (hO9.parts.part i q hi).mono fun j hj _ => by omega), hRW, hK9.out.step hKW (fun j e => .inr (by omega)), (by have : m'.tail.length ≤ m'.length := (by simp); omega), (by show acc.length + m'.tail.length ≤ _; have : m'.tail.length ≤ m'.length := (by simp); omega), (.inl ⟨rfl, rfl, by rw [hG0.out, (heldM_in hx0.out hx1.out hx2.out hx3.out hx4.out hx5.out ht'.out), hL.out]; show (if isT m' [93] then _ else _) = _; rw [if_pos hcl'.out]⟩)⟩
            · have hcl' : Hid (b' = true ∨ isT m' [93] = false) := by
                cases b' with
                | true => exact Lib.hid (.inl rfl)
                | false => exact Lib.hid (.inr (Bool.eq_false_iff.2 fun e => hcl ⟨rfl, e⟩))
              have hE : Hid (gHeld U l = .error (posT m')) := by
                refine Lib.hid ?_
                rw [hG0.out, (heldM_in hx0.out hx1.out hx2.out hx3.out hx4.out hx5.out ht'.out)]
                rcases hst2.out with ⟨h1, _, h3⟩ | ⟨_, h3⟩
                · rw [h3]
                  show (if isT m' [93] then _ else _) = _
                  rcases hcl'.out with h | h
                  · rw [h1] at h; cases h
                  · rw [if_neg (by rw [h]; decide)]
                · rw [h3]
              clear hcl hst2
              have D := Lib.hid (need_no ⟨#[93]⟩ hR'.out hcl'.out)
              go_wp2_with fail
              refine D.out.mono ?_
              rintro e w9 ⟨rfl, hR9, k9⟩
              have hR9 := Lib.hid hR9
              have hB9 := Lib.hid (hB'.out.keeps k9 (Nat.ne_of_gt hgl))
              have hK9 := Lib.hid (hK'.out.trans k9)
              have hO9 := hO'.out.keeps k9 (by omega)
              have hown9 := Lib.hid (hown'.out.keeps k9 fun j hj _ _ e => by omega)
              have o9 := Blk.cell hO9
              have of9 := Blk.frozen hO9
              have b9 := Blk.cell hB9.out
              have bf9 := Blk.frozen hB9.out
              unfold condZ at b9
              clear k9 hO9 D
              go_wp2_with fail
              obtain ⟨W, eW, hBW, hRW, hKW⟩ := put_cond rfl hB9.out hR9.out (Nat.ne_of_lt hgl) (Nat.ne_of_lt h5) (.int .i64 15) (.int .i64 0) (.string ⟨#[]⟩) (.slice p acc.length c)
              rw [eW]
              have c5 := hBW.cell
              refine bodyPost_ret (v := .agg #[.int .i64 15, .int .i64 0, .string ⟨#[]⟩, .slice p acc.length c]) (by simp [results, Tryz.results153, go_sem, c5]) rfl ?_
              have hO9 := hown9.out.keeps hKW fun j hj _ _ e => by omega
              exact ⟨_, .node 15 0 [] acc, _, _, _, rfl, .mk (RowAt.of_own hO9.row) (fun j hj => by have := (hO9.row.lt j hj).1; omega) hO9.parts.len (fun i q hi => (hO9.parts.part i q hi).mono fun j hj _ => by omega), hRW, hK9.out.step hKW (fun j e => .inr (by omega)), hml', hmp2, (.inr ⟨rfl, hE.out⟩)⟩
          | true =>
            have hk2 : m'.length + 1 ≤ gk := hk
            have hmp2 : acc.length + m'.length + 1 ≤ l.length + 1 := hmp'
            have hdd : b' = false → d' = deep := by
              intro e
              rcases hst'.out with ⟨_, h, _⟩ | ⟨h, _⟩
              · exact h
              · rw [e] at h; cases h
            have SA := Lib.hid (sum_any hU'.out (hR'.out.same ((Keeps.refl _ wr).drew)) hdd)
            have hownd := Lib.hid (hown'.out.keeps (S := fun _ => False) ((Keeps.refl _ wr).drew) fun _ _ _ _ => id)
            have hOd := Lib.hid hO'.out.drew
            have hBd := Lib.hid hB'.out.drew
            have hKd := Lib.hid hK'.out.drew
            have hvb := Lib.hid (fun j hj => (hownd.out.row.lt j hj))
            clear hdd hk hmp'
            go_wp2_with fail
            go_region_with (first | ((go_at_call 161); (with_reducible refine SA.out.mono ?_); (rintro e w7 ⟨cs7, c7, m2, d2, b2, rfl, hC, hR7, k7, hm2, hs2⟩); (obtain ⟨Q7, p7, n7, c77, rfl⟩ := hC.open_); (have hB7 := Lib.hid (hBd.out.keeps k7 (Nat.ne_of_gt hgl))); (have hK7 := Lib.hid (hKd.out.trans k7)); (have hO7 := hOd.out.keeps k7 (by omega)); (have hrow7 := Blk.new w7 28 #[.int .i64 c7.kind, .int .i64 c7.num, .string Q7, .slice p7 n7 c77]); (have k8 := Keeps.of_below (S := fun _ => False) ((Below.refl w7.heap.size w7).alloc (Nat.le_refl _) (.cells #[.int .i64 c7.kind, .int .i64 c7.num, .string Q7, .slice p7 n7 c77] 28))); (have hown8 := (hownd.out.keeps k7 fun j hj _ _ e => by omega).keeps k8 fun _ _ _ _ => id); (have hz7 := hO7.lt); (have hzd := hOd.out.lt); (have hC8 := (hC.mono (Q := fun j => w.heap.size + 1 ≤ j ∧ j ≠ O ∧ (Value.slice p acc.length c).ownBlock ≠ some j) fun j hj _ => ⟨by omega, by omega, fun e => by have := (hvb.out j e).2; omega⟩).keeps k8 fun _ _ _ => id); (have hz8 := alloc_size w7 (.cells #[.int .i64 c7.kind, .int .i64 c7.num, .string Q7, .slice p7 n7 c77] 28)); (obtain ⟨p9, c9, w9, e9, own9, k9⟩ := hown8.app (u := .slice (some ⟨w7.heap.size, 0, none⟩) 1 1) (qs := [c7]) (by omega) (by omega) (.inr ⟨_, _, _, rfl, Nat.le_refl _, hrow7, fun i u hi => by simpa using hi⟩) hC8.one (by show acc.length + 1 ≤ _; omega)); (have hO9 := (hO7.keeps k8 id).keeps k9 (fun e => hown8.ne e.2.2)); (have o9 := Blk.cell hO9); (have of9 := Blk.frozen hO9); (have o7 := Blk.cell hO7); (have of7 := Blk.frozen hO7); (have own9' := Lib.hid own9); (have k9' := Lib.hid k9); (have k8' := Lib.hid k8); (have hs2' := Lib.hid hs2); (have hR7' := Lib.hid hR7); (have hO9' := Lib.hid hO9); (have hz7' := Lib.hid hz7); (clear hC k7 hrow7 k8 hown8 hC8 hz8 own9 k9 hs2 hR7 hO9)))
            all_goals
              have k9b : Keeps (fun j => w.heap.size < j) w7 (w9.setCell ⟨O, 3, none⟩ (.slice p9 (acc.length + 1) c9)) := ((k8'.out.mono fun _ _ e => e.elim).trans (k9'.out.mono fun j _ hj => by omega)).setCell (.inl (by show w.heap.size < O; omega)) _
              have hOV := Lib.hid (hO9'.out.set_ 3 (.slice p9 (acc.length + 1) c9))
              have hownV := Lib.hid (own9'.out.keeps ((Keeps.refl (fun j => j = O) w9).setCell (p := ⟨O, 3, none⟩) (.inl rfl) (.slice p9 (acc.length + 1) c9)) fun j _ hj _ e => hj e)
              have hRV := Lib.hid (hR7'.out.keeps k9b (by omega) (by omega))
              have hBV := Lib.hid (hB7.out.keeps k9b (by omega))
              have hKV := Lib.hid (hK7.out.step k9b fun j hj => .inr (Nat.le_of_lt hj))
              generalize w9.setCell ⟨O, 3, none⟩ (.slice p9 (acc.length + 1) c9) = V at *
              clear o9 of9 o7 of7 k9b e9 b0 bf0 o0 of0
              by_cases hcm : b2 = false ∧ isT m2 [44] = true
              · obtain ⟨rfl, hcm⟩ := hcm
                have D := Lib.hid (take_yes ⟨#[44]⟩ hRV.out hcm)
                have hcm' := Lib.hid hcm
                clear hcm
                go_wp2_with fail
                refine D.out.mono ?_
                rintro e w10 ⟨rfl, hR10, k10⟩
                have hR10 := Lib.hid hR10
                have hO10 := Lib.hid (hOV.out.keeps k10 (by omega))
                have hown10 := Lib.hid (hownV.out.keeps k10 fun j hj _ _ e => by omega)
                have hB10 := Lib.hid (hBV.out.keeps k10 (Nat.ne_of_gt hgl))
                have hK10 := Lib.hid (hKV.out.trans k10)
                have hm5 := isT_len hcm'.out
                clear k10 D
                go_wp2_with fail
                go_roundg (m2.tail.length + 1)
                case measure => omega
                case rel =>
                  refine ⟨acc ++ [c7], _, p9, c9, m2.tail, d2, false, true, rfl, ?_, hown10.out, hR10.out, hK10.out, hB10.out, Nat.le_refl _, by omega, ?_, ?_⟩
                  · rw [List.length_append]; exact hO10.out
                  · rw [List.length_append]
                    show acc.length + 1 + m2.tail.length + 1 ≤ _
                    omega
                  · rcases hs2'.out with ⟨hb, ⟨_, h2, h3⟩ | ⟨h, _⟩⟩ | ⟨_, h, _⟩
                    · rcases hst'.out with ⟨_, _, ⟨_, n, hn, hG⟩ | ⟨h, _⟩⟩ | ⟨h, _⟩
                      · obtain ⟨n, rfl⟩ : ∃ k, n = k + 1 := ⟨n - 1, by omega⟩
                        rw [inLp_more h3 hcm'.out] at hG
                        exact .inl ⟨rfl, h2, .inl ⟨rfl, n, by omega, hG⟩⟩
                      · cases h
                      · rw [hb] at h; cases h
                    · cases h
                    · cases h
              · have hcm' : Hid (b2 = true ∨ isT m2 [44] = false) := by
                  cases b2 with
                  | true => exact Lib.hid (.inl rfl)
                  | false => exact Lib.hid (.inr (Bool.eq_false_iff.2 fun e => hcm ⟨rfl, e⟩))
                have D := Lib.hid (take_no ⟨#[44]⟩ hRV.out hcm'.out)
                clear hcm
                go_wp2_with fail
                refine D.out.mono ?_
                rintro e w' ⟨rfl, rfl⟩
                clear D
                go_wp2_with fail
                go_roundg (m2.length)
                case measure => omega
                case rel =>
                  refine ⟨acc ++ [c7], _, p9, c9, m2, d2, b2, false, rfl, ?_, hownV.out, hRV.out, hKV.out, hBV.out, Nat.le_refl _, by omega, ?_, ?_⟩
                  · rw [List.length_append]; exact hOV.out
                  · rw [List.length_append]
                    show acc.length + 1 + m2.length + 0 ≤ _
                    omega
                  · rcases hs2'.out with ⟨hb, ⟨h1, h2, h3⟩ | ⟨h1, h3⟩⟩ | ⟨hb, h1, h3⟩
                    · rcases hst'.out with ⟨_, _, ⟨_, n, hn, hG⟩ | ⟨h, _⟩⟩ | ⟨h, _⟩
                      · obtain ⟨n, rfl⟩ : ∃ k, n = k + 1 := ⟨n - 1, by omega⟩
                        have hc2 : isT m2 [44] = false := by
                          rcases hcm'.out with h | h
                          · rw [h1] at h; cases h
                          · exact h
                        rw [inLp_last h3 hc2] at hG
                        exact .inl ⟨h1, h2, .inr ⟨rfl, hG.symm⟩⟩
                      · cases h
                      · rw [hb] at h; cases h
                    · rcases hst'.out with ⟨_, _, ⟨_, n, hn, hG⟩ | ⟨h, _⟩⟩ | ⟨h, _⟩
                      · obtain ⟨n, rfl⟩ : ∃ k, n = k + 1 := ⟨n - 1, by omega⟩
                        rw [inLp_err h3] at hG
                        exact .inr ⟨h1, hG.symm⟩
                      · cases h
                      · rw [hb] at h; cases h
                    · rcases hst'.out with ⟨h, _, _⟩ | ⟨_, h⟩
                      · rw [hb] at h; cases h
                      · rw [h3]; exact .inr ⟨h1, h⟩
    have hx6 := Lib.hid (Bool.eq_false_iff.2 hx)
    clear hx
    have D := Lib.hid (take_no ⟨#[105, 110]⟩ hR3.out (.inr hx6.out))
    go_wp2_with fail
    refine D.out.mono ?_
    rintro e w' ⟨rfl, rfl⟩
    clear D
    go_wp2_with fail
    obtain ⟨W, eW, hBW, hRW, hKW⟩ := put_cond rfl hB3.out hR3.out (Nat.ne_of_lt hgl) (Nat.ne_of_lt h5) (.int .i64 a.kind) (.int .i64 a.num) (.string Q) (.slice pp nn cc)
    rw [eW]
    have c5 := hBW.cell
    refine bodyPost_ret (v := .agg #[.int .i64 a.kind, .int .i64 a.num, .string Q, .slice pp nn cc]) (by simp [results, Tryz.results153, go_sem, c5]) rfl ?_
    exact ⟨_, a, m, _, _, rfl, (hV2'.out.keeps hKW fun j hj _ e => by omega).mono fun j hj _ => Nat.le_of_lt hj.1, hRW, hK3.out.step hKW (fun j e => .inr (by omega)), hml, hmp, .inl ⟨rfl, rfl, by rw [hG0.out]; exact heldM_a hx0.out hx1.out hx2.out hx3.out hx4.out hx5.out hx6.out⟩⟩
end Go.Proofs.YtdfgbkilaepolaaGreatDoor
