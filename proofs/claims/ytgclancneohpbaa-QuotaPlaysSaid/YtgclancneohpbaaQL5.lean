/- The law QuotaPlays: the walk. -/
import Derived.Test.YtgclancneohpbaaQL4
namespace Go.Proofs.Ytgclancneohpbaa
open Go.RowKit Go.Sort
variable {B0 : Nat} {w0 w : World} {loc : Nat} {cs : Array Value} {G M B g m k : Nat} {q : Qt} {v : Value} {r : RQ}
theorem both_has (hS : Sim q r) (s : List UInt8) {t : Nat} (ht : t < 18446744073709551616) : (q.left t).has s (max q.now t) = (look (r.tick t).cs s).getD r.most := by
  have h := (hS.tick ht).has s
  rw [tick_most] at h
  exact h
theorem plays_left1 (h : DS B0 w0 loc cs G M B g w m q v r) (hS : Sim q r) (hk : Rok r) (hkl : r.cs.length ≤ k) {s : ByteArray} (hs : s.size ≤ maxLen) {t : Nat} (ht : t < 18446744073709551616) :
    Calls Try.prog 16 #[.pointer (some ⟨G, 0, none⟩), .string s, .int .u64 t] w fun e w' => e = .returned (.int .u64 ((q.left t).has s.data.toList (max q.now t) : Nat)) ∧ (∀ i, w'.cell? ⟨loc, i, none⟩ = cs[i]?) ∧
      Calls Try.prog 17 #[.pointer (some ⟨g, 0, none⟩), .string s, .int .u64 t] w' fun e w' => e = .returned (.int .u64 ((q.left t).has s.data.toList (max q.now t) : Nat)) ∧ (∀ i, w'.cell? ⟨loc, i, none⟩ = cs[i]?) ∧ Both B0 w0 loc cs G M B g w' m k (q.left t) := by
  refine (h.pleft hs ht).mono ?_
  rintro e w1 ⟨he, h1⟩
  refine ⟨he, h1.blk.cell, (h1.rleft hk s ht).mono ?_⟩
  rintro e w2 ⟨he, h2⟩
  exact ⟨by rw [both_has hS s.data.toList ht]; exact he, h2.blk.cell, v, _, h2, hS.tick ht, hk.tick ht, by rw [tick_len]; exact hkl⟩
theorem plays_left2 (h : DS B0 w0 loc cs G M B g w m q v r) (hS : Sim q r) (hk : Rok r) (hkl : r.cs.length ≤ k) {s : ByteArray} (hs : s.size ≤ maxLen) {t : Nat} (ht : t < 18446744073709551616) :
    Calls Try.prog 17 #[.pointer (some ⟨g, 0, none⟩), .string s, .int .u64 t] w fun e w' => e = .returned (.int .u64 ((q.left t).has s.data.toList (max q.now t) : Nat)) ∧ (∀ i, w'.cell? ⟨loc, i, none⟩ = cs[i]?) ∧
      Calls Try.prog 16 #[.pointer (some ⟨G, 0, none⟩), .string s, .int .u64 t] w' fun e w' => e = .returned (.int .u64 ((q.left t).has s.data.toList (max q.now t) : Nat)) ∧ (∀ i, w'.cell? ⟨loc, i, none⟩ = cs[i]?) ∧ Both B0 w0 loc cs G M B g w' m k (q.left t) := by
  refine (h.rleft hk s ht).mono ?_
  rintro e w1 ⟨he, h1⟩
  refine ⟨by rw [both_has hS s.data.toList ht]; exact he, h1.blk.cell, (h1.pleft hs ht).mono ?_⟩
  rintro e w2 ⟨he, h2⟩
  exact ⟨he, h2.blk.cell, v, _, h2, hS.tick ht, hk.tick ht, by rw [tick_len]; exact hkl⟩
theorem plays_take1 (h : DS B0 w0 loc cs G M B g w m q v r) (hS : Sim q r) (hk : Rok r) (hkl : r.cs.length ≤ k) (h80 : k ≤ 80) (hm : m < maxLen) {s : ByteArray} (hs : s.size ≤ maxLen) (n : Nat) {t : Nat} (ht : t < 18446744073709551616) :
    Calls Try.prog 18 #[.pointer (some ⟨G, 0, none⟩), .string s, .int .u64 n, .int .u64 t] w fun e w' => e = .returned (.bool (q.enough s.data.toList n t)) ∧ (∀ i, w'.cell? ⟨loc, i, none⟩ = cs[i]?) ∧
      Calls Try.prog 19 #[.pointer (some ⟨g, 0, none⟩), .string s, .int .u64 n, .int .u64 t] w' fun e w' => e = .returned (.bool (q.enough s.data.toList n t)) ∧ (∀ i, w'.cell? ⟨loc, i, none⟩ = cs[i]?) ∧ Both B0 w0 loc cs G M B g w' (m + 1) (k + 1) (q.take s.data.toList n t) := by
  refine (h.ptake hm hs n ht).mono ?_
  rintro e w1 ⟨he, h1⟩
  refine ⟨he, h1.blk.cell, (h1.rtake hS hk hkl h80 s n ht).mono ?_⟩
  rintro e w2 ⟨he, v', r', h2, h3, h4, h5⟩
  exact ⟨he, h2.blk.cell, v', r', h2, h3, h4, h5⟩
theorem plays_take2 (h : DS B0 w0 loc cs G M B g w m q v r) (hS : Sim q r) (hk : Rok r) (hkl : r.cs.length ≤ k) (h80 : k ≤ 80) (hm : m < maxLen) {s : ByteArray} (hs : s.size ≤ maxLen) (n : Nat) {t : Nat} (ht : t < 18446744073709551616) :
    Calls Try.prog 19 #[.pointer (some ⟨g, 0, none⟩), .string s, .int .u64 n, .int .u64 t] w fun e w' => e = .returned (.bool (q.enough s.data.toList n t)) ∧ (∀ i, w'.cell? ⟨loc, i, none⟩ = cs[i]?) ∧
      Calls Try.prog 18 #[.pointer (some ⟨G, 0, none⟩), .string s, .int .u64 n, .int .u64 t] w' fun e w' => e = .returned (.bool (q.enough s.data.toList n t)) ∧ (∀ i, w'.cell? ⟨loc, i, none⟩ = cs[i]?) ∧ Both B0 w0 loc cs G M B g w' (m + 1) (k + 1) (q.take s.data.toList n t) := by
  refine (h.rtake hS hk hkl h80 s n ht).mono ?_
  rintro e w1 ⟨he, v', r', h2, h3, h4, h5⟩
  refine ⟨he, h2.blk.cell, (h2.ptake hm hs n ht).mono ?_⟩
  rintro e w2 ⟨he, h6⟩
  exact ⟨he, h6.blk.cell, v', r', h6, h3, h4, h5⟩
theorem look_mem : ∀ (cs : List (ByteArray × Nat)) (k : List UInt8), k ∈ cs.map nm ↔ (look cs k).isSome = true
  | [], k => by simp [look_nil]
  | c :: cs, k => by
    rw [List.map_cons, List.mem_cons, look_cons, look_mem cs k]
    by_cases e : nm c = k
    · rw [if_pos e]; simp [e]
    · rw [if_neg e]
      exact ⟨fun h => h.resolve_left (fun h => e h.symm), .inr⟩
theorem names_iff (hS : Sim q r) (x : List UInt8) : x ∈ r.cs.map nm ↔ (q.f x).isSome = true := by
  rw [look_mem, hS.get x]
  cases q.f x <;> simp
theorem enc_nm (c : ByteArray × Nat) : encStr (nm c) = .string c.1 := by
  unfold encStr nm
  simp
/-- what is kept from act to act -/
structure LS (B0 : Nat) (w0 : World) (G M B g : Nat) (w : World) (m : Nat) (q : Qt) (v : Value) (r : RQ) : Prop where
  qat : Qat w G M m q
  rat : Rat w B g v r
  below : Below B0 w0 w
  lo : B0 ≤ G ∧ B0 ≤ M ∧ G < B ∧ M < B ∧ B ≤ g
def LBoth (B0 : Nat) (w0 : World) (G M B g : Nat) (w : World) (m k : Nat) (q : Qt) : Prop := ∃ v r, LS B0 w0 G M B g w m q v r ∧ Sim q r ∧ Rok r ∧ r.cs.length ≤ k
theorem Both.ls (h : Both B0 w0 loc cs G M B g w m k q) : LBoth B0 w0 G M B g w m k q := by
  obtain ⟨v, r, h1, h2, h3, h4⟩ := h
  exact ⟨v, r, ⟨h1.qat, h1.rat, h1.below, h1.lo⟩, h2, h3, h4⟩
theorem LS.ds (h : LS B0 w0 G M B g w m q v r) (hB : B0 ≤ w.heap.size) (cs : Array Value) : DS B0 w0 w.heap.size cs G M B g (w.alloc (.cells cs 31)).drew m q v r := by
  have hk : Keeps (fun _ => False) w (w.alloc (.cells cs 31)).drew := ((Keeps.refl _ _).alloc _).drew
  have l1 := h.qat.lt
  have l2 := h.rat.lt
  exact ⟨h.qat.keeps hk id id, h.rat.keeps hk id (fun _ _ => id), (Blk.new _ _ _).drew, (h.below.alloc hB _).drew, Nat.le_trans hB hk.size, h.lo, by omega, fun e => by have := (h.rat.own.lt _ e).2; omega⟩
set_option maxHeartbeats 4000000 in
set_option maxRecDepth 100000 in
theorem quotaPlays_calls (rate most : Nat) (l : List QAct) (p : Option Addr) (cap : Nat) (w : World) (hr1 : rate < 18446744073709551616) (hm1 : most < 18446744073709551616) (hl : l.length ≤ maxLen) (hh : holdsL w p 4 QAct.cells l) (hf : ∀ x ∈ l, x.fits) :
    Calls Try.prog 3 #[.int .u64 rate, .int .u64 most, .slice p l.length cap] w fun e w' => e = .returned (.bool true) ∧ Below w.heap.size w w' := by
  have hh' := Lib.hid hh
  have hF := fixed38_calls w
  go_enter Try.func3, Try.ntmps3
  go_wp2_with fail
  refine hF.mono ?_
  clear hF
  rintro e w1 ⟨rfl, B1⟩
  have hW := few38_calls l p cap w1 hl (hh.below (Nat.le_refl _) B1) hf
  have hW' := Lib.hid hW
  clear hh hW
  unfold maxLen at hl
  go_wp2_with fail
  refine hW'.out.mono ?_
  clear hW'
  rintro e w2 ⟨rfl, hb2⟩
  have B2 := B1.trans (hb2.mono B1.size)
  have z2 := B2.size
  clear B1 hb2
  cases hfew : qfew l
  · go_wp2
    go_ret
    exact ⟨rfl, B2⟩
  have h80 : l.length ≤ 80 := by
    unfold qfew at hfew
    rw [Bool.and_eq_true] at hfew
    exact of_decide_eq_true hfew.2
  have hN1 := qnew_calls rate most w2 hr1 hm1
  go_wp2_with fail
  refine hN1.mono ?_
  clear hN1
  rintro e w3 ⟨rfl, q3, hb3, hz3⟩
  have B3 := B2.trans (hb3.mono z2)
  have hN2 := rnew_calls rate most w3.heap.size w3 hr1 hm1
  go_wp2_with fail
  refine hN2.mono ?_
  clear hN2
  rintro e w4 ⟨rfl, o4, hb4, hz4⟩
  have B4 := B3.trans (hb4.mono B3.size)
  have Sk : Sim (Qt.new rate most) ⟨min rate 4294967296, min most 4294967296, 0, []⟩ := ⟨Qt.new_ok _ _, rfl, rfl, rfl, by unfold sorted; simp, fun k => rfl⟩
  have Rk : Rok (⟨min rate 4294967296, min most 4294967296, 0, []⟩ : RQ) := ⟨Nat.min_le_right _ _, Nat.min_le_right _ _, by show 0 < _; omega, fun c hc => by simp at hc, Nat.zero_le _⟩
  have L4 : LBoth w.heap.size w (w2.heap.size + 1) w2.heap.size w3.heap.size w3.heap.size w4 0 0 (Qt.new rate most) :=
    ⟨_, _, ⟨q3.keeps (S := fun _ => False) (.of_below hb4) id id, o4, B4, by omega, by omega, by omega, by omega, by omega⟩, Sk, Rk, Nat.le_refl _⟩
  clear Sk Rk
  generalize w2.heap.size + 1 = G at *
  generalize w2.heap.size = M at *
  generalize w3.heap.size = g at *
  clear q3 o4 hb3 hb4 B3 B2 hz3 hz4 z2
  go_wp2_with fail
  go_loopw [27] (fun i wr => ∃ (k m : Nat) (q : Qt), k ≤ l.length ∧ m ≤ k ∧ i = .int .i64 k ∧ LBoth w.heap.size w G M g g wr m k q) (fun i _ => l.length - (intOf i).toNat)
  case atStart => exact ⟨0, 0, _, Nat.zero_le _, Nat.le_refl _, rfl, L4⟩
  case round =>
    obtain ⟨k, m, q, hk, hmk, rfl, hL⟩ := hrel
    clear L4 B4
    obtain ⟨v, r, hLS, hS, hRk, hkl⟩ := hL
    have hB := hLS.below
    have hz := hB.size
    by_cases hlt : k < l.length
    · obtain ⟨x, hx⟩ : ∃ x, l[k]? = some x := ⟨_, List.getElem?_eq_getElem hlt⟩
      obtain ⟨a, b, rfl, hab, hbb, q0, q1, q2, q3⟩ := qact_at hh'.out (Nat.le_refl _) hB hx
      have hft := hf x (List.mem_of_getElem? hx)
      clear hx
      obtain ⟨xa, xc, xn, xt⟩ := x
      obtain ⟨fc, fn, ft⟩ := hft
      simp only at fc fn ft q0 q1 q2 q3
      have hD := hLS.ds hz #[.bool xa, .string xc, .int .u64 xn, .int .u64 xt]
      have bl := Blk.new wr 31 #[.bool xa, .string xc, .int .u64 xn, .int .u64 xt]
      have lc := bl.cell
      cases xa
      · have T1 := plays_take1 (k := k) hD hS hRk hkl (by omega) (by unfold maxLen; omega) fc xn ft
        have T2 := plays_take2 (k := k) hD hS hRk hkl (by omega) (by unfold maxLen; omega) fc xn ft
        have T1' := Lib.hid T1
        have T2' := Lib.hid T2
        clear T1 T2 hD bl hLS hS hRk hkl hB lc
        have lc : ∀ i, (wr.alloc (.cells #[.bool false, .string xc, .int .u64 xn, .int .u64 xt] 31)).cell? ⟨wr.heap.size, i, none⟩ = (#[.bool false, .string xc, .int .u64 xn, .int .u64 xt] : Array Value)[i]? := (Blk.new _ _ _).cell
        generalize q.enough xc.data.toList xn xt = E at *
        go_wp2_with fail
        go_region_held3 (fun w' => (∀ i, w'.cell? ⟨wr.heap.size, i, none⟩ = (#[.bool false, .string xc, .int .u64 xn, .int .u64 xt] : Array Value)[i]?)) (first | assumption | go_keep)
          (first
            | (go_at_call 19; with_reducible refine a2.mono ?_; rintro e w6 ⟨rfl, lc6, F6⟩)
            | (go_at_call 18; with_reducible refine b2.mono ?_; rintro e w6 ⟨rfl, lc6, F6⟩)
            | (go_at_call 18; with_reducible refine T1'.out.mono ?_; rintro e w5 ⟨rfl, lc5, a2⟩)
            | (go_at_call 19; with_reducible refine T2'.out.mono ?_; rintro e w5 ⟨rfl, lc5, b2⟩))
        all_goals
          clear T1' T2' lc
          go_wp2
          go_roundw
          case rel => exact ⟨k + 1, m + 1, _, by omega, by omega, by go_num, F6.ls⟩
          case measure => simp [intOf]; omega
      · have T1 := plays_left1 (k := k + 1) hD hS hRk (by omega) fc ft
        have T2 := plays_left2 (k := k + 1) hD hS hRk (by omega) fc ft
        have T1' := Lib.hid T1
        have T2' := Lib.hid T2
        clear T1 T2 hD bl hLS hS hRk hkl hB lc
        have lc : ∀ i, (wr.alloc (.cells #[.bool true, .string xc, .int .u64 xn, .int .u64 xt] 31)).cell? ⟨wr.heap.size, i, none⟩ = (#[.bool true, .string xc, .int .u64 xn, .int .u64 xt] : Array Value)[i]? := (Blk.new _ _ _).cell
        generalize (q.left xt).has xc.data.toList (max q.now xt) = E at *
        go_wp2_with fail
        go_region_held3 (fun w' => (∀ i, w'.cell? ⟨wr.heap.size, i, none⟩ = (#[.bool true, .string xc, .int .u64 xn, .int .u64 xt] : Array Value)[i]?)) (first | assumption | go_keep)
          (first
            | (go_at_call 17; with_reducible refine a2.mono ?_; rintro e w6 ⟨rfl, lc6, F6⟩)
            | (go_at_call 16; with_reducible refine b2.mono ?_; rintro e w6 ⟨rfl, lc6, F6⟩)
            | (go_at_call 16; with_reducible refine T1'.out.mono ?_; rintro e w5 ⟨rfl, lc5, a2⟩)
            | (go_at_call 17; with_reducible refine T2'.out.mono ?_; rintro e w5 ⟨rfl, lc5, b2⟩))
        all_goals
          clear T1' T2' lc
          go_wp2
          go_roundw
          case rel => exact ⟨k + 1, m, _, by omega, by omega, by go_num, F6.ls⟩
          case measure => simp [intOf]; omega
    · have hC := clients_named q G M m wr (r.cs.map nm) hLS.qat (by omega) hS.sorted (names_iff hS)
      rw [List.length_map] at hC
      have hC' := Lib.hid hC
      have hR := Lib.hid hLS.rat
      clear hC hLS hS hRk
      go_wp2_with fail
      refine hC'.out.mono ?_
      clear hC'
      rintro e w7 ⟨nv, rfl, hrow, hb7⟩
      have B7 := hB.trans (hb7.mono hz)
      have hR7 := hR.out.keeps (S := fun _ => False) (.of_below hb7) id (fun _ _ => id)
      have qc := hR7.blk.cell
      obtain ⟨p1, c1, rfl⟩ := own_shape hrow
      obtain ⟨p2, c2, rfl⟩ := own_shape hR7.own
      have hrow' := Lib.hid hrow
      have hown' := Lib.hid hR7.own
      clear hrow hR7 hR hB hb7
      go_wp2_with fail
      go_loop [76] (fun i => ∃ j : Nat, j ≤ r.cs.length ∧ i = .int .i64 j) (fun i => r.cs.length - (intOf i).toNat)
      case atStart => exact ⟨0, Nat.zero_le _, rfl⟩
      case round =>
        obtain ⟨j, hj, rfl⟩ := hrel
        by_cases hjl : j < r.cs.length
        · obtain ⟨c, hc⟩ : ∃ c, r.cs[j]? = some c := ⟨_, List.getElem?_eq_getElem hjl⟩
          obtain ⟨g1, rfl⟩ := own_some hrow'.out (by omega)
          obtain ⟨g2, rfl⟩ := own_some hown'.out (by omega)
          have a0 := (hown'.out.cellAt (j * 2) (by omega)).trans (rcells_at _ j c hc).1
          have b0 : w7.cell? ⟨g1, j, none⟩ = some (.string c.1) := by
            rw [hrow'.out.cellAt j (by omega), List.getElem?_map, List.getElem?_map, hc]
            show some (encStr (nm c)) = _
            rw [enc_nm]
          clear hc
          go_wp2
          go_round
          case rel => exact ⟨j + 1, by omega, by go_num⟩
          case measure => simp [intOf]; omega
        · go_wp2
          go_ret
          exact ⟨rfl, B7⟩
end Go.Proofs.Ytgclancneohpbaa
