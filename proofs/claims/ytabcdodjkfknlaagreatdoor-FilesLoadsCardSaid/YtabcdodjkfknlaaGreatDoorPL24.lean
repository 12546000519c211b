/- Walks: which versions may be, the document's way. -/
import Derived.Test.YtabcdodjkfknlaaGreatDoorPL23
import Derived.Test.YtabcdodjkfknlaaGreatDoorPL11
namespace Go.Proofs.YtabcdodjkfknlaaGreatDoor
open Go.RowKit
attribute [local go_sem ↓] dapp_op dslK_op
attribute [local go_sem] Oper.semAt_some
/-- a version's slice of tables is no longer than its room -/
def capOk (v : Value) : Prop := ∀ p n c b1 b2 b3 b4, v = .agg #[.slice p n c, b1, b2, b3, b4] → n ≤ c
set_option maxHeartbeats 4000000 in
set_option maxRecDepth 100000 in
theorem check16_head (v : Value) (x : Ver) (w : World) (h : VerIs w v x) (hb : x.headOk = false) : Calls Tryz.prog 15 #[v] w (ErrPost w 9) := by
  obtain ⟨⟨p, c, rfl, hA⟩, _, _, n1, n2, n3, n4, n5, n6⟩ := h
  rw [headOk_eq] at hb
  obtain ⟨l, fl, hd, lg, nx⟩ := x
  simp only at hb n1 n2 n3 n4 n5 n6 hA ⊢
  have BB := Lib.hid ((Below.refl w.heap.size w).alloc (Nat.le_refl _) (.cells #[.slice p l.length c, .int .u64 fl, .int .u64 hd, .int .i64 lg, .int .i64 nx] 30))
  have hc := (Blk.new w 30 #[.slice p l.length c, .int .u64 fl, .int .u64 hd, .int .i64 lg, .int .i64 nx]).cell
  clear hA
  by_cases t0 : nx < 1
  · clear hb
    go_enter Tryz.func15, Tryz.ntmps15
    go_wp2
    go_ret
    exact ⟨rfl, BB.out⟩
  by_cases t1 : 4611686018427387904 ≤ nx
  · clear hb
    go_enter Tryz.func15, Tryz.ntmps15
    go_wp2
    go_ret
    exact ⟨rfl, BB.out⟩
  by_cases t2 : lg < 0
  · clear hb
    go_enter Tryz.func15, Tryz.ntmps15
    go_wp2
    go_ret
    exact ⟨rfl, BB.out⟩
  by_cases t3 : nx < lg
  · clear hb
    go_enter Tryz.func15, Tryz.ntmps15
    go_wp2
    go_ret
    exact ⟨rfl, BB.out⟩
  by_cases t4 : hd < fl
  · clear hb
    go_enter Tryz.func15, Tryz.ntmps15
    go_wp2
    go_ret
    exact ⟨rfl, BB.out⟩
  have h0 : oddI nx = false := oddI_no.2 (by omega)
  rw [h0] at hb
  simp at hb
  omega
theorem nodup_num {l : List Tbl} {i j : Nat} {t u : Tbl} (h : (l.map Tbl.num).Nodup) (hi : l[i]? = some t) (hj : l[j]? = some u) (hn : t.num = u.num) : i = j := by
  have h1 : (l.map Tbl.num)[i]? = some t.num := by rw [List.getElem?_map, hi]; rfl
  have h2 : (l.map Tbl.num)[j]? = some t.num := by rw [List.getElem?_map, hj, hn]; rfl
  exact (List.getElem?_inj (List.getElem?_eq_some_iff.1 h1).1 h).1 (h1.trans h2.symm)
set_option maxHeartbeats 8000000 in
set_option maxRecDepth 100000 in
theorem check16_tabs (v : Value) (x : Ver) (w : World) (h : VerIs w v x) (hcap : capOk v) (hb : x.headOk = true) : Calls Tryz.prog 15 #[v] w (ErrPost w (if x.ok then 0 else 9)) := by
  obtain ⟨⟨p, c, rfl, hA⟩, hlen, hlang, n1, n2, n3, n4, n5, n6⟩ := h
  have hcap : x.tables.length ≤ c := hcap _ _ _ _ _ _ _ rfl
  have hOk : x.ok = true ↔ (∀ i, i < x.tables.length → stepOk x.next x.tables i = true) ∧ (x.tables.map Tbl.num).Nodup := by
    rw [Ver.ok_iff, hb]; simp
  have hb' := hb
  rw [headOk_eq] at hb
  obtain ⟨l, fl, hd, lg, nx⟩ := x
  simp only at hb n1 n2 n3 n4 n5 n6 hA hlen hlang hOk hcap ⊢
  obtain ⟨E, hE⟩ : ∃ E : Int, (if (Ver.mk l fl hd lg nx).ok = true then (0 : Int) else 9) = E := ⟨_, rfl⟩
  have hbad : ∀ i, i < l.length → stepOk nx l i = false → E = 9 := by
    intro i hi hs
    rw [← hE, if_neg]
    rw [hOk]
    rintro ⟨h, _⟩
    rw [h i hi] at hs; cases hs
  have hdup : ∀ (i j : Nat) (t u : Tbl), l[i]? = some t → l[j]? = some u → i < j → t.num = u.num → E = 9 := by
    intro i j t u hi hj hij he
    rw [← hE, if_neg]
    rw [hOk]
    rintro ⟨_, h⟩
    have := nodup_num h hi hj he
    omega
  have hfin : (∀ i, i < l.length → stepOk nx l i = true) → (l.map Tbl.num).Nodup → E = 0 := by
    intro hs hd
    rw [← hE, if_pos]
    exact hOk.2 ⟨hs, hd⟩
  rw [hE]
  clear hE hOk hb'
  simp only [Bool.and_eq_true, Bool.not_eq_true', decide_eq_true_eq] at hb
  obtain ⟨⟨⟨⟨t0, t1⟩, t2⟩, t3⟩, t4⟩ := hb
  rw [oddI_no] at t1
  have t1b : ¬ 4611686018427387904 ≤ nx := by omega
  have t0b : ¬ nx < 1 := by omega
  have t2b : ¬ lg < 0 := by omega
  have t3b : ¬ nx < lg := by omega
  have t4b : ¬ hd < fl := by omega
  obtain ⟨g, hg⟩ : ∃ g, w.heap.size = g := ⟨_, rfl⟩
  obtain ⟨L, hL⟩ : ∃ L, l.length = L := ⟨_, rfl⟩
  rw [hL] at hlen hcap ⊢
  have hA' := Lib.hid hA
  have hg' := Lib.hid hg
  have hbad' := Lib.hid hbad
  have hdup' := Lib.hid hdup
  have hfin' := Lib.hid hfin
  have hlang' := Lib.hid hlang
  have hL' := Lib.hid hL
  obtain ⟨W1, hW1⟩ : ∃ W1, w.alloc (.cells #[.slice p L c, .int .u64 fl, .int .u64 hd, .int .i64 lg, .int .i64 nx] 30) = W1 := ⟨_, rfl⟩
  have bV : Blk W1 g 30 #[.slice p L c, .int .u64 fl, .int .u64 hd, .int .i64 lg, .int .i64 nx] := by rw [← hW1, ← hg]; exact Blk.new w _ _
  have hB1 : Below w.heap.size w W1 := by rw [← hW1]; exact (Below.refl _ w).alloc (Nat.le_refl _) _
  have hgl : g < W1.heap.size := bV.lt
  have c1 := bV.cell
  have bV' := Lib.hid bV
  have hB1' := Lib.hid hB1
  clear hA hbad hdup hfin hlang hL bV hB1 t0 t1 t2 t3 t4
  go_enter Tryz.func15, Tryz.ntmps15
  go_wp2
  go_loopw [3, 38] (fun _ i wr => ∃ k : Nat, i = .int .i64 k ∧ k ≤ L ∧ Below w.heap.size w wr ∧ Blk wr g 30 #[.slice p L c, .int .u64 fl, .int .u64 hd, .int .i64 lg, .int .i64 nx] ∧ (∀ j, j < k → stepOk nx l j = true) ∧ ((l.take k).map Tbl.num).Nodup) (fun _ i _ => L - (intOf i).toNat)
  case atStart => exact ⟨0, rfl, Nat.zero_le _, hB1'.out, bV'.out, fun j hj => absurd hj (Nat.not_lt_zero _), List.nodup_nil⟩
  case round =>
    clear c1 hB1' bV'
    obtain ⟨k, rfl, hk, hB, hV, hst, hnd⟩ := hrel
    obtain ⟨wo, rfl⟩ : ∃ wo : World, wo = wr := ⟨_, rfl⟩
    by_cases hlt : k < L
    · obtain ⟨t, ht⟩ : ∃ t, l[k]? = some t := ⟨_, List.getElem?_eq_getElem (by rw [hL'.out]; exact hlt)⟩
      obtain ⟨a, b, rfl, hab, hbl, q0, q1, q2, q3, q4⟩ := tbl_at (hA'.out.below hB) ht
      have hTok := Tbl.ok_eq nx t
      have htake : (l.take (k + 1)).map Tbl.num = (l.take k).map Tbl.num ++ [t.num] := by
        obtain ⟨h1, h2⟩ := List.getElem?_eq_some_iff.1 ht
        rw [List.take_succ_eq_append_getElem h1, h2, List.map_append]; rfl
      obtain ⟨tn, tl, tz, tf, ta⟩ := t
      simp only at q0 q1 q2 q3 q4 hTok htake
      obtain ⟨W2, hW2⟩ : ∃ W2, wo.alloc (.cells #[.int .i64 tn, .int .i64 tl, .int .i64 tz, .string tf, .string ta] 76) = W2 := ⟨_, rfl⟩
      have hA1 : Below wo.heap.size wo W2 := by rw [← hW2]; exact (Below.refl wo.heap.size wo).alloc (Nat.le_refl _) _
      have bT : Blk W2 wo.heap.size 76 #[.int .i64 tn, .int .i64 tl, .int .i64 tz, .string tf, .string ta] := by rw [← hW2]; exact Blk.new wo _ _
      have bV2 := hV.below hA1 hV.lt
      have hB2 : Below w.heap.size w W2 := hB.trans (hA1.mono hB.size)
      obtain ⟨T, hT⟩ : ∃ T, wo.heap.size = T := ⟨_, rfl⟩
      rw [hT] at bT
      have hTl := bT.lt
      have vc := bV2.cell
      have tc := bT.cell
      have hVc := hV.cell
      have bT' := Lib.hid bT
      have bV2' := Lib.hid bV2
      have hB2' := Lib.hid hB2
      have hst' := Lib.hid hst
      have ht' := Lib.hid ht
      have hnd' := Lib.hid hnd
      have htake' := Lib.hid htake
      have h9 : (Tbl.mk tn tl tz tf ta).ok nx = false → ErrPost w E (.returned (.int .i64 9)) W2 := fun h => ⟨by rw [hbad'.out k (by rw [hL'.out]; exact hlt) (stepOk_bad ht h)], hB2⟩
      clear hst ht hB hV hA1 bT bV2 hB2 hnd htake
      by_cases s0 : tn < 1
      · have hP := Lib.hid (h9 (by rw [hTok]; simp; omega))
        clear h9 hTok
        go_wp2
        go_ret
        exact hP.out
      by_cases s1 : nx ≤ tn
      · have hP := Lib.hid (h9 (by rw [hTok]; simp; omega))
        clear h9 hTok
        go_wp2
        go_ret
        exact hP.out
      by_cases s2 : tl < 0
      · have hP := Lib.hid (h9 (by rw [hTok]; simp; omega))
        clear h9 hTok
        go_wp2
        go_ret
        exact hP.out
      by_cases s3 : 4 ≤ tl
      · have hP := Lib.hid (h9 (by rw [hTok]; simp; omega))
        clear h9 hTok
        go_wp2
        go_ret
        exact hP.out
      by_cases s4 : tz < 1
      · have hP := Lib.hid (h9 (by rw [hTok]; simp; omega))
        clear h9 hTok
        go_wp2
        go_ret
        exact hP.out
      by_cases s5 : 4611686018427387904 ≤ tz
      · have ho : oddI tz = true := by
          cases hq : oddI tz with
          | true => rfl
          | false => rw [oddI_no] at hq; omega
        have hP := Lib.hid (h9 (by rw [hTok, ho]; simp))
        clear h9 hTok ho
        go_wp2
        go_ret
        exact hP.out
      have ho : oddI tz = false := oddI_no.2 (by omega)
      rw [ho] at hTok
      clear ho
      have hle := leB_gtr tf ta
      rw [hle] at hTok
      clear hle
      cases hs : (!Op.bytesLess tf.toList ta.toList && !(tf.toList == ta.toList))
      rotate_left
      · have hP := Lib.hid (h9 (by rw [hTok, hs]; simp))
        clear h9 hTok
        go_wp2
        go_ret
        exact hP.out
      have hok : (Tbl.mk tn tl tz tf ta).ok nx = true := by
        rw [hTok, hs]
        simp
        omega
      clear h9 hTok
      have hok' := Lib.hid hok
      have hsl := fun W => rkT_ok.low_run (some a) L c k (by omega) W
      have hsl : ∀ W, (dslK 27 (.slice (some a) L c) none (some (.int .i64 k)) none).run Tryz.prog W = .ok (.slice (some a) k c) W := hsl
      clear hok
      go_wp2
      go_loopw [6, 85] (fun _ i wr => ∃ j : Nat, i = .int .i64 j ∧ j ≤ k ∧ Below W2.heap.size W2 wr ∧ ∀ m u, m < j → l[m]? = some u → u.num ≠ tn) (fun _ i _ => k - (intOf i).toNat)
      case atStart => exact ⟨0, rfl, Nat.zero_le _, by rw [← hW2]; exact Below.refl _ _, fun m u hm => absurd hm (Nat.not_lt_zero _)⟩
      case round =>
        obtain ⟨j, rfl, hj, hBi, hne⟩ := hrel
        obtain ⟨wi, rfl⟩ : ∃ wi : World, wi = wr := ⟨_, rfl⟩
        have hne' := Lib.hid hne
        clear hne vc tc hVc hab
        have hB3 := Lib.hid (hB2'.out.trans (hBi.mono hB2'.out.size))
        have bT3 := bT'.out.below hBi bT'.out.lt
        have bV3 := bV2'.out.below hBi bV2'.out.lt
        by_cases hjk : j < k
        · obtain ⟨u, hu⟩ : ∃ u, l[j]? = some u := ⟨_, List.getElem?_eq_getElem (by rw [hL'.out]; omega)⟩
          obtain ⟨a', b', ea, hab', hbl', r0, r1, r2, r3, r4⟩ := tbl_at (hA'.out.below hB3.out) hu
          obtain rfl : a = a' := Option.some.inj ea
          have tc3 := bT3.cell
          have hTl3 := bT3.lt
          have hBi' := Lib.hid hBi
          have hu' := Lib.hid hu
          have n1 : 0 < k := by omega
          obtain ⟨un, ul, uz, uf, ua⟩ := u
          simp only at r0 r1 r2 r3 r4
          have hfinB : Hid (Below w.heap.size w (wi.alloc (.cells #[.int .i64 un, .int .i64 ul, .int .i64 uz, .string uf, .string ua] 76))) := Lib.hid (hB3.out.alloc hB3.out.size _)
          clear hBi hu ea bT3 bV3
          by_cases he : un = tn
          · subst he
            have hE9 : E = 9 := hdup'.out j k _ _ hu'.out ht'.out hjk rfl
            subst hE9
            go_wp2
            go_ret
            exact ⟨rfl, hfinB.out⟩
          · have t5 : (un == tn) = false := by simpa using he
            have hnx : Hid (∀ m u, m < j + 1 → l[m]? = some u → u.num ≠ tn) := Lib.hid (by
              intro m u hm hu
              by_cases e : m = j
              · subst e
                have := hu.symm.trans hu'.out
                obtain rfl := Option.some.inj this
                exact he
              · exact hne'.out m u (by omega) hu)
            clear he
            go_wp2
            go_roundw
            case rel => exact ⟨j + 1, by go_num, by omega, hBi'.out.alloc hBi'.out.size _, hnx.out⟩
            case measure => simp [intOf]; omega
        · obtain rfl : j = k := by omega
          have hnd2 : Hid (((l.take (j + 1)).map Tbl.num).Nodup) := Lib.hid (by
            rw [htake'.out, List.nodup_append]
            refine ⟨hnd'.out, by simp, fun x hx y hy => ?_⟩
            simp at hy
            subst hy
            obtain ⟨u, hu, rfl⟩ := List.mem_map.1 hx
            obtain ⟨m, hm, hmu⟩ := List.getElem_of_mem hu
            rw [List.length_take] at hm
            refine hne'.out m u (by omega) ?_
            rw [List.getElem_take] at hmu
            rw [List.getElem?_eq_getElem (by omega), hmu])
          have tc3 := bT3.cell
          have vc3 := bV3.cell
          have hTl3 := bT3.lt
          have hVl3 := bV3.lt
          have bT3' := Lib.hid bT3
          have bV3' := Lib.hid bV3
          clear hBi bT3 bV3
          by_cases hk0 : j = 0
          · have z1 : ((j : Int) == 0) = true := by simp [hk0]
            have hst2 : Hid (∀ m, m < j + 1 → stepOk nx l m = true) := Lib.hid (by
              intro m hm
              obtain rfl : m = 0 := by omega
              subst hk0
              rw [stepOk_zero ht'.out]; exact hok'.out)
            clear hk0
            go_wp2
            go_roundw
            case rel => exact ⟨j + 1, by go_num, hlt, hB3.out, bV3'.out, hst2.out, hnd2.out⟩
            case measure => simp [intOf]; omega
          · have z1 : ((j : Int) == 0) = false := by simp; omega
            obtain ⟨m, rfl⟩ : ∃ m, j = m + 1 := ⟨j - 1, by omega⟩
            have hcast : (((m + 1 : Nat) : Int)) = (m : Int) + 1 := by omega
            have hsub : (m : Int) + 1 - 1 = (m : Int) := by omega
            obtain ⟨u, hu⟩ : ∃ u, l[m]? = some u := ⟨_, List.getElem?_eq_getElem (by rw [hL'.out]; omega)⟩
            have hlt2 : m < L := by omega
            obtain ⟨a', b', ea, hab', hbl', r0, r1, r2, r3, r4⟩ := tbl_at (hA'.out.below hB3.out) hu
            obtain rfl : a = a' := Option.some.inj ea
            have hst1 := stepOk_succ (n := nx) ht'.out hu
            rw [hok'.out, Bool.true_and] at hst1
            have hP : pairOk u ⟨tn, tl, tz, tf, ta⟩ = (decide (ordT u ⟨tn, tl, tz, tf, ta⟩ < 0) && !(decide (u.level = tl) && decide (0 < tl) && !ltB u.last tf)) := rfl
            have hO := fun W => less16_calls u ⟨tn, tl, tz, tf, ta⟩ W
            obtain ⟨un, ul, uz, uf, ua⟩ := u
            simp only at r0 r1 r2 r3 r4 hP
            simp only [Tbl.arg] at hO
            obtain ⟨W4, hW4⟩ : ∃ W4, wi.alloc (.cells #[.int .i64 un, .int .i64 ul, .int .i64 uz, .string uf, .string ua] 76) = W4 := ⟨_, rfl⟩
            have hA3 : Below wi.heap.size wi W4 := by rw [← hW4]; exact (Below.refl wi.heap.size wi).alloc (Nat.le_refl _) _
            obtain ⟨U, hU⟩ : ∃ U, wi.heap.size = U := ⟨_, rfl⟩
            have bU : Blk W4 U 76 #[.int .i64 un, .int .i64 ul, .int .i64 uz, .string uf, .string ua] := by rw [← hW4, ← hU]; exact Blk.new wi _ _
            have bT4 := bT3'.out.below hA3 bT3'.out.lt
            have bV4 := bV3'.out.below hA3 bV3'.out.lt
            have hB4 := hB3.out.trans (hA3.mono hB3.out.size)
            have uc := bU.cell
            have tc4 := bT4.cell
            have hO' := Lib.hid hO
            have hst1' := Lib.hid hst1
            have hP' := Lib.hid hP
            have bU' := Lib.hid bU
            have bT4' := Lib.hid bT4
            have bV4' := Lib.hid bV4
            have hB4' := Lib.hid hB4
            clear hO hst1 hP bU bT4 bV4 hB4 hu ea hk0 hA3
            go_wp2_with fail
            with_reducible refine (hO'.out _).mono ?_
            rintro e w5 ⟨rfl, hB5⟩
            have uc5 := (bU'.out.below hB5 bU'.out.lt).cell
            have tc5 := (bT4'.out.below hB5 bT4'.out.lt).cell
            have bV5' := Lib.hid (bV4'.out.below hB5 bV4'.out.lt)
            have hB6 := Lib.hid (hB4'.out.trans (hB5.mono hB4'.out.size))
            clear hB5 uc tc4 hO'
            have hbad2 : pairOk ⟨un, ul, uz, uf, ua⟩ ⟨tn, tl, tz, tf, ta⟩ = false → E = 9 := fun h => hbad'.out (m + 1) (by rw [hL'.out]; exact hlt) (by rw [hst1'.out, h])
            have hgood : pairOk ⟨un, ul, uz, uf, ua⟩ ⟨tn, tl, tz, tf, ta⟩ = true → ∀ j, j < m + 1 + 1 → stepOk nx l j = true := by
              intro h j hj
              by_cases e : j = m + 1
              · rw [e, hst1'.out, h]
              · exact hst'.out j (by omega)
            generalize ordT ⟨un, ul, uz, uf, ua⟩ ⟨tn, tl, tz, tf, ta⟩ = co at *
            by_cases s1 : 0 ≤ co
            · have s1' : ¬ co < 0 := by omega
              have h9 := hbad2 (by rw [hP'.out]; simp [s1'])
              subst h9
              have s1n : decide (co < 0) = false := by simpa using s1
              clear hgood hbad2 s1 s1'
              go_wp2
              go_ret
              exact ⟨rfl, hB6.out⟩
            · have s1' : co < 0 := by omega
              have s1n : decide (co < 0) = true := by simpa using s1'
              cases s2 : (ul == tl)
              · have s2' : ul ≠ tl := by simpa using s2
                have hst2' := Lib.hid (hgood (by rw [hP'.out]; simp [s1', s2']))
                clear hgood hbad2 s2' s1'
                go_wp2
                go_roundw
                case rel => exact ⟨m + 1 + 1, by go_num, hlt, hB6.out, bV5'.out, hst2'.out, hnd2.out⟩
                case measure => simp [intOf]; omega
              · have s2' : ul = tl := by simpa using s2
                have s2n := Lib.hid s2'
                by_cases s3 : 0 < tl
                · cases s4 : Op.bytesLess ua.toList tf.toList
                  · clear s2'
                    have h9 := hbad2 (by rw [hP'.out]; simp [s1', s2n.out, s3, ltB, s4])
                    subst h9
                    clear hgood hbad2 s1'
                    go_wp2
                    go_ret
                    exact ⟨rfl, hB6.out⟩
                  · clear s2'
                    have hst2' := Lib.hid (hgood (by rw [hP'.out]; simp [s1', s2n.out, s3, ltB, s4]))
                    clear hgood hbad2 s1'
                    go_wp2
                    go_roundw
                    case rel => exact ⟨m + 1 + 1, by go_num, hlt, hB6.out, bV5'.out, hst2'.out, hnd2.out⟩
                    case measure => simp [intOf]; omega
                · have s3' : ¬ 0 < tl := s3
                  clear s2'
                  have hst2' := Lib.hid (hgood (by rw [hP'.out]; simp [s1', s2n.out, s3]))
                  clear hgood hbad2 s1'
                  go_wp2
                  go_roundw
                  case rel => exact ⟨m + 1 + 1, by go_num, hlt, hB6.out, bV5'.out, hst2'.out, hnd2.out⟩
                  case measure => simp [intOf]; omega
    · obtain rfl : k = L := by omega
      have hE : E = 0 := hfin'.out (fun i hi => hst i (by rw [← hL'.out]; exact hi)) (by rwa [List.take_of_length_le (Nat.le_of_eq hL'.out)] at hnd)
      subst hE
      have hB' := Lib.hid hB
      clear hV hB hst hnd
      go_wp2
      go_ret
      exact ⟨rfl, hB'.out⟩
theorem check16_calls (v : Value) (x : Ver) (w : World) (h : VerIs w v x) (hcap : capOk v) : Calls Tryz.prog 15 #[v] w (ErrPost w (if x.ok then 0 else 9)) := by
  cases hb : x.headOk with
  | true => exact check16_tabs v x w h hcap hb
  | false =>
    have e : x.ok = false := by
      cases ho : x.ok with
      | false => rfl
      | true => rw [(Ver.ok_iff.1 ho).1] at hb; cases hb
    rw [e]
    exact check16_head v x w h hb
end Go.Proofs.YtabcdodjkfknlaaGreatDoor
