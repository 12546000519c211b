/- Walks: which versions may be: the tables. Apply: tables by their numbers, as a map tells them. Apply: its memory. The keys of a map of a call's own, collected in some order. No program in sight. Apply: tables taken out of a map, one by one. Contracts of slices.SortFunc over objects, laid at this translation by a program of the kit; each under the premises that it states. -/
import Derived.Test.YtabcdodjkfknlaaGreatDoorPN17
import Derived.WalkLawsBesides
import Derived.Test.YtabcdodjkfknlaaGreatDoorPN15
import Derived.Maps.Range
import Derived.Maps.RangeWalk
import Derived.Shelf.SlSortCmp.WholeK
import Derived.Test.YtabcdodjkfknlaaGreatDoorProg
namespace Go.Proofs.YtabcdodjkfknlaaGreatDoor
open Go.RowKit Go.Maps
attribute [local go_sem] Oper.semAt_some
theorem leB_gtr (a b : ByteArray) : leB a b = !(!Op.bytesLess a.toList b.toList && !(a.toList == b.toList)) := by
  have e1 : Op.bytesLess b.toList a.toList = decide (- Lib.compareBytes a.data.toList b.data.toList = -1) := by
    rw [Lib.toList_data, Lib.toList_data, cb_less, cb_flip a.data.toList b.data.toList]
  unfold leB
  rw [e1]
  rcases cb_three a.data.toList b.data.toList with h | h | h
  · rw [less_n (by rw [h]; decide), eq_y h, h]; rfl
  · rw [less_m h, h]; rfl
  · rw [less_n (by rw [h]; decide), eq_n (by rw [h]; decide), h]; rfl
theorem stepOk_bad {n : Int} {l : List Tbl} {k : Nat} {t : Tbl} (h : l[k]? = some t) (ht : t.ok n = false) : stepOk n l k = false := by
  unfold stepOk; simp only [h, ht, Bool.false_and]
theorem stepOk_zero {n : Int} {l : List Tbl} {t : Tbl} (h : l[0]? = some t) : stepOk n l 0 = t.ok n := by
  unfold stepOk; simp only [h]; simp
theorem stepOk_succ {n : Int} {l : List Tbl} {k : Nat} {t u : Tbl} (h : l[k + 1]? = some t) (hu : l[k]? = some u) : stepOk n l (k + 1) = (t.ok n && pairOk u t) := by
  unfold stepOk; simp only [h, Nat.add_sub_cancel, hu]; simp
theorem Tbl.ok_eq (n : Int) (t : Tbl) : t.ok n = (decide (1 ≤ t.num) && decide (t.num < n) && decide (0 ≤ t.level) && decide (t.level < 4) && decide (1 ≤ t.size) && !oddI t.size && leB t.first t.last) := rfl
set_option maxHeartbeats 8000000 in
set_option maxRecDepth 100000 in
theorem check_tabs (v : Value) (x : Ver) (w : World) (h : VerIs w v x) (hb : x.headOk = true) : Calls Tryz.prog 41 #[v] w (ErrPost w (if x.ok then 0 else 9)) := by
  obtain ⟨⟨p, c, rfl, hA⟩, hlen, hlang, n1, n2, n3, n4, n5, n6⟩ := h
  have hOk : x.ok = true ↔ (∀ i, i < x.tables.length → stepOk x.next x.tables i = true) ∧ (x.tables.map Tbl.num).Nodup := by
    rw [Ver.ok_iff, hb]; simp
  have hb' := hb
  rw [headOk_eq] at hb
  obtain ⟨l, fl, hd, lg, nx⟩ := x
  simp only at hb n1 n2 n3 n4 n5 n6 hA hlen hlang hOk ⊢
  obtain ⟨E, hE⟩ : ∃ E : Int, (if (Ver.mk l fl hd lg nx).ok = true then (0 : Int) else 9) = E := ⟨_, rfl⟩
  have hbad : ∀ i, i < l.length → stepOk nx l i = false → E = 9 := by
    intro i hi hs
    rw [← hE, if_neg]
    rw [hOk]
    rintro ⟨h, _⟩
    rw [h i hi] at hs; cases hs
  have hfin : (∀ i, i < l.length → stepOk nx l i = true) → ∀ n, n ≤ l.length → (n = l.length ↔ (l.map Tbl.num).Nodup) → E = if n < l.length then 9 else 0 := by
    intro hs n hn hd
    rw [← hE]
    by_cases hc : n < l.length
    · rw [if_pos hc, if_neg]
      rw [hOk]; rintro ⟨_, h⟩
      have := hd.2 h; omega
    · rw [if_neg hc, if_pos]
      exact hOk.2 ⟨hs, hd.1 (by omega)⟩
  rw [hE]
  clear hE hOk hb'
  simp only [Bool.and_eq_true, Bool.not_eq_true', decide_eq_true_eq] at hb
  obtain ⟨⟨⟨⟨t0, t1⟩, t2⟩, t3⟩, t4⟩ := hb
  have hodd := Lib.hid (fun w => odd_calls nx w n5 n6)
  rw [t1] at hodd
  have d0 : decide (nx < 1) = false := by simpa using t0
  have d2 : decide (lg < 0) = false := by simpa using t2
  have d3 : decide (nx < lg) = false := by simpa using t3
  have d4 : decide (hd < fl) = false := by simpa using t4
  obtain ⟨g, hg⟩ : ∃ g, w.heap.size = g := ⟨_, rfl⟩
  have bV := (Blk.new w 30 #[.slice p l.length c, .int .u64 fl, .int .u64 hd, .int .i64 lg, .int .i64 nx])
  have B0 := ((Below.refl w.heap.size w).alloc (Nat.le_refl _) (.cells #[.slice p l.length c, .int .u64 fl, .int .u64 hd, .int .i64 lg, .int .i64 nx] 30))
  have sM := SetAt.made (w.alloc (.cells #[.slice p l.length c, .int .u64 fl, .int .u64 hd, .int .i64 lg, .int .i64 nx] 30))
  have bV1 := bV.alloc (.map #[] 0)
  have B1 := Lib.hid (B0.alloc B0.size (.map #[] 0))
  rw [World.size_alloc] at sM
  rw [hg] at bV bV1 sM
  have hc0 := bV.cell
  have hc1 := bV1.cell
  have sM' := Lib.hid sM
  have bV1' := Lib.hid bV1
  have hmm := @run_makeMap Tryz.prog
  have hA' := Lib.hid hA
  have hg' := Lib.hid hg
  have hbad' := Lib.hid hbad
  have hfin' := Lib.hid hfin
  have hlang' := Lib.hid hlang
  obtain ⟨L, hL⟩ : ∃ L, l.length = L := ⟨_, rfl⟩
  rw [hL] at hc0 hc1 bV1' B1 sM' hlen ⊢
  clear bV bV1 B0 sM hA hbad hfin hlang
  have hL' := Lib.hid hL
  clear hL
  go_enter Tryz.func41, Tryz.ntmps41
  go_wp2_with (go_at_call 86; (with_reducible refine (hodd.out _).mono ?_); rintro e w1 ⟨rfl, rfl⟩)
  go_loopw [38] (fun i wr => ∃ (k n : Nat), i = .int .i64 k ∧ k ≤ L ∧ Below w.heap.size w wr ∧ SetAt wr (g + 1) n ((l.take k).map Tbl.num) ∧ Blk wr g 30 #[.slice p L c, .int .u64 fl, .int .u64 hd, .int .i64 lg, .int .i64 nx] ∧ ∀ j, j < k → stepOk nx l j = true) (fun i _ => L - (intOf i).toNat)
  case atStart => exact ⟨0, 0, rfl, Nat.zero_le _, B1.out, sM'.out, bV1'.out, fun j hj => absurd hj (Nat.not_lt_zero _)⟩
  case round =>
    clear hc0 hc1 B1 sM' bV1' hodd hmm
    obtain ⟨k, n, rfl, hk, hB, hS, hV, hst⟩ := hrel
    by_cases hlt : k < L
    · obtain ⟨t, ht⟩ : ∃ t, l[k]? = some t := ⟨_, List.getElem?_eq_getElem (by rw [hL'.out]; exact hlt)⟩
      obtain ⟨a, b, rfl, hab, hbl, q0, q1, q2, q3, q4⟩ := tbl_at (hA'.out.below hB) ht
      obtain ⟨g1, g2, g3, g4, g5, g6⟩ := hlang'.out t (List.mem_of_getElem? ht)
      have hTok := Tbl.ok_eq nx t
      have htake : (l.take (k + 1)).map Tbl.num = (l.take k).map Tbl.num ++ [t.num] := by
        obtain ⟨h1, h2⟩ := List.getElem?_eq_some_iff.1 ht
        rw [List.take_succ_eq_append_getElem h1, h2, List.map_append]; rfl
      have hlen2 : ((l.take k).map Tbl.num).length ≤ 1000000 := by rw [List.length_map, List.length_take]; omega
      obtain ⟨tn, tl, tz, tf, ta⟩ := t
      simp only at g1 g2 g3 g4 g5 g6 q0 q1 q2 q3 q4 hTok htake
      have hA1 := (Below.refl wr.heap.size wr).alloc (Nat.le_refl _) (.cells #[.int .i64 tn, .int .i64 tl, .int .i64 tz, .string tf, .string ta] 76)
      have bT := Blk.new wr 76 #[.int .i64 tn, .int .i64 tl, .int .i64 tz, .string tf, .string ta]
      have hml := hS.1.lt
      obtain ⟨w2, n2, hr, hS2, hk2⟩ := (hS.later hA1).put g1 g2 hlen2
      rw [← htake] at hS2
      have bT2 := bT.keeps hk2 (by show wr.heap.size ≠ g + 1; omega)
      have hgm : g ≠ g + 1 := by omega
      have bV2 := (hV.below hA1 hV.lt).keeps hk2 hgm
      have hB2 : Below w.heap.size w w2 := Keeps.below_step (hB.alloc hB.size _) (hB.alloc hB.size _).size hk2 (fun j e => by rw [hg'.out]; omega)
      have vc := bV2.cell
      have tc := bT2.cell
      have hoz := Lib.hid (fun w => odd_calls tz w g5 g6)
      have hS2' := Lib.hid hS2
      have bT2' := Lib.hid bT2
      have bV2' := Lib.hid bV2
      have hB2' := Lib.hid hB2
      have hst' := Lib.hid hst
      have ht' := Lib.hid ht
      have h9 : (Tbl.mk tn tl tz tf ta).ok nx = false → ErrPost w E (.returned (.int .i64 9)) w2 := fun h => ⟨by rw [hbad'.out k (by rw [hL'.out]; exact hlt) (stepOk_bad ht h)], hB2⟩
      have hcl : k < wr.heap.size ∨ True := .inr trivial
      have hVc := hV.cell
      clear hst ht hB hS hV hA1 bT bT2 bV2 hB2 hS2 hk2 htake hlen2 hcl
      by_cases s0 : tn < 1
      · have hP := Lib.hid (h9 (by rw [hTok]; simp; omega))
        clear h9 hTok
        go_wp2_with (go_at_call 86; (with_reducible refine (hoz.out _).mono ?_); rintro e w1 ⟨rfl, rfl⟩)
        go_ret
        exact hP.out
      by_cases s1 : nx ≤ tn
      · have hP := Lib.hid (h9 (by rw [hTok]; simp; omega))
        clear h9 hTok
        go_wp2_with (go_at_call 86; (with_reducible refine (hoz.out _).mono ?_); rintro e w1 ⟨rfl, rfl⟩)
        go_ret
        exact hP.out
      by_cases s2 : tl < 0
      · have hP := Lib.hid (h9 (by rw [hTok]; simp; omega))
        clear h9 hTok
        go_wp2_with (go_at_call 86; (with_reducible refine (hoz.out _).mono ?_); rintro e w1 ⟨rfl, rfl⟩)
        go_ret
        exact hP.out
      by_cases s3 : 4 ≤ tl
      · have hP := Lib.hid (h9 (by rw [hTok]; simp; omega))
        clear h9 hTok
        go_wp2_with (go_at_call 86; (with_reducible refine (hoz.out _).mono ?_); rintro e w1 ⟨rfl, rfl⟩)
        go_ret
        exact hP.out
      by_cases s4 : tz < 1
      · have hP := Lib.hid (h9 (by rw [hTok]; simp; omega))
        clear h9 hTok
        go_wp2_with (go_at_call 86; (with_reducible refine (hoz.out _).mono ?_); rintro e w1 ⟨rfl, rfl⟩)
        go_ret
        exact hP.out
      generalize ho : oddI tz = o at *
      rcases o with _ | _
      rotate_left
      · have hP := Lib.hid (h9 (by rw [hTok]; simp))
        clear h9 hTok ho
        go_wp2_with (go_at_call 86; (with_reducible refine (hoz.out _).mono ?_); rintro e w1 ⟨rfl, rfl⟩)
        go_ret
        exact hP.out
      have hle := leB_gtr tf ta
      rw [hle] at hTok
      clear hle
      cases hs : (!Op.bytesLess tf.toList ta.toList && !(tf.toList == ta.toList))
      rotate_left
      · have hP := Lib.hid (h9 (by rw [hTok, hs]; simp))
        clear h9 hTok
        go_wp2_with (go_at_call 86; (with_reducible refine (hoz.out _).mono ?_); rintro e w1 ⟨rfl, rfl⟩)
        go_ret
        exact hP.out
      have hok : (Tbl.mk tn tl tz tf ta).ok nx = true := by
        rw [hTok, hs]
        simp
        omega
      clear h9 hTok ho
      by_cases hk0 : k = 0
      · have z1 : ((k : Int) == 0) = true := by simp [hk0]
        have hst2 : ∀ j, j < k + 1 → stepOk nx l j = true := by
          intro j hj
          by_cases e : j = k
          · subst hk0; rw [e, stepOk_zero ht'.out]; exact hok
          · exact hst'.out j (by omega)
        have hst2' := Lib.hid hst2
        clear hk0 hst2 hok
        go_wp2_with (go_at_call 86; (with_reducible refine (hoz.out _).mono ?_); rintro e w1 ⟨rfl, rfl⟩)
        go_roundw
        case rel => exact ⟨k + 1, n2, by go_num, hlt, hB2'.out, hS2'.out, bV2'.out, hst2'.out⟩
        case measure => simp [intOf]; omega
      · have z1 : ((k : Int) == 0) = false := by simp; omega
        obtain ⟨m, rfl⟩ : ∃ m, k = m + 1 := ⟨k - 1, by omega⟩
        have hcast : (((m + 1 : Nat) : Int)) = (m : Int) + 1 := by omega
        have hsub : (m : Int) + 1 - 1 = (m : Int) := by omega
        obtain ⟨u, hu⟩ : ∃ u, l[m]? = some u := ⟨_, List.getElem?_eq_getElem (by rw [hL'.out]; omega)⟩
        have hlt2 : m < L := by omega
        obtain ⟨a', b', ea, hab', hbl', r0, r1, r2, r3, r4⟩ := tbl_at (hA'.out.below hB2'.out) hu
        obtain rfl : a = a' := Option.some.inj ea
        have hst1 := stepOk_succ (n := nx) ht'.out hu
        rw [hok, Bool.true_and] at hst1
        have hP : pairOk u ⟨tn, tl, tz, tf, ta⟩ = (decide (ordT u ⟨tn, tl, tz, tf, ta⟩ < 0) && !(decide (u.level = tl) && decide (0 < tl) && !ltB u.last tf)) := rfl
        have hO := fun W => order_dr u ⟨tn, tl, tz, tf, ta⟩ W
        obtain ⟨un, ul, uz, uf, ua⟩ := u
        simp only at r0 r1 r2 r3 r4 hP
        simp only [Tbl.v] at hO
        have hA3 := (Below.refl w2.heap.size w2).alloc (Nat.le_refl _) (.cells #[.int .i64 un, .int .i64 ul, .int .i64 uz, .string uf, .string ua] 76)
        have bU := Blk.new w2 76 #[.int .i64 un, .int .i64 ul, .int .i64 uz, .string uf, .string ua]
        have bT3 := bT2'.out.below hA3 bT2'.out.lt
        have bV3 := bV2'.out.below hA3 bV2'.out.lt
        have hS3 := hS2'.out.later hA3
        have hB3 := hB2'.out.alloc hB2'.out.size (.cells #[.int .i64 un, .int .i64 ul, .int .i64 uz, .string uf, .string ua] 76)
        have uc := bU.cell
        have z2 := bT2'.out.lt
        have z3 := bV2'.out.lt
        have hO' := Lib.hid hO
        have hst1' := Lib.hid hst1
        have hP' := Lib.hid hP
        have bU' := Lib.hid bU
        have bT3' := Lib.hid bT3
        have bV3' := Lib.hid bV3
        have hS3' := Lib.hid hS3
        have hB3' := Lib.hid hB3
        generalize ordT ⟨un, ul, uz, uf, ua⟩ ⟨tn, tl, tz, tf, ta⟩ = co at *
        clear hO hst1 hP bU bT3 bV3 hS3 hB3 hu ea hok hk0 hA3
        go_wp2_with (go_at_call 86; (with_reducible refine (hoz.out _).mono ?_); rintro e w1 ⟨rfl, rfl⟩)
        with_reducible refine (hO'.out _).mono ?_
        rintro e w4 ⟨rfl, hB4, _⟩
        have bU4 := bU'.out.below hB4 bU'.out.lt
        have bT4 := bT3'.out.below hB4 bT3'.out.lt
        have bV4 := bV3'.out.below hB4 bV3'.out.lt
        have hS4 := Lib.hid (hS3'.out.later hB4)
        have hB5 := Lib.hid (hB3'.out.trans (hB4.mono hB3'.out.size))
        have uc4 := bU4.cell
        have tc4 := bT4.cell
        have vc4 := bV4.cell
        have bV4' := Lib.hid bV4
        clear uc tc vc hB4 bU4 bT4 bV4 r0 r1 r2 r3 r4 q0 q1 q2 q3 q4 hr hO'
        have hbad2 : pairOk ⟨un, ul, uz, uf, ua⟩ ⟨tn, tl, tz, tf, ta⟩ = false → E = 9 := fun h => hbad'.out (m + 1) (by rw [hL'.out]; exact hlt) (by rw [hst1'.out, h])
        have hgood : pairOk ⟨un, ul, uz, uf, ua⟩ ⟨tn, tl, tz, tf, ta⟩ = true → ∀ j, j < m + 1 + 1 → stepOk nx l j = true := by
          intro h j hj
          by_cases e : j = m + 1
          · rw [e, hst1'.out, h]
          · exact hst'.out j (by omega)
        by_cases s1 : 0 ≤ co
        · have s1' : ¬ co < 0 := by omega
          have h9 := hbad2 (by rw [hP'.out]; simp [s1'])
          subst h9
          clear hgood hbad2
          go_wp2
          go_ret
          exact ⟨rfl, hB5.out⟩
        · have s1' : co < 0 := by omega
          have s1n : decide (0 ≤ co) = false := by simp; omega
          cases s2 : (ul == tl)
          · have s2' : ul ≠ tl := by simpa using s2
            have hst2' := Lib.hid (hgood (by rw [hP'.out]; simp [s1', s2']))
            clear hgood hbad2
            go_wp2
            go_roundw
            case rel => exact ⟨m + 1 + 1, n2, by go_num, hlt, hB5.out, hS4.out, bV4'.out, hst2'.out⟩
            case measure => simp [intOf]; omega
          · have s2' : ul = tl := by simpa using s2
            have s2n := Lib.hid s2'
            by_cases s3 : 0 < tl
            · cases s4 : Op.bytesLess ua.toList tf.toList
              · clear s2'
                have h9 := hbad2 (by rw [hP'.out]; simp [s1', s2n.out, s3, ltB, s4])
                subst h9
                clear hgood hbad2
                go_wp2
                go_ret
                exact ⟨rfl, hB5.out⟩
              · clear s2'
                have hst2' := Lib.hid (hgood (by rw [hP'.out]; simp [s1', s2n.out, s3, ltB, s4]))
                clear hgood hbad2
                go_wp2
                go_roundw
                case rel => exact ⟨m + 1 + 1, n2, by go_num, hlt, hB5.out, hS4.out, bV4'.out, hst2'.out⟩
                case measure => simp [intOf]; omega
            · have s3' : ¬ 0 < tl := s3
              clear s2'
              have hst2' := Lib.hid (hgood (by rw [hP'.out]; simp [s1', s2n.out, s3]))
              clear hgood hbad2
              go_wp2
              go_roundw
              case rel => exact ⟨m + 1 + 1, n2, by go_num, hlt, hB5.out, hS4.out, bV4'.out, hst2'.out⟩
              case measure => simp [intOf]; omega
    · obtain rfl : k = L := by omega
      have hm := fun ty => hS.1.len Tryz.underlying134 ty
      have hvc := hV.cell
      have hE : E = if n < k then 9 else 0 := by
        have e1 : l.take k = l := List.take_of_length_le (Nat.le_of_eq hL'.out)
        have := hS.2
        rw [e1, List.length_map] at this
        have h2 := hfin'.out (fun i hi => hst i (by rw [← hL'.out]; exact hi)) n this.1 this.2
        rw [hL'.out] at h2
        exact h2
      have hB' := Lib.hid hB
      clear hS hV hB hst
      by_cases hn : n < k
      · rw [if_pos hn] at hE
        subst hE
        go_wp2
        go_ret
        exact ⟨rfl, hB'.out⟩
      · rw [if_neg hn] at hE
        subst hE
        go_wp2
        go_ret
        exact ⟨rfl, hB'.out⟩
theorem check_calls (v : Value) (x : Ver) (w : World) (h : VerIs w v x) : Calls Tryz.prog 41 #[v] w (ErrPost w (if x.ok then 0 else 9)) := by
  cases hb : x.headOk with
  | true => exact check_tabs v x w h hb
  | false =>
    have e : x.ok = false := by
      cases ho : x.ok with
      | false => rfl
      | true => rw [(Ver.ok_iff.1 ho).1] at hb; cases hb
    rw [e]
    exact check_head v x w h hb
end Go.Proofs.YtabcdodjkfknlaaGreatDoor
namespace Go.Proofs.YtabcdodjkfknlaaGreatDoor
open Go.RowKit Go.Maps
/-- the table of a number -/
def getT_ (l : List Tbl) (n : Int) : Option Tbl := l.find? fun t => decide (t.num = n)
noncomputable def tabf (l : List Tbl) (kv : Value) : Option Value := open Classical in if h : ∃ n, kv = .int .i64 n then (getT_ l h.choose).map Tbl.v else none
theorem tabf_int (l : List Tbl) (n : Int) : tabf l (.int .i64 n) = (getT_ l n).map Tbl.v := by
  have h : ∃ m, Value.int .i64 n = .int .i64 m := ⟨n, rfl⟩
  unfold tabf
  rw [dif_pos h]
  have e := h.choose_spec
  injection e with _ e
  rw [← e]
theorem tabf_not (l : List Tbl) {kv : Value} (h : ¬ ∃ n, kv = .int .i64 n) : tabf l kv = none := by unfold tabf; rw [dif_neg h]
theorem tabf_nil : tabf [] = fun _ => none := by
  funext kv
  by_cases h : ∃ n, kv = .int .i64 n
  · obtain ⟨n, rfl⟩ := h; rw [tabf_int]; rfl
  · exact tabf_not _ h
theorem getT_put {l : List Tbl} {t : Tbl} (h : ∀ u ∈ l, u.num ≠ t.num) (n : Int) : getT_ (l ++ [t]) n = if n = t.num then some t else getT_ l n := by
  unfold getT_
  rw [List.find?_append]
  by_cases e : n = t.num
  · subst e
    rw [if_pos rfl, List.find?_eq_none.2 (fun u hu => by simpa using h u hu)]
    simp
  · rw [if_neg e]
    have : ¬ t.num = n := fun e' => e e'.symm
    simp [this]
theorem getT_drop (l : List Tbl) (n m : Int) : getT_ (l.filter fun t => !decide (t.num = n)) m = if m = n then none else getT_ l m := by
  unfold getT_
  by_cases e : m = n
  · subst e
    rw [if_pos rfl]
    exact List.find?_eq_none.2 fun u hu => by simpa using (List.mem_filter.1 hu).2
  · rw [if_neg e]
    induction l with
    | nil => rfl
    | cons t l ih =>
      by_cases h1 : t.num = n
      · have h2 : ¬ t.num = m := fun h => e (h.symm.trans h1)
        rw [List.filter_cons_of_neg (by simp [h1]), List.find?_cons_of_neg (by simp [h2])]
        exact ih
      · rw [List.filter_cons_of_pos (by simp [h1])]
        by_cases h2 : t.num = m
        · rw [List.find?_cons_of_pos (by simp [h2]), List.find?_cons_of_pos (by simp [h2])]
        · rw [List.find?_cons_of_neg (by simp [h2]), List.find?_cons_of_neg (by simp [h2])]
          exact ih
theorem getT_any (l : List Tbl) (n : Int) : (getT_ l n).isSome = l.any fun t => decide (t.num = n) := by
  unfold getT_
  induction l with
  | nil => rfl
  | cons t l ih =>
    by_cases h : t.num = n
    · rw [List.find?_cons_of_pos (by simp [h])]; simp [h]
    · rw [List.find?_cons_of_neg (by simp [h]), ih]; simp [h]
theorem tabf_put {l : List Tbl} {t : Tbl} (h : ∀ u ∈ l, u.num ≠ t.num) : putV (tabf l) (.int .i64 t.num) t.v = tabf (l ++ [t]) := by
  funext kv
  by_cases e : kv = .int .i64 t.num
  · subst e
    rw [putV_same, tabf_int, getT_put h, if_pos rfl]; rfl
  · rw [putV_other e]
    by_cases hn : ∃ n, kv = .int .i64 n
    · obtain ⟨n, rfl⟩ := hn
      rw [tabf_int, tabf_int, getT_put h, if_neg (fun h' => e (by rw [h']))]
    · rw [tabf_not _ hn, tabf_not _ hn]
theorem tabf_drop (l : List Tbl) (n : Int) : delV (tabf l) (.int .i64 n) = tabf (l.filter fun t => !decide (t.num = n)) := by
  funext kv
  by_cases e : kv = .int .i64 n
  · subst e
    rw [delV_same, tabf_int, getT_drop, if_pos rfl]; rfl
  · rw [delV_other e]
    by_cases hn : ∃ n, kv = .int .i64 n
    · obtain ⟨m, rfl⟩ := hn
      rw [tabf_int, tabf_int, getT_drop, if_neg (fun h' => e (by rw [h']))]
    · rw [tabf_not _ hn, tabf_not _ hn]
theorem tabf_some (l : List Tbl) (n : Int) : (tabf l (.int .i64 n)).isSome = l.any fun t => decide (t.num = n) := by
  rw [tabf_int, Option.isSome_map, getT_any]
theorem getT_mem {l : List Tbl} {n : Int} {t : Tbl} (h : getT_ l n = some t) : t ∈ l ∧ t.num = n :=
  ⟨List.mem_of_find?_eq_some h, by simpa using List.find?_some h⟩
theorem getT_of : ∀ {l : List Tbl}, (l.map Tbl.num).Nodup → ∀ {t : Tbl}, t ∈ l → getT_ l t.num = some t
  | u :: l, hn, t, ht => by
    rw [List.map_cons, List.nodup_cons] at hn
    unfold getT_
    rcases List.mem_cons.1 ht with e | e
    · subst e
      rw [List.find?_cons_of_pos (by simp)]
    · have hne : ¬ u.num = t.num := fun h => hn.1 (h ▸ List.mem_map_of_mem e)
      rw [List.find?_cons_of_neg (by simp [hne])]
      exact getT_of hn.2 e
end Go.Proofs.YtabcdodjkfknlaaGreatDoor
namespace Go.Proofs.YtabcdodjkfknlaaGreatDoor
open Go.RowKit Go.Maps
abbrev vZero : Array Value := #[.slice none 0 0, .int .u64 0, .int .u64 0, .int .i64 0, .int .i64 0]
/-- the variables of Apply: version, edit, what is made; the tables by their numbers -/
structure ApAt (w wr : World) (M : Nat) (vc ec : Array Value) (l : List Tbl) : Prop where
  below : Below w.heap.size w wr
  bv : Blk wr w.heap.size 30 vc
  be : Blk wr (w.heap.size + 1) 33 ec
  bo : Blk wr (w.heap.size + 2) 30 vZero
  map : MapAt Tryz.prog 3 wr M l.length (tabf l)
  nodup : (l.map Tbl.num).Nodup
  hM : w.heap.size + 2 < M
theorem drop_len : ∀ {l : List Tbl}, (l.map Tbl.num).Nodup → ∀ {n : Int}, (l.any fun t => decide (t.num = n)) = true → (l.filter fun t => !decide (t.num = n)).length = l.length - 1
  | u :: l, hn, n, h => by
    rw [List.map_cons, List.nodup_cons] at hn
    by_cases e : u.num = n
    · rw [List.filter_cons_of_neg (by simp [e])]
      have : l.filter (fun t => !decide (t.num = n)) = l := by
        rw [List.filter_eq_self]
        intro t ht
        have : t.num ≠ n := fun h => hn.1 (by rw [e, ← h]; exact List.mem_map_of_mem ht)
        simpa using this
      rw [this]; rfl
    · rw [List.filter_cons_of_pos (by simp [e])]
      have h' : (l.any fun t => decide (t.num = n)) = true := by simpa [e] using h
      have := drop_len hn.2 h'
      have hl : 0 < l.length := by
        rcases l with _ | ⟨x, l⟩
        · cases h'
        · simp
      rw [List.length_cons, this, List.length_cons]; omega
section
variable {w wr : World} {M : Nat} {vc ec : Array Value} {l : List Tbl}
theorem ApAt.alloc (h : ApAt w wr M vc ec l) (o : Obj) : ApAt w (wr.alloc o) M vc ec l :=
  ⟨h.below.alloc h.below.size o, h.bv.alloc o, h.be.alloc o, h.bo.alloc o, h.map.later ((Below.refl _ _).alloc (Nat.le_refl _) o), h.nodup, h.hM⟩
theorem ApAt.keeps {w' : World} {l' : List Tbl} (h : ApAt w wr M vc ec l) (hk : Keeps (fun j => j = M) wr w') (hm : MapAt Tryz.prog 3 w' M l'.length (tabf l')) (hn : (l'.map Tbl.num).Nodup) : ApAt w w' M vc ec l' := by
  have hM := h.hM
  have hs := h.below.size
  exact ⟨h.below.trans (hk.below (fun j _ e => by omega) hs), h.bv.keeps hk (fun e => by omega), h.be.keeps hk (fun e => by omega), h.bo.keeps hk (fun e => by omega), hm, hn, hM⟩
theorem ApAt.put (h : ApAt w wr M vc ec l) {t : Tbl} (ht : t.lang) (hl : l.length ≤ 1000000) (hn : ∀ u ∈ l, u.num ≠ t.num) :
    ∃ w', (Instr.mapUpdate 150 (.map (some M)) (.int .i64 t.num) (.agg #[.int .i64 t.num, .int .i64 t.level, .int .i64 t.size, .string t.first, .string t.last])).run Tryz.prog wr = .ok () w' ∧ ApAt w w' M vc ec (l ++ [t]) ∧ Keeps (fun j => j = M) wr w' := by
  obtain ⟨w', hr, hm, hk⟩ := h.map.put keyI Tryz.underlying150 (by unfold maxLen; omega) (keyI_of ht.1 ht.2.1) t.v
  rw [tabf_put hn] at hm
  have hnone : (tabf l (.int .i64 t.num)).isSome = false := by
    rw [tabf_some, List.any_eq_false]
    intro u hu
    simpa using hn u hu
  rw [hnone] at hm
  refine ⟨w', hr, h.keeps hk (by rw [List.length_append]; exact hm) ?_, hk⟩
  rw [List.map_append, List.nodup_append]
  exact ⟨h.nodup, by simp, fun a ha b hb => by
    obtain ⟨u, hu, rfl⟩ := List.mem_map.1 ha
    simp at hb
    subst hb
    exact hn u hu⟩
theorem ApAt.drop (h : ApAt w wr M vc ec l) {n : Int} (h1 : -9223372036854775808 ≤ n) (h2 : n < 9223372036854775808) (ha : (l.any fun t => decide (t.num = n)) = true) (ty : TypeId) :
    ∃ w', (Builtin.delete_ #[150, 3] ty #[.map (some M), .int .i64 n]).run Tryz.prog wr = .ok (.tuple #[]) w' ∧ ApAt w w' M vc ec (l.filter fun t => !decide (t.num = n)) ∧ Keeps (fun j => j = M) wr w' := by
  obtain ⟨w', hr, hm, hk⟩ := h.map.drop keyI Tryz.underlying150 (keyI_of h1 h2) ty
  rw [tabf_drop, tabf_some, if_pos ha, ← drop_len h.nodup ha] at hm
  exact ⟨w', hr, h.keeps hk hm (((List.filter_sublist (p := fun t => !decide (t.num = n)) (l := l)).map Tbl.num).nodup h.nodup), hk⟩
theorem ApAt.look (h : ApAt w wr M vc ec l) {n : Int} (h1 : -9223372036854775808 ≤ n) (h2 : n < 9223372036854775808) :
    ∃ t : Tbl, (Instr.lookup 150 (.map (some M)) (.int .i64 n) true).run Tryz.prog wr = .ok (.tuple #[.agg #[.int .i64 t.num, .int .i64 t.level, .int .i64 t.size, .string t.first, .string t.last], .bool (l.any fun t => decide (t.num = n))]) wr := by
  have hz : (zeroValue 76).run Tryz.prog wr = .ok (.agg #[.int .i64 0, .int .i64 0, .int .i64 0, .string ⟨#[]⟩, .string ⟨#[]⟩]) wr := by kernel_rfl
  have := h.map.look_ok keyI Tryz.underlying150 hz (keyI_of h1 h2)
  rw [tabf_some, tabf_int] at this
  cases hg : getT_ l n with
  | none => rw [hg] at this; exact ⟨⟨0, 0, 0, ⟨#[]⟩, ⟨#[]⟩⟩, this⟩
  | some t => rw [hg] at this; exact ⟨t, this⟩
end
/-- the five cells of a version stored -/
theorem ver_set {w : World} {R : Nat} {cs : Array Value} (hs : cs.size = 5) (h : Blk w R 30 cs) (a b c d e : Value) :
    ∃ W, ((((w.setCell ⟨R, 0, none⟩ a).setCell ⟨R, 1, none⟩ b).setCell ⟨R, 2, none⟩ c).setCell ⟨R, 3, none⟩ d).setCell ⟨R, 4, none⟩ e = W ∧ Blk W R 30 #[a, b, c, d, e] ∧ Keeps (fun j => j = R) w W := by
  obtain ⟨l, hl⟩ : ∃ l, cs = ⟨l⟩ := ⟨cs.toList, by simp⟩
  subst hl
  match l, hs with
  | [x0, x1, x2, x3, x4], _ =>
    exact ⟨_, rfl, ((((h.set_ 0 a).set_ 1 b).set_ 2 c).set_ 3 d).set_ 4 e, (((((Keeps.refl (fun j => j = R) w).setCell (p := ⟨R, 0, none⟩) (.inl rfl) a).setCell (p := ⟨R, 1, none⟩) (.inl rfl) b).setCell (p := ⟨R, 2, none⟩) (.inl rfl) c).setCell (p := ⟨R, 3, none⟩) (.inl rfl) d).setCell (p := ⟨R, 4, none⟩) (.inl rfl) e⟩
end Go.Proofs.YtabcdodjkfknlaaGreatDoor
namespace Go.Proofs.YtabcdodjkfknlaaGreatDoor
open Go.RowKit Go.Maps
/-- the keys met so far: no key twice; a key is among them just where the map has it and it is no longer to come -/
def CollK {β : Type} (P : Program) (k : TypeId) (enk : β → Value) (f : Value → Option Value) (left : Lit → Bool) (ss : List β) : Prop :=
  ss.Nodup ∧ ∀ x, x ∈ ss ↔ (f (enk x)).isSome = true ∧ ∀ kl, keyOf P k (enk x) = some kl → left kl = false
section
variable {β : Type} {P : Program} {k : TypeId} {enk : β → Value} {f : Value → Option Value} {left : Lit → Bool} {ss : List β} {D : DataW Value}
theorem CollK.start (h2 : ∀ kv kl, keyOf P k kv = some kl → Maps.has D kl = (f kv).isSome ∧ ∀ v z, f kv = some v → D.atKey kl z = .held v) (h3 : ∀ kv, keyOf P k kv = none → f kv = none) : CollK P k enk f (Maps.has D) [] := by
  refine ⟨List.nodup_nil, fun x => ⟨fun h => (by cases h), fun ⟨h, h4⟩ => ?_⟩⟩
  cases hk : keyOf P k (enk x) with
  | none => rw [h3 _ hk] at h; cases h
  | some kl =>
    have h5 := h4 kl hk
    rw [(h2 _ kl hk).1, h] at h5
    cases h5
theorem CollK.step (K : Keyed P k) (hinj : ∀ x y, enk x = enk y → x = y) (h : CollK P k enk f left ss) (h2 : ∀ kv kl, keyOf P k kv = some kl → Maps.has D kl = (f kv).isSome ∧ ∀ v z, f kv = some v → D.atKey kl z = .held v) {x : β} {kl : Lit} {y : DataW Value} (hkey : keyOf P k (enk x) = some kl) (hlk : left kl = true) (hat : ∀ zd, D.atKey kl zd = y) :
    CollK P k enk f (fun z => left z && !z.sameKey kl) (ss ++ [x]) := by
  have hhas : (f (enk x)).isSome = true := by rw [← (h2 _ kl hkey).1]; exact has_true_of_atKey hat
  have hnew : x ∉ ss := fun hx => by have := ((h.2 x).1 hx).2 kl hkey; rw [hlk] at this; cases this
  refine ⟨List.nodup_append.2 ⟨h.1, by simp, fun a ha b hb => by simp at hb; subst hb; exact fun e => hnew (e ▸ ha)⟩, fun z => ?_⟩
  by_cases hz : z = x
  · subst hz
    refine ⟨fun _ => ⟨hhas, fun kl' hk' => ?_⟩, fun _ => by simp⟩
    obtain rfl : kl = kl' := by rw [hkey] at hk'; exact Option.some.inj hk'
    show (left kl && !kl.sameKey kl) = false
    rw [WideAt.sameKey_self (K.key hkey)]
    simp
  · rw [List.mem_append, List.mem_singleton]
    refine ⟨fun hm => ?_, fun ⟨h4, h5⟩ => .inl ((h.2 z).2 ⟨h4, fun kl' hk' => ?_⟩)⟩
    · obtain ⟨h4, h5⟩ := (h.2 z).1 (hm.resolve_right hz)
      exact ⟨h4, fun kl' hk' => by show (left kl' && _) = false; rw [h5 kl' hk']; rfl⟩
    · have h6 := h5 kl' hk'
      have hne : kl' ≠ kl := fun e => hz (hinj _ _ (K.inj hk' (by rw [e]; exact hkey)))
      change (left kl' && !kl'.sameKey kl) = false at h6
      rw [Maps.sameKey_ne hne] at h6
      simpa using h6
theorem CollK.fin (h : CollK P k enk f left ss) (hl : ∀ kl, left kl = false) (x : β) : x ∈ ss ↔ (f (enk x)).isSome = true := by
  rw [h.2 x]
  exact ⟨fun e => e.1, fun e => ⟨e, fun kl _ => hl kl⟩⟩
end
end Go.Proofs.YtabcdodjkfknlaaGreatDoor
namespace Go.Proofs.YtabcdodjkfknlaaGreatDoor
open Go.RowKit Go.Maps
theorem ranges_keeps {H : Type} {P : Program} {k : TypeId} {R : Value → Option (DataW H × List MemPlace)} {w w' : World} {b r n : Nat} {D : DataW H} {left : Lit → Bool} {cnt : Nat} {S : Nat → Prop} (h : w.ranges P k R b r n D left cnt) (hk : Keeps S w w') (hb : ¬ S b) (hr : ¬ S r) : w'.ranges P k R b r n D left cnt := by
  obtain ⟨es, clock, since, seen, c0, h1, h2, h3, h4, h5, h6⟩ := h
  have l1 := (Array.getElem?_eq_some_iff.1 h1).1
  have l2 := (Array.getElem?_eq_some_iff.1 h5).1
  exact ⟨es, clock, since, seen, c0, (hk.block b l1 hb).trans h1, h2, h3, h4, (hk.block r l2 hr).trans h5, h6⟩
theorem ranges_ne_blk {H : Type} {P : Program} {k : TypeId} {R : Value → Option (DataW H × List MemPlace)} {w : World} {b r n : Nat} {D : DataW H} {left : Lit → Bool} {cnt : Nat} {g : Nat} {T : TypeId} {cs : Array Value} (h : w.ranges P k R b r n D left cnt) (hg : Blk w g T cs) : g ≠ r ∧ g ≠ b := by
  obtain ⟨es, clock, since, seen, c0, h1, _, _, _, h5, _⟩ := h
  unfold Blk at hg
  constructor
  · rintro rfl; rw [hg] at h5; injection h5 with h5; cases h5
  · rintro rfl; rw [hg] at h1; injection h1 with h1; cases h1
theorem RowK.Own.blk_of {α : Type} {r : RowK α} {B : Nat} {w : World} {v : Value} {l : List α} (h : r.Own B w v l) : ∀ g, v.ownBlock = some g → ∃ cs, Blk w g r.e cs := by
  intro g hg
  obtain ⟨_, h2 | ⟨g', cap, cur, h2, h3, h4, _⟩⟩ := h
  · rw [h2.1] at hg; cases hg
  · rw [h2] at hg
    obtain rfl : g' = g := Option.some.inj hg
    exact ⟨cur, h4⟩
/-- a map's tables on their way into a row -/
structure RgAt (w wr : World) (M O r n : Nat) (D : DataW Value) (left : Lit → Bool) (cnt : Nat) (f h l x : Int) (ss : List Tbl) : Prop where
  rg : wr.ranges Tryz.prog 3 rawR M r n D left cnt
  below : Below w.heap.size w wr
  bo : Blk wr (w.heap.size + 2) 30 vZero
  row : ∃ p c, Blk wr O 30 #[.slice p ss.length c, .int .u64 f, .int .u64 h, .int .i64 l, .int .i64 x] ∧ rkT.Own w.heap.size wr (.slice p ss.length c) ss
  hO : w.heap.size + 2 < O
section
variable {w wr w' : World} {M O r n : Nat} {D : DataW Value} {left left' : Lit → Bool} {cnt cnt' : Nat} {f h l x : Int} {ss : List Tbl}
theorem RgAt.keeps {S : Nat → Prop} (a : RgAt w wr M O r n D left cnt f h l x ss) (hk : Keeps S wr w') (hs : ∀ j, S j → w.heap.size ≤ j) (h1 : ¬ S (w.heap.size + 2)) (h2 : ¬ S O) (h3 : ∀ j cs, Blk wr j 76 cs → ¬ S j) (hr : w'.ranges Tryz.prog 3 rawR M r n D left' cnt') : RgAt w w' M O r n D left' cnt' f h l x ss := by
  obtain ⟨_, hb, hbo, ⟨p, c, h4, h5⟩, hO⟩ := a
  refine ⟨hr, hb.trans (hk.below (fun j _ e => hs j e) hb.size), hbo.keeps hk h1, ⟨p, c, h4.keeps hk h2, h5.keeps hk fun g hg => ?_⟩, hO⟩
  obtain ⟨cs, hcs⟩ := h5.blk_of g hg
  exact h3 g cs hcs
theorem RgAt.next (a : RgAt w wr M O r n D left cnt f h l x ss) (hw : w.heap.size ≤ r) (hg : wr.grownBy w' (some r)) (hr : w'.ranges Tryz.prog 3 rawR M r n D left' cnt') : RgAt w w' M O r n D left' cnt' f h l x ss := by
  have hk : Keeps (fun j => j = r) wr w' := (Keeps.refl _ wr).grown hg fun k e => .inl (by simpa using e.symm)
  obtain ⟨p, c, h4, _⟩ := a.row
  exact a.keeps hk (fun j e => by omega) (fun e => (ranges_ne_blk a.rg a.bo).1 e) (fun e => (ranges_ne_blk a.rg h4).1 e) (fun j cs hj e => (ranges_ne_blk a.rg hj).1 e) hr
theorem RgAt.alloc (a : RgAt w wr M O r n D left cnt f h l x ss) (o : Obj) : RgAt w (wr.alloc o) M O r n D left cnt f h l x ss :=
  a.keeps (S := fun _ => False) (.of_below ((Below.refl _ _).alloc (Nat.le_refl _) o)) (fun _ => False.elim) id id (fun _ _ _ => id) (a.rg.alloc o)
theorem RgAt.app (a : RgAt w wr M O r n D left cnt f h l x ss) {p : Option Addr} {c : Nat} (hp : Blk wr O 30 #[.slice p ss.length c, .int .u64 f, .int .u64 h, .int .i64 l, .int .i64 x]) {t : Tbl} {g : Nat} (hg : BlkIs wr g (rkT.en t)) (hn : ss.length ≤ 1000000) :
    ∃ p' c' w', (dappOp #[27, 27] 27 #[.slice p ss.length c, .slice (some ⟨g, 0, none⟩) 1 1]).run Tryz.prog wr = .ok (.slice p' (ss.length + 1) c') w' ∧ Blk w' O 30 #[.slice p ss.length c, .int .u64 f, .int .u64 h, .int .i64 l, .int .i64 x] ∧
      RgAt w (w'.setCell ⟨O, 0, none⟩ (.slice p' (ss.length + 1) c')) M O r n D left cnt f h l x (ss ++ [t]) := by
  obtain ⟨hrg, hb, hbo, ⟨p0, c0, h4, h5⟩, hO⟩ := a
  obtain ⟨rfl, rfl⟩ : p = p0 ∧ c = c0 := by
    unfold Blk at h4 hp
    rw [h4] at hp
    injection hp with hp
    injection hp with hp _
    have h6 := congrArg (fun a : Array Value => a[0]?) hp
    have h7 := Value.slice.inj (Option.some.inj h6)
    exact ⟨h7.1.symm, h7.2.2.symm⟩
  obtain ⟨p', c', w', e1, o1, k1, n1⟩ := h5.app rkT_ok (t := t) hb.size hg hn
  have hs : ∀ j, (Value.slice p ss.length c).ownBlock = some j → ∃ cs, Blk wr j 76 cs := fun j hj => h5.blk_of j hj
  have hlo : ∀ j, (Value.slice p ss.length c).ownBlock = some j → w.heap.size ≤ j := fun j hj => (h5.lt j hj).1
  have hbo1 := hbo.keeps k1 (h5.blk_ne hbo (by decide))
  have h41 := h4.keeps k1 (h5.blk_ne h4 (by decide))
  have hrg1 := ranges_keeps hrg k1 (fun e => by obtain ⟨cs, hcs⟩ := hs _ e; exact (ranges_ne_blk hrg hcs).2 rfl) (fun e => by obtain ⟨cs, hcs⟩ := hs _ e; exact (ranges_ne_blk hrg hcs).1 rfl)
  have hb1 := hb.trans (k1.below (fun j _ e => hlo j e) hb.size)
  have hk2 : Keeps (fun j => j = O) w' (w'.setCell ⟨O, 0, none⟩ (.slice p' (ss.length + 1) c')) := (Keeps.refl (fun j => j = O) w').setCell (p := ⟨O, 0, none⟩) (.inl rfl) _
  have hOne := (ranges_ne_blk hrg1 h41)
  refine ⟨p', c', w', e1, h41, ranges_keeps hrg1 hk2 (fun e => hOne.2 e.symm) (fun e => hOne.1 e.symm), hb1.trans (hk2.below (fun j _ e => by omega) hb1.size), hbo1.keeps hk2 (fun e => by omega), ⟨p', c', ?_, ?_⟩, hO⟩
  · rw [List.length_append]; exact h41.set_ 0 _
  · rw [List.length_append]
    exact o1.keeps hk2 fun g hg e => o1.blk_ne h41 (by decide) (by rw [hg, e])
end
end Go.Proofs.YtabcdodjkfknlaaGreatDoor
namespace Go.Proofs
open Go.Shelf
def Tryz.sortTb_ren : Go.Shelf.Ren := ⟨fun | 6 => 110 | 15 => 147 | 14 => 146 | 28 => 177 | 29 => 178 | 20 => 169 | 21 => 170 | 22 => 171 | 23 => 172 | 24 => 173 | 25 => 174 | 26 => 175 | 27 => 176 | 46 => 196 | 47 => 197 | 48 => 198 | 49 => 199 | 50 => 200 | 57 => 206 | n => n, fun | 22 => 27 | 24 => 76 | 25 => 135 | 3 => 3 | 39 => 141 | 0 => 0 | 53 => 93 | 55 => 28 | 4 => 4 | 46 => 206 | 45 => 205 | 50 => 210 | 5 => 5 | 9 => 9 | 66 => 230 | 70 => 233 | 76 => 237 | 77 => 238 | n => n, fun | n => n⟩
theorem Tryz.sortTb : Go.Proofs.SlLaysF0.n6 Tryz.prog Tryz.sortTb_ren := {
  mixed := by kernel_rfl
  f6 := ⟨Tryz.f110.name, by decide, Tryz.func110.trans (congrArg some (by kernel_rfl))⟩
  f14 := ⟨Tryz.f146.name, by decide, Tryz.func146.trans (congrArg some (by kernel_rfl))⟩
  f15 := Tryz.func147.trans (congrArg some (by kernel_rfl))
  f20 := ⟨Tryz.f169.name, by decide, Tryz.func169.trans (congrArg some (by kernel_rfl))⟩
  f21 := ⟨Tryz.f170.name, by decide, Tryz.func170.trans (congrArg some (by kernel_rfl))⟩
  f22 := ⟨Tryz.f171.name, by decide, Tryz.func171.trans (congrArg some (by kernel_rfl))⟩
  f23 := ⟨Tryz.f172.name, by decide, Tryz.func172.trans (congrArg some (by kernel_rfl))⟩
  f24 := ⟨Tryz.f173.name, by decide, Tryz.func173.trans (congrArg some (by kernel_rfl))⟩
  f25 := ⟨Tryz.f174.name, by decide, Tryz.func174.trans (congrArg some (by kernel_rfl))⟩
  f26 := ⟨Tryz.f175.name, by decide, Tryz.func175.trans (congrArg some (by kernel_rfl))⟩
  f27 := ⟨Tryz.f176.name, by decide, Tryz.func176.trans (congrArg some (by kernel_rfl))⟩
  f28 := Tryz.func177.trans (congrArg some (by kernel_rfl))
  f29 := Tryz.func178.trans (congrArg some (by kernel_rfl))
  f46 := ⟨Tryz.f196.name, by decide, Tryz.func196.trans (congrArg some (by kernel_rfl))⟩
  f47 := Tryz.func197.trans (congrArg some (by kernel_rfl))
  f48 := Tryz.func198.trans (congrArg some (by kernel_rfl))
  f49 := ⟨Tryz.f199.name, by decide, Tryz.func199.trans (congrArg some (by kernel_rfl))⟩
  f50 := ⟨Tryz.f200.name, by decide, Tryz.func200.trans (congrArg some (by kernel_rfl))⟩
  f57 := ⟨Tryz.f206.name, by decide, Tryz.func206.trans (congrArg some (by kernel_rfl))⟩
  t0 := Tryz.underlying0
  a0 := Tryz.isAgg0
  z0 := Tryz.sizeOf0
  v0 := Tryz.zeroValue0
  t3 := Tryz.underlying3
  a3 := Tryz.isAgg3
  z3 := Tryz.sizeOf3
  v3 := Tryz.zeroValue3
  t4 := Tryz.underlying4
  a4 := Tryz.isAgg4
  z4 := Tryz.sizeOf4
  v4 := Tryz.zeroValue4
  t5 := Tryz.underlying5
  a5 := Tryz.isAgg5
  z5 := Tryz.sizeOf5
  v5 := Tryz.zeroValue5
  t9 := Tryz.underlying9
  a9 := Tryz.isAgg9
  z9 := Tryz.sizeOf9
  v9 := Tryz.zeroValue9
  t22 := Tryz.underlying27
  a22 := Tryz.isAgg27
  z22 := Tryz.sizeOf27
  v22 := Tryz.zeroValue27
  t25 := Tryz.underlying135
  a25 := Tryz.isAgg135
  z25 := Tryz.sizeOf135
  v25 := Tryz.zeroValue135
  t39 := Tryz.underlying141
  a39 := Tryz.isAgg141
  z39 := Tryz.sizeOf141
  v39 := Tryz.zeroValue141
  t45 := Tryz.underlying205
  a45 := Tryz.isAgg205
  z45 := Tryz.sizeOf205
  v45 := Tryz.zeroValue205
  t46 := Tryz.underlying206
  a46 := Tryz.isAgg206
  z46 := Tryz.sizeOf206
  v46 := Tryz.zeroValue206
  t50 := Tryz.underlying210
  a50 := Tryz.isAgg210
  z50 := Tryz.sizeOf210
  v50 := Tryz.zeroValue210
  t53 := Tryz.underlying93
  a53 := Tryz.isAgg93
  z53 := Tryz.sizeOf93
  v53 := Tryz.zeroValue93
  t55 := Tryz.underlying28
  a55 := Tryz.isAgg28
  z55 := Tryz.sizeOf28
  v55 := Tryz.zeroValue28
  t66 := Tryz.underlying230
  a66 := Tryz.isAgg230
  z66 := Tryz.sizeOf230
  v66 := Tryz.zeroValue230
  t70 := Tryz.underlying233
  a70 := Tryz.isAgg233
  z70 := Tryz.sizeOf233
  v70 := Tryz.zeroValue233
  t76 := Tryz.underlying237
  a76 := Tryz.isAgg237
  z76 := Tryz.sizeOf237
  v76 := Tryz.zeroValue237
  t77 := Tryz.underlying238
  a77 := Tryz.isAgg238
  z77 := Tryz.sizeOf238
  v77 := Tryz.zeroValue238 }
end Go.Proofs
