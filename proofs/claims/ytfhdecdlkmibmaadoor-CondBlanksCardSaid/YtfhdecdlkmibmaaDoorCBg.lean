/- Walks: conditions: rank, unlike. -/
import Derived.Test.YtfhdecdlkmibmaaDoorCBf
namespace Go.Proofs.YtfhdecdlkmibmaaDoor
open Go.RowKit
set_option maxHeartbeats 4000000 in
theorem rank_calls (r : CT) (cs : List Value) (w : World) (hR : CV w cs r) : Calls Tryd.prog 26 #[.agg cs.toArray] w fun e w' => e = .returned (.int .i64 (rankC r)) ∧ Below w.heap.size w w' := by
  obtain ⟨k, m, a, p, c, ds, rfl, hq, hrow, hlen, hp⟩ := hR.form
  have hmax := hrow.1
  unfold maxLen at hmax
  have bx := Blk.new w 25 #[.int .i64 k, .int .i64 m, .string a, .slice p r.parts.length c]
  have hb := (Below.refl w.heap.size w).alloc (Nat.le_refl _) (.cells #[.int .i64 k, .int .i64 m, .string a, .slice p r.parts.length c] 25)
  obtain ⟨W, eW⟩ : ∃ W, w.alloc (.cells #[.int .i64 k, .int .i64 m, .string a, .slice p r.parts.length c] 25) = W := ⟨_, rfl⟩
  rw [eW] at bx hb
  have bxc := bx.cell
  have hb' := Lib.hid hb
  have hrow' := Lib.hid (hrow.below hb)
  have hp' := Lib.hid (fun i q h => (hp i q h).later hb)
  have hq' := Lib.hid hq
  have hkk : Hid (r.kind = k) := Lib.hid (by rw [hq]; rfl)
  clear hrow hp hq hb bx hR
  by_cases h8 : k = 8
  · subst h8
    have hv : Hid (rankC r = 1) := Lib.hid (by unfold rankC; rw [hkk.out]; rfl)
    go_enter Tryd.func26, Tryd.ntmps26
    go_wp2_with fail
    go_ret
    exact ⟨by rw [hv.out]; rfl, hb'.out⟩
  by_cases h7 : k = 7
  · subst h7
    have hv : Hid (rankC r = 2) := Lib.hid (by unfold rankC; rw [hkk.out]; rfl)
    go_enter Tryd.func26, Tryd.ntmps26
    go_wp2_with fail
    go_ret
    exact ⟨by rw [hv.out]; rfl, hb'.out⟩
  by_cases h9 : k = 9
  · subst h9
    have hv : Hid (rankC r = 4) := Lib.hid (by unfold rankC; rw [hkk.out]; rfl)
    go_enter Tryd.func26, Tryd.ntmps26
    go_wp2_with fail
    go_ret
    exact ⟨by rw [hv.out]; rfl, hb'.out⟩
  by_cases h10 : k = 10
  · subst h10
    have hv : Hid (rankC r = 4) := Lib.hid (by unfold rankC; rw [hkk.out]; rfl)
    go_enter Tryd.func26, Tryd.ntmps26
    go_wp2_with fail
    go_ret
    exact ⟨by rw [hv.out]; rfl, hb'.out⟩
  by_cases h11 : k = 11
  · subst h11
    have hv : Hid (rankC r = 4) := Lib.hid (by unfold rankC; rw [hkk.out]; rfl)
    go_enter Tryd.func26, Tryd.ntmps26
    go_wp2_with fail
    go_ret
    exact ⟨by rw [hv.out]; rfl, hb'.out⟩
  by_cases h15 : k = 15
  · subst h15
    have hv : Hid (rankC r = 4) := Lib.hid (by unfold rankC; rw [hkk.out]; rfl)
    go_enter Tryd.func26, Tryd.ntmps26
    go_wp2_with fail
    go_ret
    exact ⟨by rw [hv.out]; rfl, hb'.out⟩
  by_cases h12 : k = 12
  · subst h12
    have hv : Hid (rankC r = 5) := Lib.hid (by unfold rankC; rw [hkk.out]; rfl)
    go_enter Tryd.func26, Tryd.ntmps26
    go_wp2_with fail
    go_ret
    exact ⟨by rw [hv.out]; rfl, hb'.out⟩
  by_cases h13 : k = 13
  · subst h13
    have hv : Hid (rankC r = 5) := Lib.hid (by unfold rankC; rw [hkk.out]; rfl)
    go_enter Tryd.func26, Tryd.ntmps26
    go_wp2_with fail
    go_ret
    exact ⟨by rw [hv.out]; rfl, hb'.out⟩
  by_cases h14 : k = 14
  · subst h14
    have hv : Hid (rankC r = 6) := Lib.hid (by unfold rankC; rw [hkk.out]; rfl)
    go_enter Tryd.func26, Tryd.ntmps26
    go_wp2_with fail
    go_ret
    exact ⟨by rw [hv.out]; rfl, hb'.out⟩
  by_cases h6 : k = 6
  · subst h6
    by_cases hl : r.parts.length = 1
    · obtain ⟨q, hqq⟩ := List.length_eq_one_iff.1 hl
      have hq0 : r.parts[0]? = some q := by rw [hqq]; rfl
      obtain ⟨g, o, rfl, hc1, hcell⟩ := hrow'.out.cell (by omega)
      obtain ⟨kq, mq, aq, pq, cq, Rq, hqf, lg, x0, x1, x2, x3⟩ := CV.part hcell hq0 (hp'.out 0 _ hq0)
      have hrk : rankC r = (if q.kind = 9 then 4 else 3) := by
        unfold rankC; rw [hkk.out, hqq]; rfl
      have hqk : q.kind = kq := by rw [hqf]; rfl
      have hl1 : ((r.parts.length : Int) == 1) = true := by rw [hl]; rfl
      have hl0 : (0 : Int) < (r.parts.length : Int) := by omega
      have hl' := Lib.hid hl
      have hqq' := Lib.hid hqq
      rw [hqk] at hrk
      have hrk' := Lib.hid hrk
      clear hl hq0 hcell Rq hrk hqk hqq hqf
      rw [Nat.zero_mul, Nat.add_zero] at x0
      by_cases h9 : kq = 9
      · subst h9
        have hv : Hid (rankC r = 4) := Lib.hid (by rw [hrk'.out]; rfl)
        go_enter Tryd.func26, Tryd.ntmps26
        go_wp2_with fail
        go_ret
        exact ⟨by rw [hv.out]; rfl, hb'.out⟩
      · have hv : Hid (rankC r = 3) := Lib.hid (by rw [hrk'.out, if_neg h9])
        have e9 : (kq == 9) = false := beq_false_of_ne h9
        have h9' := Lib.hid h9
        clear h9
        go_enter Tryd.func26, Tryd.ntmps26
        go_wp2_with fail
        go_ret
        exact ⟨by rw [hv.out]; rfl, hb'.out⟩
    · have hv : Hid (rankC r = 3) := by
        refine Lib.hid ?_
        unfold rankC; rw [hkk.out]
        match hrp : r.parts with
        | [] => rfl
        | [_] => rw [hrp] at hl; exact absurd rfl hl
        | _ :: _ :: _ => rfl
      have hl1 : ((r.parts.length : Int) == 1) = false := by apply beq_false_of_ne; omega
      have hl' := Lib.hid hl
      clear hl
      go_enter Tryd.func26, Tryd.ntmps26
      go_wp2_with fail
      go_ret
      exact ⟨by rw [hv.out]; rfl, hb'.out⟩
  have hv : Hid (rankC r = 7) := Lib.hid (by unfold rankC; rw [hkk.out]; simp [h6, h8, h7, h9, h10, h11, h15, h12, h13, h14])
  have e6 : (k == 6) = false := beq_false_of_ne h6
  have h6' := Lib.hid h6
  clear h6
  have e8 : (k == 8) = false := beq_false_of_ne h8
  have h8' := Lib.hid h8
  clear h8
  have e7 : (k == 7) = false := beq_false_of_ne h7
  have h7' := Lib.hid h7
  clear h7
  have e9 : (k == 9) = false := beq_false_of_ne h9
  have h9' := Lib.hid h9
  clear h9
  have e10 : (k == 10) = false := beq_false_of_ne h10
  have h10' := Lib.hid h10
  clear h10
  have e11 : (k == 11) = false := beq_false_of_ne h11
  have h11' := Lib.hid h11
  clear h11
  have e15 : (k == 15) = false := beq_false_of_ne h15
  have h15' := Lib.hid h15
  clear h15
  have e12 : (k == 12) = false := beq_false_of_ne h12
  have h12' := Lib.hid h12
  clear h12
  have e13 : (k == 13) = false := beq_false_of_ne h13
  have h13' := Lib.hid h13
  clear h13
  have e14 : (k == 14) = false := beq_false_of_ne h14
  have h14' := Lib.hid h14
  clear h14
  go_enter Tryd.func26, Tryd.ntmps26
  go_wp2_with fail
  go_ret
  exact ⟨by rw [hv.out]; rfl, hb'.out⟩
set_option maxHeartbeats 4000000 in
theorem unlike_calls (r : CT) (cs : List Value) (w : World) (hR : CV w cs r) : Calls Tryd.prog 35 #[.agg cs.toArray] w fun e w' => e = .returned (.bool (unlikeC r)) ∧ Below w.heap.size w w' := by
  obtain ⟨k, m, a, p, c, ds, rfl, hq, hrow, hlen, hp⟩ := hR.form
  have hmax := hrow.1
  unfold maxLen at hmax
  have bx := Blk.new w 25 #[.int .i64 k, .int .i64 m, .string a, .slice p r.parts.length c]
  have hb := (Below.refl w.heap.size w).alloc (Nat.le_refl _) (.cells #[.int .i64 k, .int .i64 m, .string a, .slice p r.parts.length c] 25)
  obtain ⟨W, eW⟩ : ∃ W, w.alloc (.cells #[.int .i64 k, .int .i64 m, .string a, .slice p r.parts.length c] 25) = W := ⟨_, rfl⟩
  rw [eW] at bx hb
  have bxc := bx.cell
  have hb' := Lib.hid hb
  have hrow' := Lib.hid (hrow.below hb)
  have hp' := Lib.hid (fun i q h => (hp i q h).later hb)
  have hq' := Lib.hid hq
  have hkk : Hid (r.kind = k) := Lib.hid (by rw [hq]; rfl)
  clear hrow hp hq hb bx hR
  by_cases h6 : k = 6
  · subst h6
    by_cases hl : r.parts.length = 1
    · obtain ⟨q, hqq⟩ := List.length_eq_one_iff.1 hl
      have hq0 : r.parts[0]? = some q := by rw [hqq]; rfl
      obtain ⟨g, o, rfl, hc1, hcell⟩ := hrow'.out.cell (by omega)
      obtain ⟨kq, mq, aq, pq, cq, Rq, hqf, lg, x0, x1, x2, x3⟩ := CV.part hcell hq0 (hp'.out 0 _ hq0)
      have hun : unlikeC r = (q.kind == 9 && decide (q.parts.length = 2) && plainC q) := by
        unfold unlikeC; rw [hkk.out, hqq]; rfl
      have hpl : plainC q = (mq == 0 && aq.data.toList.isEmpty) := by rw [hqf]; rfl
      have hqk : q.kind = kq := by rw [hqf]; rfl
      rw [hqk, hpl] at hun
      have hl1 : ((r.parts.length : Int) == 1) = true := by rw [hl]; rfl
      have hl2 : ((r.parts.length : Int) != 1) = false := by rw [hl]; rfl
      have hl0 : (0 : Int) < (r.parts.length : Int) := by omega
      have hl' := Lib.hid hl
      have hqq' := Lib.hid hqq
      have hun' := Lib.hid hun
      have hqm := (hp'.out 0 _ hq0).form
      have hqmax : q.parts.length ≤ 9223372036854775807 := by
        obtain ⟨_, _, _, _, _, _, _, _, h, _⟩ := hqm
        have := h.1
        unfold maxLen at this
        omega
      clear hl hq0 hcell Rq hun hqk hqq hqf hpl hqm
      rw [Nat.zero_mul, Nat.add_zero] at x0 x1 x2 x3
      have hcs : (kq == 9) = false ∨ ((kq == 9) = true ∧ ((q.parts.length : Int) == 2) = false) ∨ ((kq == 9) = true ∧ ((q.parts.length : Int) == 2) = true ∧ (mq == 0) = false) ∨ ((kq == 9) = true ∧ ((q.parts.length : Int) == 2) = true ∧ (mq == 0) = true) := by
        cases h1 : kq == 9
        · exact .inl rfl
        · cases h2 : (q.parts.length : Int) == 2
          · exact .inr (.inl ⟨rfl, rfl⟩)
          · cases h3 : mq == 0
            · exact .inr (.inr (.inl ⟨rfl, rfl, rfl⟩))
            · exact .inr (.inr (.inr ⟨rfl, rfl, rfl⟩))
      have h2i : decide (q.parts.length = 2) = ((q.parts.length : Int) == 2) := by
        rw [Bool.eq_iff_iff]; simp; omega
      rw [h2i] at hun'
      have hae : aq.data.toList.isEmpty = aq.toList.isEmpty := by rw [Lib.toList_data]
      rw [hae] at hun'
      clear h2i hae
      rcases hcs with e1 | ⟨e1, e2⟩ | ⟨e1, e2, e3⟩ | ⟨e1, e2, e3⟩
      all_goals
        simp only [e1] at hun'
        try simp only [e2] at hun'
        try simp only [e3] at hun'
        go_enter Tryd.func35, Tryd.ntmps35
        go_wp2_with fail
        all_goals
          go_ret
          exact ⟨ret_bool (by rw [hun'.out]; first | rfl | simp | simp_all), by first | exact hb'.out | exact hb'.out.alloc (by have := hb'.out.size; omega) _⟩
    · have hv : Hid (unlikeC r = false) := by
        refine Lib.hid ?_
        unfold unlikeC; rw [hkk.out]
        match hrp : r.parts with
        | [] => rfl
        | [_] => rw [hrp] at hl; exact absurd rfl hl
        | _ :: _ :: _ => rfl
      have hl1 : ((r.parts.length : Int) == 1) = false := by apply beq_false_of_ne; omega
      have hl2 : ((r.parts.length : Int) != 1) = true := by rw [bne_iff_ne]; omega
      have hl' := Lib.hid hl
      clear hl
      go_enter Tryd.func35, Tryd.ntmps35
      go_wp2_with fail
      go_ret
      exact ⟨ret_bool (by rw [hv.out]), hb'.out⟩
  have hv : Hid (unlikeC r = false) := Lib.hid (by unfold unlikeC; rw [hkk.out, beq_false_of_ne h6]; rfl)
  have e6 : (k == 6) = false := beq_false_of_ne h6
  have e6' : (k != 6) = true := bne_iff_ne.2 h6
  have h6' := Lib.hid h6
  clear h6
  go_enter Tryd.func35, Tryd.ntmps35
  go_wp2_with fail
  go_ret
  exact ⟨ret_bool (by rw [hv.out]), hb'.out⟩
end Go.Proofs.YtfhdecdlkmibmaaDoor
