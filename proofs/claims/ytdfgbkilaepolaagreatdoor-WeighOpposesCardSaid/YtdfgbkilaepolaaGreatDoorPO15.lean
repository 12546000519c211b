/- Walk: conditions: has a condition what its kind has? Walks: conditions: the writer: a part. -/
import Derived.Test.YtdfgbkilaepolaaGreatDoorPO14
import Derived.Lib.SmallJoins
import Derived.Lib.AppendIntMem
namespace Go.Proofs.YtdfgbkilaepolaaGreatDoor
open Go.RowKit
theorem span_whole (p : UInt8 → Bool) : ∀ l : List UInt8, l.all p = decide (spanN p l = l.length)
  | [] => rfl
  | c :: l => by
    rw [List.all_cons, span_whole p l]
    unfold spanN
    rw [List.takeWhile_cons]
    cases p c
    · simp
    · simp
set_option maxHeartbeats 2000000 in
theorem condName_any (s : ByteArray) (w : World) (hs : s.size ≤ 1000000000) :
    Calls Tryz.prog 116 #[.string s] w fun e w' => e = .returned (.bool (isNameC s.data.toList)) ∧ Below w.heap.size w w' := by
  have D1 := isName_calls s w (by unfold maxLen; omega)
  have D2 := Tryz.strings_Contains_one s 45 w
  rw [has_45] at D2
  have D3 := words_calls w
  have D4 := Tryz.slices_Contains_string w.heap.size 0 6 6 wordsB s (w.alloc wordsO) (by decide) (by decide) (words_cells w)
  rw [words_has] at D4
  have hB := (Below.refl w.heap.size w).alloc (Nat.le_refl _) wordsO
  obtain ⟨W, eW⟩ : ∃ W, w.alloc wordsO = W := ⟨_, rfl⟩
  rw [eW] at D3 D4 hB
  cases hN : isName s.data.toList with
  | false =>
    have he : Hid (isNameC s.data.toList = false) := Lib.hid (by unfold isNameC; rw [hN]; rfl)
    rw [hN] at D1
    have D1' := Lib.hid D1
    clear D1 D2 D3 D4 hN
    go_enter Tryz.func116, Tryz.ntmps116
    go_wp2_with fail
    refine D1'.out.mono ?_
    rintro e w' ⟨rfl, rfl⟩
    go_wp2_with fail
    go_ret
    exact ⟨ret_bool he.out.symm, Below.refl _ _⟩
  | true =>
    have hn : 1 ≤ s.size := by
      have := hN
      unfold isName at this
      simp at this
      rw [Lib.size_eq]
      have := this.1.2
      simpa using this
    have hc0 : Hid (s.data.toList = s[0] :: s.data.toList.drop 1) := Lib.hid (drop_at s 0 (by omega))
    have hd : Hid (digAt s.data.toList = isDig s[0]) := Lib.hid (by rw [hc0.out]; rfl)
    have he : Hid (isNameC s.data.toList = (!isDig s[0] && !s.data.toList.contains 45 && !wordsL.contains s.data.toList)) := Lib.hid (by unfold isNameC; rw [hN, hd.out]; rfl)
    rw [hN] at D1
    have D1' := Lib.hid D1
    have D2' := Lib.hid D2
    have D3' := Lib.hid D3
    have D4' := Lib.hid D4
    have hdi := isDig_int s[0]
    clear D1 D2 D3 D4 hN
    cases hg : isDig s[0] with
    | true =>
      rw [hg] at hdi he
      have hx := Lib.hid hdi.symm
      have h1 : (48 : Int) ≤ (s[0].toNat : Int) := by have := hx.out; simp at this; omega
      have h2 : (s[0].toNat : Int) ≤ 57 := by have := hx.out; simp at this; omega
      clear hdi hg
      go_enter Tryz.func116, Tryz.ntmps116
      go_wp2_with fail
      refine D1'.out.mono ?_
      rintro e w' ⟨rfl, rfl⟩
      go_wp2_with fail
      go_ret
      exact ⟨ret_bool he.out.symm, Below.refl _ _⟩
    | false =>
      rw [hg] at hdi he
      have hx := Lib.hid hdi.symm
      have h1 : (s[0].toNat : Int) < 48 ∨ (57 : Int) < (s[0].toNat : Int) := by have := hx.out; simp at this; omega
      clear hdi hg
      rcases h1 with h1 | h1
      all_goals
        go_enter Tryz.func116, Tryz.ntmps116
        go_wp2_with fail
        refine D1'.out.mono ?_
        rintro e w' ⟨rfl, rfl⟩
        go_wp2_with fail
        refine D2'.out.mono ?_
        rintro e w' ⟨rfl, hw⟩
        obtain rfl := hw.symm
        cases hc : s.data.toList.contains 45
        · rw [hc] at he
          clear D2' hc
          go_wp2_with fail
          refine D3'.out.mono ?_
          rintro e w' ⟨rfl, hw⟩
          obtain rfl := hw.symm
          go_wp2_with fail
          refine D4'.out.mono ?_
          rintro e w' ⟨rfl, hw⟩
          obtain rfl := hw.symm
          go_wp2_with fail
          go_ret
          exact ⟨ret_bool (by rw [he.out]; simp), hB⟩
        · rw [hc] at he
          clear D2' hc
          go_wp2_with fail
          go_ret
          exact ⟨ret_bool he.out.symm, Below.refl _ _⟩
set_option maxHeartbeats 16000000 in
set_option maxRecDepth 100000 in
theorem right_calls (r : CT) (cs : List Value) (w : World) (hR : CV w cs r) (hs : r.str.length ≤ 1000000) : Calls Tryz.prog 93 #[.agg cs.toArray] w fun e w' => e = .returned (.bool (rightC r)) ∧ Below w.heap.size w w' := by
  obtain ⟨k, m, a, p, c, ds, rfl, hq, hrow, hlen, hp⟩ := hR.form
  have hsl : a.size ≤ 1000000 := by
    rw [hq] at hs
    rw [Lib.size_eq]; exact hs
  rw [show rightC r = rightC (.node k m a.data.toList r.parts) from congrArg rightC hq]
  have hmax := hrow.1
  unfold maxLen at hmax
  have bx := Blk.new w 28 #[.int .i64 k, .int .i64 m, .string a, .slice p r.parts.length c]
  have hb := (Below.refl w.heap.size w).alloc (Nat.le_refl _) (.cells #[.int .i64 k, .int .i64 m, .string a, .slice p r.parts.length c] 28)
  obtain ⟨W, eW⟩ : ∃ W, w.alloc (.cells #[.int .i64 k, .int .i64 m, .string a, .slice p r.parts.length c] 28) = W := ⟨_, rfl⟩
  rw [eW] at bx hb
  have bxl := bx.lt
  have bxc := bx.cell
  have hb' := Lib.hid hb
  have hrow' := Lib.hid (hrow.below hb)
  have hp' := Lib.hid (fun i q h => (hp i q h).later hb)
  generalize r.parts = ps at *
  clear hrow hp hq hb bx hR hlen hs
  have hS := Lib.hid (Lib.toList_data a)
  have hnn : (ps.length = 0) ↔ ps.isEmpty = true := by cases ps <;> simp
  have hnn' := Lib.hid hnn
  clear hnn
  obtain ⟨n, hn⟩ : ∃ n, ps.length = n := ⟨_, rfl⟩
  have hn' := Lib.hid hn
  rw [hn] at eW bxc hmax ⊢
  clear hn
  obtain ⟨mz, hmz⟩ : ∃ mz, (m == 0) = mz := ⟨_, rfl⟩
  by_cases h1 : k = 1
  · subst h1
    have hv : Hid (rightC (.node 1 m a.data.toList ps) = (ps.isEmpty && (m == 0 && a.data.toList.isEmpty))) := Lib.hid (by rfl)
    by_cases hc : n = 0
    · skip
      have hcnt : Hid (ps.isEmpty = true) := Lib.hid (hnn'.out.1 (hn'.out.trans hc))
      have el : ((n : Int) == 0) = true := by rw [hc]; rfl
      have hc' := Lib.hid hc
      clear hc
      cases mz with
      | false =>
        go_enter Tryz.func93, Tryz.ntmps93
        go_wp2_with fail
        go_ret
        exact ⟨ret_bool (by rw [hv.out, hcnt.out, hmz]; first | rfl | simp | (simp only [hS.out]; simp) | simp_all), hb'.out⟩
      | true =>
        go_enter Tryz.func93, Tryz.ntmps93
        go_wp2_with fail
        go_ret
        exact ⟨ret_bool (by rw [hv.out, hcnt.out, hmz, ← hS.out]; first | rfl | simp | (simp only [hS.out]; simp) | simp_all), hb'.out⟩
    · skip
      have hcnt : Hid (ps.isEmpty = false) := Lib.hid (by cases hh : ps.isEmpty with | false => rfl | true => exact absurd (hn'.out.symm.trans (hnn'.out.2 hh)) hc)
      have el : ((n : Int) == 0) = false := by apply beq_false_of_ne; omega
      have hc' := Lib.hid hc
      clear hc
      cases mz with
      | false =>
        go_enter Tryz.func93, Tryz.ntmps93
        go_wp2_with fail
        go_ret
        exact ⟨ret_bool (by rw [hv.out, hcnt.out]; first | rfl | simp), hb'.out⟩
      | true =>
        go_enter Tryz.func93, Tryz.ntmps93
        go_wp2_with fail
        go_ret
        exact ⟨ret_bool (by rw [hv.out, hcnt.out]; first | rfl | simp), hb'.out⟩
  by_cases h2 : k = 2
  · subst h2
    have hv : Hid (rightC (.node 2 m a.data.toList ps) = (ps.isEmpty && (m == 0 && a.data.toList.isEmpty))) := Lib.hid (by rfl)
    by_cases hc : n = 0
    · skip
      have hcnt : Hid (ps.isEmpty = true) := Lib.hid (hnn'.out.1 (hn'.out.trans hc))
      have el : ((n : Int) == 0) = true := by rw [hc]; rfl
      have hc' := Lib.hid hc
      clear hc
      cases mz with
      | false =>
        go_enter Tryz.func93, Tryz.ntmps93
        go_wp2_with fail
        go_ret
        exact ⟨ret_bool (by rw [hv.out, hcnt.out, hmz]; first | rfl | simp | (simp only [hS.out]; simp) | simp_all), hb'.out⟩
      | true =>
        go_enter Tryz.func93, Tryz.ntmps93
        go_wp2_with fail
        go_ret
        exact ⟨ret_bool (by rw [hv.out, hcnt.out, hmz, ← hS.out]; first | rfl | simp | (simp only [hS.out]; simp) | simp_all), hb'.out⟩
    · skip
      have hcnt : Hid (ps.isEmpty = false) := Lib.hid (by cases hh : ps.isEmpty with | false => rfl | true => exact absurd (hn'.out.symm.trans (hnn'.out.2 hh)) hc)
      have el : ((n : Int) == 0) = false := by apply beq_false_of_ne; omega
      have hc' := Lib.hid hc
      clear hc
      cases mz with
      | false =>
        go_enter Tryz.func93, Tryz.ntmps93
        go_wp2_with fail
        go_ret
        exact ⟨ret_bool (by rw [hv.out, hcnt.out]; first | rfl | simp), hb'.out⟩
      | true =>
        go_enter Tryz.func93, Tryz.ntmps93
        go_wp2_with fail
        go_ret
        exact ⟨ret_bool (by rw [hv.out, hcnt.out]; first | rfl | simp), hb'.out⟩
  by_cases h3 : k = 3
  · subst h3
    have hv : Hid (rightC (.node 3 m a.data.toList ps) = (ps.isEmpty && a.data.toList.isEmpty && decide (-1000000000000000 ≤ m) && decide (m ≤ 1000000000000000))) := Lib.hid (by rfl)
    by_cases hc : n = 0
    · skip
      have hcnt : Hid (ps.isEmpty = true) := Lib.hid (hnn'.out.1 (hn'.out.trans hc))
      have el : ((n : Int) == 0) = true := by rw [hc]; rfl
      have hc' := Lib.hid hc
      clear hc
      cases he : a.toList.isEmpty with
      | false =>
        have he' := Lib.hid he
        cases mz with
        | false =>
          go_enter Tryz.func93, Tryz.ntmps93
          go_wp2_with fail
          go_ret
          exact ⟨ret_bool (by rw [hv.out, hcnt.out, ← hS.out, he'.out]; first | rfl | simp | (simp only [hS.out]; simp) | simp_all), hb'.out⟩
        | true =>
          go_enter Tryz.func93, Tryz.ntmps93
          go_wp2_with fail
          go_ret
          exact ⟨ret_bool (by rw [hv.out, hcnt.out, ← hS.out, he'.out]; first | rfl | simp | (simp only [hS.out]; simp) | simp_all), hb'.out⟩
      | true =>
        have he' := Lib.hid he
        by_cases hlo : -1000000000000000 ≤ m
        · cases mz with
          | false =>
            go_enter Tryz.func93, Tryz.ntmps93
            go_wp2_with fail
            all_goals
              go_ret
              exact ⟨ret_bool (by rw [hv.out, hcnt.out, ← hS.out, he'.out]; first | rfl | (simp; done) | (simp; intros; omega) | simp_all), hb'.out⟩
          | true =>
            go_enter Tryz.func93, Tryz.ntmps93
            go_wp2_with fail
            all_goals
              go_ret
              exact ⟨ret_bool (by rw [hv.out, hcnt.out, ← hS.out, he'.out]; first | rfl | (simp; done) | (simp; intros; omega) | simp_all), hb'.out⟩
        · have elo : decide (-1000000000000000 ≤ m) = false := decide_eq_false hlo
          have elo' := Lib.hid elo
          cases mz with
          | false =>
            go_enter Tryz.func93, Tryz.ntmps93
            go_wp2_with fail
            go_ret
            exact ⟨ret_bool (by rw [hv.out, hcnt.out, ← hS.out, he'.out, elo'.out]; first | rfl | simp | (simp only [hS.out]; simp) | simp_all), hb'.out⟩
          | true =>
            go_enter Tryz.func93, Tryz.ntmps93
            go_wp2_with fail
            go_ret
            exact ⟨ret_bool (by rw [hv.out, hcnt.out, ← hS.out, he'.out, elo'.out]; first | rfl | simp | (simp only [hS.out]; simp) | simp_all), hb'.out⟩
    · skip
      have hcnt : Hid (ps.isEmpty = false) := Lib.hid (by cases hh : ps.isEmpty with | false => rfl | true => exact absurd (hn'.out.symm.trans (hnn'.out.2 hh)) hc)
      have el : ((n : Int) == 0) = false := by apply beq_false_of_ne; omega
      have hc' := Lib.hid hc
      clear hc
      cases mz with
      | false =>
        go_enter Tryz.func93, Tryz.ntmps93
        go_wp2_with fail
        go_ret
        exact ⟨ret_bool (by rw [hv.out, hcnt.out]; first | rfl | simp), hb'.out⟩
      | true =>
        go_enter Tryz.func93, Tryz.ntmps93
        go_wp2_with fail
        go_ret
        exact ⟨ret_bool (by rw [hv.out, hcnt.out]; first | rfl | simp), hb'.out⟩
  by_cases h4 : k = 4
  · subst h4
    have hv : Hid (rightC (.node 4 m a.data.toList ps) = (ps.isEmpty && m == 0 && a.data.toList.all isQuo)) := Lib.hid (by rfl)
    by_cases hc : n = 0
    · skip
      have hcnt : Hid (ps.isEmpty = true) := Lib.hid (hnn'.out.1 (hn'.out.trans hc))
      have el : ((n : Int) == 0) = true := by rw [hc]; rfl
      have hc' := Lib.hid hc
      clear hc
      cases mz with
      | false =>
        go_enter Tryz.func93, Tryz.ntmps93
        go_wp2_with fail
        go_quiet (fail)
        go_wp2_with fail
        go_ret
        exact ⟨ret_bool (by rw [hv.out, hcnt.out, hmz]; rfl), hb'.out.trans ((bdrewN (Below.refl _ _) _).mono (Nat.le_of_lt bxl))⟩
      | true =>
        have D := fun W => span_calls 115 (fun _ _ => by go_simp) isQuo (fun c w => quo2_calls c w) a W (by unfold maxLen; omega)
        have D' := Lib.hid D
        have hall : Hid (a.data.toList.all isQuo = decide (spanN isQuo a.data.toList = a.size)) := Lib.hid (by rw [Lib.size_eq]; exact span_whole _ _)
        clear D
        go_enter Tryz.func93, Tryz.ntmps93
        go_wp2_with fail
        go_quiet ((go_at_call 107; exact Calls.quiet_of_same ((D'.out _).mono fun _ _ h => ⟨h.1, h.2.symm⟩)))
        go_wp2_with fail
        go_ret
        exact ⟨ret_bool (by rw [hv.out, hcnt.out, hmz, hall.out, Bool.eq_iff_iff]; simp; try omega), hb'.out.trans ((bdrewN (Below.refl _ _) _).mono (Nat.le_of_lt bxl))⟩
    · skip
      have hcnt : Hid (ps.isEmpty = false) := Lib.hid (by cases hh : ps.isEmpty with | false => rfl | true => exact absurd (hn'.out.symm.trans (hnn'.out.2 hh)) hc)
      have el : ((n : Int) == 0) = false := by apply beq_false_of_ne; omega
      have hc' := Lib.hid hc
      clear hc
      cases mz with
      | false =>
        go_enter Tryz.func93, Tryz.ntmps93
        go_wp2_with fail
        go_quiet (fail)
        go_wp2_with fail
        go_ret
        exact ⟨ret_bool (by rw [hv.out, hcnt.out]; first | rfl | simp), hb'.out.trans ((bdrewN (Below.refl _ _) _).mono (Nat.le_of_lt bxl))⟩
      | true =>
        go_enter Tryz.func93, Tryz.ntmps93
        go_wp2_with fail
        go_quiet (fail)
        go_wp2_with fail
        go_ret
        exact ⟨ret_bool (by rw [hv.out, hcnt.out]; first | rfl | simp), hb'.out.trans ((bdrewN (Below.refl _ _) _).mono (Nat.le_of_lt bxl))⟩
  by_cases h5 : k = 5
  · subst h5
    have hv : Hid (rightC (.node 5 m a.data.toList ps) = (ps.isEmpty && m == 0 && isNameC a.data.toList)) := Lib.hid (by rfl)
    by_cases hc : n = 0
    · skip
      have hcnt : Hid (ps.isEmpty = true) := Lib.hid (hnn'.out.1 (hn'.out.trans hc))
      have el : ((n : Int) == 0) = true := by rw [hc]; rfl
      have hc' := Lib.hid hc
      clear hc
      cases mz with
      | false =>
        go_enter Tryz.func93, Tryz.ntmps93
        go_wp2_with fail
        go_ret
        exact ⟨ret_bool (by rw [hv.out, hcnt.out, hmz]; first | rfl | simp | (simp only [hS.out]; simp) | simp_all), hb'.out⟩
      | true =>
        have D' := Lib.hid (condName_any a W (by omega))
        go_enter Tryz.func93, Tryz.ntmps93
        go_wp2_with fail
        refine D'.out.mono ?_
        rintro e w2 ⟨rfl, hb2⟩
        have B2 := Lib.hid (hb'.out.trans (hb2.mono (Nat.le_of_lt bxl)))
        clear hb2
        go_wp2_with fail
        go_ret
        exact ⟨ret_bool (by rw [hv.out, hcnt.out, hmz]; simp), B2.out⟩
    · skip
      have hcnt : Hid (ps.isEmpty = false) := Lib.hid (by cases hh : ps.isEmpty with | false => rfl | true => exact absurd (hn'.out.symm.trans (hnn'.out.2 hh)) hc)
      have el : ((n : Int) == 0) = false := by apply beq_false_of_ne; omega
      have hc' := Lib.hid hc
      clear hc
      cases mz with
      | false =>
        go_enter Tryz.func93, Tryz.ntmps93
        go_wp2_with fail
        go_ret
        exact ⟨ret_bool (by rw [hv.out, hcnt.out]; first | rfl | simp), hb'.out⟩
      | true =>
        go_enter Tryz.func93, Tryz.ntmps93
        go_wp2_with fail
        go_ret
        exact ⟨ret_bool (by rw [hv.out, hcnt.out]; first | rfl | simp), hb'.out⟩
  by_cases h6 : k = 6
  · subst h6
    have hv : Hid (rightC (.node 6 m a.data.toList ps) = (decide (ps.length = 1) && (m == 0 && a.data.toList.isEmpty))) := Lib.hid (by rfl)
    by_cases hc : n = 1
    · skip
      have hcnt : Hid (decide (ps.length = 1) = true) := Lib.hid (decide_eq_true (by rw [hn'.out]; exact hc))
      have el : ((n : Int) == 1) = true := by rw [hc]; rfl
      have hc' := Lib.hid hc
      clear hc
      cases mz with
      | false =>
        go_enter Tryz.func93, Tryz.ntmps93
        go_wp2_with fail
        go_ret
        exact ⟨ret_bool (by rw [hv.out, hcnt.out, hmz]; first | rfl | simp | (simp only [hS.out]; simp) | simp_all), hb'.out⟩
      | true =>
        go_enter Tryz.func93, Tryz.ntmps93
        go_wp2_with fail
        go_ret
        exact ⟨ret_bool (by rw [hv.out, hcnt.out, hmz, ← hS.out]; first | rfl | simp | (simp only [hS.out]; simp) | simp_all), hb'.out⟩
    · skip
      have hcnt : Hid (decide (ps.length = 1) = false) := Lib.hid (decide_eq_false (by rw [hn'.out]; exact hc))
      have el : ((n : Int) == 1) = false := by apply beq_false_of_ne; omega
      have hc' := Lib.hid hc
      clear hc
      cases mz with
      | false =>
        go_enter Tryz.func93, Tryz.ntmps93
        go_wp2_with fail
        go_ret
        exact ⟨ret_bool (by rw [hv.out, hcnt.out]; first | rfl | simp), hb'.out⟩
      | true =>
        go_enter Tryz.func93, Tryz.ntmps93
        go_wp2_with fail
        go_ret
        exact ⟨ret_bool (by rw [hv.out, hcnt.out]; first | rfl | simp), hb'.out⟩
  by_cases h7 : k = 7
  · subst h7
    have hv : Hid (rightC (.node 7 m a.data.toList ps) = (decide (2 ≤ ps.length) && (m == 0 && a.data.toList.isEmpty) && !ps.any fun p => p.kind == 7)) := Lib.hid (by rfl)
    by_cases hc : 2 ≤ n
    · skip
      have hcnt : Hid (decide (2 ≤ ps.length) = true) := Lib.hid (decide_eq_true (by rw [hn'.out]; exact hc))
      have el : (2 : Int) ≤ (n : Int) := by omega
      have el2 : decide ((2 : Int) ≤ (n : Int)) = true := decide_eq_true el
      have hc' := Lib.hid hc
      clear hc
      cases mz with
      | false =>
        go_enter Tryz.func93, Tryz.ntmps93
        go_wp2_with fail
        go_ret
        exact ⟨ret_bool (by rw [hv.out, hcnt.out, hmz]; first | rfl | simp | (simp only [hS.out]; simp) | simp_all), hb'.out⟩
      | true =>
        cases he : a.toList.isEmpty with
        | false =>
          have he' := Lib.hid he
          go_enter Tryz.func93, Tryz.ntmps93
          go_wp2_with fail
          go_ret
          exact ⟨ret_bool (by rw [hv.out, hcnt.out, hmz, ← hS.out, he'.out]; first | rfl | simp | (simp only [hS.out]; simp) | simp_all), hb'.out⟩
        | true =>
          have he' := Lib.hid he
          have hrw := hrow'.out
          rw [hn'.out] at hrw
          have D := kindHas_calls ps ds W w.heap.size 7 p c (by rw [hn'.out]; exact hrw) hp'.out (bxc 0) bxl
          rw [hn'.out] at D
          have D' := Lib.hid D
          clear D hrw
          go_enter Tryz.func93, Tryz.ntmps93
          go_wp2_with fail
          refine D'.out.mono ?_
          rintro e w2 ⟨rfl, hb2⟩
          have B2 := Lib.hid (hb'.out.trans (hb2.mono (Nat.le_of_lt bxl)))
          clear hb2
          go_wp2_with fail
          go_ret
          exact ⟨ret_bool (by rw [hv.out, hcnt.out, hmz, ← hS.out, he'.out]; simp), B2.out⟩
    · skip
      have hcnt : Hid (decide (2 ≤ ps.length) = false) := Lib.hid (decide_eq_false (by rw [hn'.out]; exact hc))
      have el : ¬ (2 : Int) ≤ (n : Int) := by omega
      have el2 : decide ((2 : Int) ≤ (n : Int)) = false := decide_eq_false el
      have el3 : (n : Int) < 2 := by omega
      have hc' := Lib.hid hc
      clear hc
      cases mz with
      | false =>
        go_enter Tryz.func93, Tryz.ntmps93
        go_wp2_with fail
        go_ret
        exact ⟨ret_bool (by rw [hv.out, hcnt.out]; first | rfl | simp), hb'.out⟩
      | true =>
        go_enter Tryz.func93, Tryz.ntmps93
        go_wp2_with fail
        go_ret
        exact ⟨ret_bool (by rw [hv.out, hcnt.out]; first | rfl | simp), hb'.out⟩
  by_cases h8 : k = 8
  · subst h8
    have hv : Hid (rightC (.node 8 m a.data.toList ps) = (decide (2 ≤ ps.length) && (m == 0 && a.data.toList.isEmpty) && !ps.any fun p => p.kind == 8)) := Lib.hid (by rfl)
    by_cases hc : 2 ≤ n
    · skip
      have hcnt : Hid (decide (2 ≤ ps.length) = true) := Lib.hid (decide_eq_true (by rw [hn'.out]; exact hc))
      have el : (2 : Int) ≤ (n : Int) := by omega
      have el2 : decide ((2 : Int) ≤ (n : Int)) = true := decide_eq_true el
      have hc' := Lib.hid hc
      clear hc
      cases mz with
      | false =>
        go_enter Tryz.func93, Tryz.ntmps93
        go_wp2_with fail
        go_ret
        exact ⟨ret_bool (by rw [hv.out, hcnt.out, hmz]; first | rfl | simp | (simp only [hS.out]; simp) | simp_all), hb'.out⟩
      | true =>
        cases he : a.toList.isEmpty with
        | false =>
          have he' := Lib.hid he
          go_enter Tryz.func93, Tryz.ntmps93
          go_wp2_with fail
          go_ret
          exact ⟨ret_bool (by rw [hv.out, hcnt.out, hmz, ← hS.out, he'.out]; first | rfl | simp | (simp only [hS.out]; simp) | simp_all), hb'.out⟩
        | true =>
          have he' := Lib.hid he
          have hrw := hrow'.out
          rw [hn'.out] at hrw
          have D := kindHas_calls ps ds W w.heap.size 8 p c (by rw [hn'.out]; exact hrw) hp'.out (bxc 0) bxl
          rw [hn'.out] at D
          have D' := Lib.hid D
          clear D hrw
          go_enter Tryz.func93, Tryz.ntmps93
          go_wp2_with fail
          refine D'.out.mono ?_
          rintro e w2 ⟨rfl, hb2⟩
          have B2 := Lib.hid (hb'.out.trans (hb2.mono (Nat.le_of_lt bxl)))
          clear hb2
          go_wp2_with fail
          go_ret
          exact ⟨ret_bool (by rw [hv.out, hcnt.out, hmz, ← hS.out, he'.out]; simp), B2.out⟩
    · skip
      have hcnt : Hid (decide (2 ≤ ps.length) = false) := Lib.hid (decide_eq_false (by rw [hn'.out]; exact hc))
      have el : ¬ (2 : Int) ≤ (n : Int) := by omega
      have el2 : decide ((2 : Int) ≤ (n : Int)) = false := decide_eq_false el
      have el3 : (n : Int) < 2 := by omega
      have hc' := Lib.hid hc
      clear hc
      cases mz with
      | false =>
        go_enter Tryz.func93, Tryz.ntmps93
        go_wp2_with fail
        go_ret
        exact ⟨ret_bool (by rw [hv.out, hcnt.out]; first | rfl | simp), hb'.out⟩
      | true =>
        go_enter Tryz.func93, Tryz.ntmps93
        go_wp2_with fail
        go_ret
        exact ⟨ret_bool (by rw [hv.out, hcnt.out]; first | rfl | simp), hb'.out⟩
  by_cases h15 : k = 15
  · subst h15
    have hv : Hid (rightC (.node 15 m a.data.toList ps) = (decide (2 ≤ ps.length) && (m == 0 && a.data.toList.isEmpty))) := Lib.hid (by rfl)
    by_cases hc : 2 ≤ n
    · skip
      have hcnt : Hid (decide (2 ≤ ps.length) = true) := Lib.hid (decide_eq_true (by rw [hn'.out]; exact hc))
      have el : (2 : Int) ≤ (n : Int) := by omega
      have el2 : decide ((2 : Int) ≤ (n : Int)) = true := decide_eq_true el
      have hc' := Lib.hid hc
      clear hc
      cases mz with
      | false =>
        go_enter Tryz.func93, Tryz.ntmps93
        go_wp2_with fail
        go_ret
        exact ⟨ret_bool (by rw [hv.out, hcnt.out, hmz]; first | rfl | simp | (simp only [hS.out]; simp) | simp_all), hb'.out⟩
      | true =>
        go_enter Tryz.func93, Tryz.ntmps93
        go_wp2_with fail
        go_ret
        exact ⟨ret_bool (by rw [hv.out, hcnt.out, hmz, ← hS.out]; first | rfl | simp | (simp only [hS.out]; simp) | simp_all), hb'.out⟩
    · skip
      have hcnt : Hid (decide (2 ≤ ps.length) = false) := Lib.hid (decide_eq_false (by rw [hn'.out]; exact hc))
      have el : ¬ (2 : Int) ≤ (n : Int) := by omega
      have el2 : decide ((2 : Int) ≤ (n : Int)) = false := decide_eq_false el
      have el3 : (n : Int) < 2 := by omega
      have hc' := Lib.hid hc
      clear hc
      cases mz with
      | false =>
        go_enter Tryz.func93, Tryz.ntmps93
        go_wp2_with fail
        go_ret
        exact ⟨ret_bool (by rw [hv.out, hcnt.out]; first | rfl | simp), hb'.out⟩
      | true =>
        go_enter Tryz.func93, Tryz.ntmps93
        go_wp2_with fail
        go_ret
        exact ⟨ret_bool (by rw [hv.out, hcnt.out]; first | rfl | simp), hb'.out⟩
  by_cases h9 : k = 9
  · subst h9
    have hv : Hid (rightC (.node 9 m a.data.toList ps) = (decide (ps.length = 2) && (m == 0 && a.data.toList.isEmpty))) := Lib.hid (by rfl)
    by_cases hc : n = 2
    · skip
      have hcnt : Hid (decide (ps.length = 2) = true) := Lib.hid (decide_eq_true (by rw [hn'.out]; exact hc))
      have el : ((n : Int) == 2) = true := by rw [hc]; rfl
      have hc' := Lib.hid hc
      clear hc
      cases mz with
      | false =>
        go_enter Tryz.func93, Tryz.ntmps93
        go_wp2_with fail
        go_ret
        exact ⟨ret_bool (by rw [hv.out, hcnt.out, hmz]; first | rfl | simp | (simp only [hS.out]; simp) | simp_all), hb'.out⟩
      | true =>
        go_enter Tryz.func93, Tryz.ntmps93
        go_wp2_with fail
        go_ret
        exact ⟨ret_bool (by rw [hv.out, hcnt.out, hmz, ← hS.out]; first | rfl | simp | (simp only [hS.out]; simp) | simp_all), hb'.out⟩
    · skip
      have hcnt : Hid (decide (ps.length = 2) = false) := Lib.hid (decide_eq_false (by rw [hn'.out]; exact hc))
      have el : ((n : Int) == 2) = false := by apply beq_false_of_ne; omega
      have hc' := Lib.hid hc
      clear hc
      cases mz with
      | false =>
        go_enter Tryz.func93, Tryz.ntmps93
        go_wp2_with fail
        go_ret
        exact ⟨ret_bool (by rw [hv.out, hcnt.out]; first | rfl | simp), hb'.out⟩
      | true =>
        go_enter Tryz.func93, Tryz.ntmps93
        go_wp2_with fail
        go_ret
        exact ⟨ret_bool (by rw [hv.out, hcnt.out]; first | rfl | simp), hb'.out⟩
  by_cases h10 : k = 10
  · subst h10
    have hv : Hid (rightC (.node 10 m a.data.toList ps) = (decide (ps.length = 2) && (m == 0 && a.data.toList.isEmpty))) := Lib.hid (by rfl)
    by_cases hc : n = 2
    · skip
      have hcnt : Hid (decide (ps.length = 2) = true) := Lib.hid (decide_eq_true (by rw [hn'.out]; exact hc))
      have el : ((n : Int) == 2) = true := by rw [hc]; rfl
      have hc' := Lib.hid hc
      clear hc
      cases mz with
      | false =>
        go_enter Tryz.func93, Tryz.ntmps93
        go_wp2_with fail
        go_ret
        exact ⟨ret_bool (by rw [hv.out, hcnt.out, hmz]; first | rfl | simp | (simp only [hS.out]; simp) | simp_all), hb'.out⟩
      | true =>
        go_enter Tryz.func93, Tryz.ntmps93
        go_wp2_with fail
        go_ret
        exact ⟨ret_bool (by rw [hv.out, hcnt.out, hmz, ← hS.out]; first | rfl | simp | (simp only [hS.out]; simp) | simp_all), hb'.out⟩
    · skip
      have hcnt : Hid (decide (ps.length = 2) = false) := Lib.hid (decide_eq_false (by rw [hn'.out]; exact hc))
      have el : ((n : Int) == 2) = false := by apply beq_false_of_ne; omega
      have hc' := Lib.hid hc
      clear hc
      cases mz with
      | false =>
        go_enter Tryz.func93, Tryz.ntmps93
        go_wp2_with fail
        go_ret
        exact ⟨ret_bool (by rw [hv.out, hcnt.out]; first | rfl | simp), hb'.out⟩
      | true =>
        go_enter Tryz.func93, Tryz.ntmps93
        go_wp2_with fail
        go_ret
        exact ⟨ret_bool (by rw [hv.out, hcnt.out]; first | rfl | simp), hb'.out⟩
  by_cases h11 : k = 11
  · subst h11
    have hv : Hid (rightC (.node 11 m a.data.toList ps) = (decide (ps.length = 2) && (m == 0 && a.data.toList.isEmpty))) := Lib.hid (by rfl)
    by_cases hc : n = 2
    · skip
      have hcnt : Hid (decide (ps.length = 2) = true) := Lib.hid (decide_eq_true (by rw [hn'.out]; exact hc))
      have el : ((n : Int) == 2) = true := by rw [hc]; rfl
      have hc' := Lib.hid hc
      clear hc
      cases mz with
      | false =>
        go_enter Tryz.func93, Tryz.ntmps93
        go_wp2_with fail
        go_ret
        exact ⟨ret_bool (by rw [hv.out, hcnt.out, hmz]; first | rfl | simp | (simp only [hS.out]; simp) | simp_all), hb'.out⟩
      | true =>
        go_enter Tryz.func93, Tryz.ntmps93
        go_wp2_with fail
        go_ret
        exact ⟨ret_bool (by rw [hv.out, hcnt.out, hmz, ← hS.out]; first | rfl | simp | (simp only [hS.out]; simp) | simp_all), hb'.out⟩
    · skip
      have hcnt : Hid (decide (ps.length = 2) = false) := Lib.hid (decide_eq_false (by rw [hn'.out]; exact hc))
      have el : ((n : Int) == 2) = false := by apply beq_false_of_ne; omega
      have hc' := Lib.hid hc
      clear hc
      cases mz with
      | false =>
        go_enter Tryz.func93, Tryz.ntmps93
        go_wp2_with fail
        go_ret
        exact ⟨ret_bool (by rw [hv.out, hcnt.out]; first | rfl | simp), hb'.out⟩
      | true =>
        go_enter Tryz.func93, Tryz.ntmps93
        go_wp2_with fail
        go_ret
        exact ⟨ret_bool (by rw [hv.out, hcnt.out]; first | rfl | simp), hb'.out⟩
  by_cases h12 : k = 12
  · subst h12
    have hv : Hid (rightC (.node 12 m a.data.toList ps) = (decide (ps.length = 2) && (m == 0 && a.data.toList.isEmpty))) := Lib.hid (by rfl)
    by_cases hc : n = 2
    · skip
      have hcnt : Hid (decide (ps.length = 2) = true) := Lib.hid (decide_eq_true (by rw [hn'.out]; exact hc))
      have el : ((n : Int) == 2) = true := by rw [hc]; rfl
      have hc' := Lib.hid hc
      clear hc
      cases mz with
      | false =>
        go_enter Tryz.func93, Tryz.ntmps93
        go_wp2_with fail
        go_ret
        exact ⟨ret_bool (by rw [hv.out, hcnt.out, hmz]; first | rfl | simp | (simp only [hS.out]; simp) | simp_all), hb'.out⟩
      | true =>
        go_enter Tryz.func93, Tryz.ntmps93
        go_wp2_with fail
        go_ret
        exact ⟨ret_bool (by rw [hv.out, hcnt.out, hmz, ← hS.out]; first | rfl | simp | (simp only [hS.out]; simp) | simp_all), hb'.out⟩
    · skip
      have hcnt : Hid (decide (ps.length = 2) = false) := Lib.hid (decide_eq_false (by rw [hn'.out]; exact hc))
      have el : ((n : Int) == 2) = false := by apply beq_false_of_ne; omega
      have hc' := Lib.hid hc
      clear hc
      cases mz with
      | false =>
        go_enter Tryz.func93, Tryz.ntmps93
        go_wp2_with fail
        go_ret
        exact ⟨ret_bool (by rw [hv.out, hcnt.out]; first | rfl | simp), hb'.out⟩
      | true =>
        go_enter Tryz.func93, Tryz.ntmps93
        go_wp2_with fail
        go_ret
        exact ⟨ret_bool (by rw [hv.out, hcnt.out]; first | rfl | simp), hb'.out⟩
  by_cases h13 : k = 13
  · subst h13
    have hv : Hid (rightC (.node 13 m a.data.toList ps) = (decide (ps.length = 2) && (m == 0 && a.data.toList.isEmpty))) := Lib.hid (by rfl)
    by_cases hc : n = 2
    · skip
      have hcnt : Hid (decide (ps.length = 2) = true) := Lib.hid (decide_eq_true (by rw [hn'.out]; exact hc))
      have el : ((n : Int) == 2) = true := by rw [hc]; rfl
      have hc' := Lib.hid hc
      clear hc
      cases mz with
      | false =>
        go_enter Tryz.func93, Tryz.ntmps93
        go_wp2_with fail
        go_ret
        exact ⟨ret_bool (by rw [hv.out, hcnt.out, hmz]; first | rfl | simp | (simp only [hS.out]; simp) | simp_all), hb'.out⟩
      | true =>
        go_enter Tryz.func93, Tryz.ntmps93
        go_wp2_with fail
        go_ret
        exact ⟨ret_bool (by rw [hv.out, hcnt.out, hmz, ← hS.out]; first | rfl | simp | (simp only [hS.out]; simp) | simp_all), hb'.out⟩
    · skip
      have hcnt : Hid (decide (ps.length = 2) = false) := Lib.hid (decide_eq_false (by rw [hn'.out]; exact hc))
      have el : ((n : Int) == 2) = false := by apply beq_false_of_ne; omega
      have hc' := Lib.hid hc
      clear hc
      cases mz with
      | false =>
        go_enter Tryz.func93, Tryz.ntmps93
        go_wp2_with fail
        go_ret
        exact ⟨ret_bool (by rw [hv.out, hcnt.out]; first | rfl | simp), hb'.out⟩
      | true =>
        go_enter Tryz.func93, Tryz.ntmps93
        go_wp2_with fail
        go_ret
        exact ⟨ret_bool (by rw [hv.out, hcnt.out]; first | rfl | simp), hb'.out⟩
  by_cases h14 : k = 14
  · subst h14
    have hv : Hid (rightC (.node 14 m a.data.toList ps) = (decide (ps.length = 2) && (m == 0 && a.data.toList.isEmpty))) := Lib.hid (by rfl)
    by_cases hc : n = 2
    · skip
      have hcnt : Hid (decide (ps.length = 2) = true) := Lib.hid (decide_eq_true (by rw [hn'.out]; exact hc))
      have el : ((n : Int) == 2) = true := by rw [hc]; rfl
      have hc' := Lib.hid hc
      clear hc
      cases mz with
      | false =>
        go_enter Tryz.func93, Tryz.ntmps93
        go_wp2_with fail
        go_ret
        exact ⟨ret_bool (by rw [hv.out, hcnt.out, hmz]; first | rfl | simp | (simp only [hS.out]; simp) | simp_all), hb'.out⟩
      | true =>
        go_enter Tryz.func93, Tryz.ntmps93
        go_wp2_with fail
        go_ret
        exact ⟨ret_bool (by rw [hv.out, hcnt.out, hmz, ← hS.out]; first | rfl | simp | (simp only [hS.out]; simp) | simp_all), hb'.out⟩
    · skip
      have hcnt : Hid (decide (ps.length = 2) = false) := Lib.hid (decide_eq_false (by rw [hn'.out]; exact hc))
      have el : ((n : Int) == 2) = false := by apply beq_false_of_ne; omega
      have hc' := Lib.hid hc
      clear hc
      cases mz with
      | false =>
        go_enter Tryz.func93, Tryz.ntmps93
        go_wp2_with fail
        go_ret
        exact ⟨ret_bool (by rw [hv.out, hcnt.out]; first | rfl | simp), hb'.out⟩
      | true =>
        go_enter Tryz.func93, Tryz.ntmps93
        go_wp2_with fail
        go_ret
        exact ⟨ret_bool (by rw [hv.out, hcnt.out]; first | rfl | simp), hb'.out⟩
  have hv : Hid (rightC (.node k m a.data.toList ps) = false) := Lib.hid (by show (if k = 1 ∨ k = 2 then _ else if k = 3 then _ else if k = 4 then _ else if k = 5 then _ else if k = 6 then _ else if k = 7 ∨ k = 8 then _ else if k = 15 then _ else if 9 ≤ k ∧ k ≤ 14 then _ else false) = false; rw [if_neg (by omega), if_neg h3, if_neg h4, if_neg h5, if_neg h6, if_neg (by omega), if_neg h15, if_neg (by omega)])
  have e1 : (k == 1) = false := beq_false_of_ne h1
  have h1' := Lib.hid h1
  clear h1
  have e2 : (k == 2) = false := beq_false_of_ne h2
  have h2' := Lib.hid h2
  clear h2
  have e3 : (k == 3) = false := beq_false_of_ne h3
  have h3' := Lib.hid h3
  clear h3
  have e4 : (k == 4) = false := beq_false_of_ne h4
  have h4' := Lib.hid h4
  clear h4
  have e5 : (k == 5) = false := beq_false_of_ne h5
  have h5' := Lib.hid h5
  clear h5
  have e6 : (k == 6) = false := beq_false_of_ne h6
  have h6' := Lib.hid h6
  clear h6
  have e7 : (k == 7) = false := beq_false_of_ne h7
  have h7' := Lib.hid h7
  clear h7
  have e8 : (k == 8) = false := beq_false_of_ne h8
  have h8' := Lib.hid h8
  clear h8
  have e15 : (k == 15) = false := beq_false_of_ne h15
  have h15' := Lib.hid h15
  clear h15
  have e9 : (k == 9) = false := beq_false_of_ne h9
  have h9' := Lib.hid h9
  clear h9
  have e10 : (k == 10) = false := beq_false_of_ne h10
  have h10' := Lib.hid h10
  clear h10
  have e11 : (k == 11) = false := beq_false_of_ne h11
  have h11' := Lib.hid h11
  clear h11
  have e12 : (k == 12) = false := beq_false_of_ne h12
  have h12' := Lib.hid h12
  clear h12
  have e13 : (k == 13) = false := beq_false_of_ne h13
  have h13' := Lib.hid h13
  clear h13
  have e14 : (k == 14) = false := beq_false_of_ne h14
  have h14' := Lib.hid h14
  clear h14
  cases mz with
  | false =>
    go_enter Tryz.func93, Tryz.ntmps93
    go_wp2_with fail
    go_ret
    exact ⟨ret_bool (by rw [hv.out]), hb'.out⟩
  | true =>
    go_enter Tryz.func93, Tryz.ntmps93
    go_wp2_with fail
    go_ret
    exact ⟨ret_bool (by rw [hv.out]), hb'.out⟩
end Go.Proofs.YtdfgbkilaepolaaGreatDoor
namespace Go.Proofs.YtdfgbkilaepolaaGreatDoor
open Go.RowKit
/-- the library's table of tens stands, whatever is made behind block B -/
def Tb (B : Nat) (w : World) : Prop := Lib.TabBelow Tryz.prog B w "internal/strconv.uint64pow10" .u64 Lib.pow10Tab
theorem Tb.here {B : Nat} {w : World} (h : Tb B w) : Lib.TabIs Tryz.prog w "internal/strconv.uint64pow10" .u64 Lib.pow10Tab := h w (Below.refl _ _)
theorem Tb.step {B : Nat} {w w' : World} (h : Tb B w) (hb : Below B w w') : Tb B w' := fun w'' h2 => h w'' (hb.trans h2)
mutual
/-- how many bytes a condition's text has at most -/
def CT.cw : CT → Nat
  | .node _ _ s ps => 32 + s.length + cwL ps
def cwL : List CT → Nat
  | [] => 0
  | c :: l => c.cw + 8 + cwL l
end
theorem cw_node (r : CT) : r.cw = 32 + r.str.length + cwL r.parts := by
  cases r
  conv => lhs; unfold CT.cw
  rfl
theorem cwL_nil : cwL [] = 0 := by unfold cwL; rfl
theorem cwL_cons (c : CT) (l : List CT) : cwL (c :: l) = c.cw + 8 + cwL l := by conv => lhs; unfold cwL
theorem cwL_mem : ∀ {ps : List CT} {p : CT}, p ∈ ps → p.cw + 8 ≤ cwL ps
  | q :: ps, p, h => by
    rw [cwL_cons]
    rcases List.mem_cons.1 h with rfl | h
    · omega
    · have := cwL_mem h; omega
/-- what a walk over a condition's writing leaves -/
def WSaid (T : Option (List UInt8)) (W B b : Nat) (w : World) (l : List UInt8) (deep : Int) (e : Ending) (w' : World) : Prop :=
  e = .returned (.tuple #[]) ∧ WKeeps B b w w' ∧ ∃ l' d', l'.length ≤ l.length + W ∧ ((∃ x, T = some x ∧ l' = l ++ x ∧ WrAt B b w' l' deep false) ∨ (T = none ∧ WrAt B b w' l' d' true))
/-- behind something wrong -/
def WOdd (W B b : Nat) (w : World) (l : List UInt8) (e : Ending) (w' : World) : Prop :=
  e = .returned (.tuple #[]) ∧ WKeeps B b w w' ∧ ∃ l' d', l'.length ≤ l.length + W ∧ WrAt B b w' l' d' true
def textO (T : Option (List Piece)) : Option (List UInt8) := T.map textP
def CondOK (q : CT) : Prop := ∀ (w0 : World) (b d f : Nat) (deep : Int) (w : World) (l : List UInt8) (cs : List Value), d ≤ 8 → deep = 8 - (d : Int) → q.size ≤ f → CV w0 cs q → Below w0.heap.size w0 w → w0.heap.size ≤ w.heap.size → Tb w0.heap.size w0 → WrAt w0.heap.size b w l deep false → l.length + q.cw ≤ 1000000000 → q.cw ≤ 1000000 →
  Calls Tryz.prog 74 #[.pointer (some ⟨b, 0, none⟩), .agg cs.toArray] w (WSaid (textO (condW f d q)) q.cw w0.heap.size b w l deep)
def PartOK (q : CT) : Prop := ∀ (w0 : World) (b d f least : Nat) (deep : Int) (w : World) (l : List UInt8) (cs : List Value), d ≤ 8 → deep = 8 - (d : Int) → least ≤ 100 → q.size ≤ f → CV w0 cs q → Below w0.heap.size w0 w → w0.heap.size ≤ w.heap.size → Tb w0.heap.size w0 → WrAt w0.heap.size b w l deep false → l.length + q.cw + 2 ≤ 1000000000 → q.cw ≤ 1000000 →
  Calls Tryz.prog 50 #[.pointer (some ⟨b, 0, none⟩), .agg cs.toArray, .int .i64 least] w (WSaid (textO (partW (condW f) d least q)) (q.cw + 2) w0.heap.size b w l deep)
set_option maxHeartbeats 1000000 in
set_option maxRecDepth 100000 in
/-- where something is wrong, a condition is left alone -/
theorem cond_odd (B b : Nat) (w : World) (l : List UInt8) (cs : List Value) (q : CT) (deep : Int) (hq : ∃ w0, CV w0 cs q) (h : WrAt B b w l deep true) :
    Calls Tryz.prog 74 #[.pointer (some ⟨b, 0, none⟩), .agg cs.toArray] w (WOdd 0 B b w l) := by
  obtain ⟨w0, hq⟩ := hq
  obtain ⟨k, m, a, p, c, ds, rfl, -⟩ := hq.form
  have hbl := h.lt
  obtain ⟨f2, f3, ff⟩ := h.flag
  have h2 := h.bad_ true
  have hz : (w.setCell ⟨b, 3, none⟩ (.bool true)).heap.size = w.heap.size := by simp [World.setCell]
  have hb := (Below.refl (w.setCell ⟨b, 3, none⟩ (.bool true)).heap.size (w.setCell ⟨b, 3, none⟩ (.bool true))).alloc (Nat.le_refl _) (.cells #[.int .i64 k, .int .i64 m, .string a, .slice p q.parts.length c] 28)
  have hW := Lib.hid (h2.1.later hb)
  have hK := Lib.hid (h2.2.trans (WKeeps.of_below (B := B) (b := b) hb))
  clear h hb h2 hq hz
  go_enter Tryz.func74, Tryz.ntmps74
  go_wp2_with fail
  go_end0
  exact ⟨rfl, hK.out, l, deep, Nat.le_refl _, hW.out⟩
/-- a box for a condition, and its rank: what comes ahead of a part -/
structure Boxed (w0 w : World) (B b : Nat) (l : List UInt8) (deep : Int) (bad : Bool) (cs : List Value) (q : CT) (g : Nat) (w2 : World) : Prop where
  box : Blk w2 g 28 cs.toArray
  wr : WrAt B b w2 l deep bad
  keeps : WKeeps B b w w2
  below : Below w0.heap.size w0 w2
  size : w.heap.size < w2.heap.size
  g_ : g = w.heap.size
set_option maxHeartbeats 4000000 in
set_option maxRecDepth 100000 in
theorem part_odd (w0 : World) (b : Nat) (w : World) (l : List UInt8) (cs : List Value) (q : CT) (deep : Int) (least : Nat) (hq : CV w0 cs q) (hb0 : Below w0.heap.size w0 w) (hz0 : w0.heap.size ≤ w.heap.size) (h : WrAt w0.heap.size b w l deep true) (hln : l.length + 2 ≤ 1000000000) :
    Calls Tryz.prog 50 #[.pointer (some ⟨b, 0, none⟩), .agg cs.toArray, .int .i64 least] w (WOdd 2 w0.heap.size b w l) := by
  obtain ⟨k, m, a, p, c, ds, rfl, -⟩ := hq.form
  have hbl := h.lt
  have hbB := h.1
  have hb := (Below.refl w.heap.size w).alloc (Nat.le_refl _) (.cells #[.int .i64 k, .int .i64 m, .string a, .slice p q.parts.length c] 28)
  have hbx := Blk.new w 28 #[.int .i64 k, .int .i64 m, .string a, .slice p q.parts.length c]
  have hz1 := alloc_size w (.cells #[.int .i64 k, .int .i64 m, .string a, .slice p q.parts.length c] 28)
  obtain ⟨w1, e1⟩ : ∃ w1, w.alloc (.cells #[.int .i64 k, .int .i64 m, .string a, .slice p q.parts.length c] 28) = w1 := ⟨_, rfl⟩
  rw [e1] at hb hbx hz1
  have D := Lib.hid (rank_calls q _ w1 ((hq.later hb0).later hb))
  have h1 := Lib.hid (h.later hb)
  have k1 := Lib.hid (WKeeps.of_below (B := w0.heap.size) (b := b) hb)
  have x1 := Blk.cell hbx
  have hbx' := Lib.hid hbx
  have hq' := Lib.hid hq
  have hz1' := Lib.hid hz1
  clear h hb hbx hq hz1 hb0
  obtain ⟨rk, hrk⟩ : ∃ rk, rankC q = rk := ⟨_, rfl⟩
  rw [hrk] at D
  have hrb : rk ≤ 7 := by
    rw [← hrk]
    unfold rankC
    repeat' split
    all_goals omega
  clear hrk
  go_enter Tryz.func50, Tryz.ntmps50
  go_wp2_with fail
  refine D.out.mono ?_
  rintro e w2 ⟨rfl, hb2⟩
  have hz2 := hb2.size
  have hw1 := hz1'.out
  have hbx2 := hbx'.out.below hb2 (by omega)
  have h2 := h1.out.later hb2
  obtain ⟨f2, f3, ff⟩ := h2.flag
  have k2 := Lib.hid (k1.out.trans (WKeeps.of_below hb2))
  have h2' := Lib.hid h2
  have x2 := Blk.cell hbx2
  have hbx2' := Lib.hid hbx2
  have hbl2 : b < w2.heap.size := by omega
  clear hb2 hbx2 h2 D e1 x1
  by_cases hr : least ≤ rk
  · have er : (least : Int) ≤ (rk : Int) := by omega
    have er2 : decide ((least : Int) ≤ (rk : Int)) = true := decide_eq_true er
    have D := Lib.hid (cond_odd w0.heap.size b w2 l _ q deep ⟨_, hq'.out⟩ h2'.out)
    go_wp2_with fail
    refine D.out.mono ?_
    rintro e w3 ⟨rfl, hk3, l', d', hl', hW3⟩
    go_wp2_with fail
    go_end0
    exact ⟨rfl, k2.out.trans hk3, l', d', by omega, hW3⟩
  · have er : ¬ (least : Int) ≤ (rk : Int) := by omega
    have er3 : (rk : Int) < (least : Int) := by omega
    have er2 : decide ((least : Int) ≤ (rk : Int)) = false := decide_eq_false er
    obtain ⟨dd, hdd⟩ : ∃ dd, wrap64 (deep + 1) = dd := ⟨_, rfl⟩
    obtain ⟨h3, k3⟩ := h2'.out.deep_ dd
    have hz3 : (w2.setCell ⟨b, 2, none⟩ (.int .i64 dd)).heap.size = w2.heap.size := by simp [World.setCell]
    have h3' := Lib.hid h3
    have k3' := Lib.hid (k2.out.trans k3)
    have hz3' := Lib.hid hz3
    clear h3 k3 hz3
    by_cases h8 : 8 < dd
    · have e8 : decide (8 < dd) = true := decide_eq_true h8
      go_wp2_with fail
      go_end0
      obtain ⟨h4, k4⟩ := h3'.out.bad_ true
      exact ⟨rfl, k3'.out.trans k4, l, dd, by omega, h4⟩
    · have e8 : decide (8 < dd) = false := decide_eq_false h8
      have D : Calls Tryz.prog 75 #[.pointer (some ⟨b, 0, none⟩), .int .u8 40] (w2.setCell ⟨b, 2, none⟩ (.int .i64 dd)) fun e w' => e = .returned .nilIface ∧ WrAt w0.heap.size b w' (l ++ [40]) dd true ∧ WKeeps w0.heap.size b (w2.setCell ⟨b, 2, none⟩ (.int .i64 dd)) w' := wbyte_calls w0.heap.size b _ l dd true 40 h3'.out (by omega) (by have := hz3'.out; omega)
      have D' := Lib.hid D
      clear D
      go_wp2_with fail
      refine D'.out.mono ?_
      rintro e w3 ⟨rfl, h4, k4⟩
      have hbx3 := (hbx2'.out.far (p := ⟨b, 2, none⟩) (by intro e; exact Nat.ne_of_lt hbl e.symm) (.int .i64 dd)).wkeeps k4 (by decide) (Nat.ne_of_gt hbl)
      have x3 := Blk.cell hbx3
      have hz4 := k4.size
      have h4' := Lib.hid h4
      have k4' := Lib.hid (k3'.out.trans k4)
      have D2 := Lib.hid (cond_odd w0.heap.size b w3 _ _ q dd ⟨_, hq'.out⟩ h4)
      clear h4 k4 hbx3 x2 f2 f3 ff D'
      go_wp2_with fail
      refine D2.out.mono ?_
      rintro e w4 ⟨rfl, hk5, l5, d5, hl5, hW5⟩
      have hz5 := hk5.size
      have hz3b := hz3'.out
      have hll : (l ++ [40]).length = l.length + 1 := by simp
      have D : Calls Tryz.prog 75 #[.pointer (some ⟨b, 0, none⟩), .int .u8 41] w4 fun e w' => e = .returned .nilIface ∧ WrAt w0.heap.size b w' (l5 ++ [41]) d5 true ∧ WKeeps w0.heap.size b w4 w' := wbyte_calls w0.heap.size b _ l5 d5 true 41 hW5 (by omega) (by omega)
      have D' := Lib.hid D
      have hl5' := Lib.hid hl5
      have hll' := Lib.hid hll
      have k5' := Lib.hid (k4'.out.trans hk5)
      clear D hk5 hW5 D2 x3 hll
      go_wp2_with fail
      refine D'.out.mono ?_
      rintro e w5 ⟨rfl, h6, k6⟩
      obtain ⟨f2, f3, ff⟩ := h6.flag
      have h6' := Lib.hid h6
      have k6' := Lib.hid (k5'.out.trans k6)
      clear h6 k6 D'
      obtain ⟨d6, hd6⟩ : ∃ d6, wrap64 (d5 - 1) = d6 := ⟨_, rfl⟩
      go_wp2_with fail
      go_end0
      obtain ⟨h7, k7⟩ := h6'.out.deep_ d6
      exact ⟨rfl, k6'.out.trans k7, l5 ++ [41], d6, by rw [List.length_append]; show l5.length + 1 ≤ _; have := hll'.out; omega, h7⟩
end Go.Proofs.YtdfgbkilaepolaaGreatDoor
