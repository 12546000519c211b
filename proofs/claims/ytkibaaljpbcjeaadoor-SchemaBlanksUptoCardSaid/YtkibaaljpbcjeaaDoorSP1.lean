/- Walk: the law SchemaParses. -/
import Derived.Test.YtkibaaljpbcjeaaDoorSF2
import Derived.Test.YtkibaaljpbcjeaaDoorSD7
import Derived.Test.YtkibaaljpbcjeaaDoorSE4
namespace Go.Proofs.YtkibaaljpbcjeaaDoor
open Go.RowKit
set_option maxHeartbeats 1000000 in
set_option maxRecDepth 100000 in
theorem dparse_long (s : ByteArray) (w : World) (hs : 65536 < s.size) (hs2 : s.size ≤ maxLen) :
    Calls Tryd.prog 9 #[.string s] w fun e w' => e = .returned (.tuple #[.agg #[.slice none 0 0], .int .i64 0, .int .i64 10]) ∧ Below w.heap.size w w' := by
  have hR := Blk.new w 25 #[.slice none 0 0]
  have Rc := hR.cell
  have Rf := hR.frozen
  have hB := (Below.refl w.heap.size w).alloc (Nat.le_refl _) (.cells #[.slice none 0 0] 25)
  have hB' := Lib.hid hB
  clear hB hR
  unfold maxLen at hs2
  go_enter Tryd.func9, Tryd.ntmps9
  go_wp2_with fail
  refine bodyPost_ret (v := .tuple #[.agg #[.slice none 0 0], .int .i64 0, .int .i64 10]) (by simp [results, Tryd.results9, go_sem, Rc]) rfl ?_
  exact ⟨rfl, hB'.out⟩
/-- both texts' lines mean the same -/
theorem parse_both (s : ByteArray) : parseG ((linesB s).map (·.data.toList)) 0 [] = parseD (linesG s.data.toList) 0 [] := by
  rw [linesB_cut, parse_same]
/-- what both parses tell, as it may be -/
theorem DParseSaid.both {w w2 : World} {ls : List (List UInt8)} {e : Ending} (h : DParseSaid w ls e w2) : ∃ (ts : List TyD) (k x : Int), ((x = 0 ∧ k = 0 ∧ parseD ls 0 [] = (some ts, 0)) ∨ (x = 9 ∧ ts = [] ∧ parseD ls 0 [] = (none, k))) ∧ ∃ p c, e = .returned (.tuple #[.agg #[.slice p ts.length c], .int .i64 k, .int .i64 x]) ∧ (tysW ts ≤ 5000000 → SchV w2 (.slice p ts.length c) ts) ∧ Below w.heap.size w w2 := by
  obtain ⟨hb, h⟩ := h
  rcases h with ⟨k, hk, he⟩ | ⟨ts, v, us, ht, he, hS⟩
  · refine ⟨[], k, 9, .inr ⟨rfl, rfl, hk⟩, none, 0, he, fun _ => ?_, hb⟩
    exact ⟨[], ⟨Nat.zero_le _, .inl ⟨none, 0, rfl, rfl⟩⟩, rfl, fun i n rels hi => by cases hi⟩
  · obtain ⟨p, c, rfl⟩ := own_slice hS.row
    exact ⟨ts, 0, 0, .inl ⟨rfl, rfl, ht⟩, p, c, he, fun hW => SchV.of_sch hS (N := 5000000) (Nat.le_trans (by decide) big_max) (tsSmall_of hW), hb⟩
theorem ParseSaid.both {w w2 : World} {ls : List (List UInt8)} {e : Ending} (h : ParseSaid w ls e w2) : ∃ (ts : List TyD) (k x : Int), ((x = 0 ∧ k = 0 ∧ parseG ls 0 [] = (some ts, 0)) ∨ (x = 9 ∧ ts = [] ∧ parseG ls 0 [] = (none, k))) ∧ ∃ p c, e = .returned (.tuple #[.agg #[.slice p ts.length c], .int .i64 k, .int .i64 x]) ∧ (tysW ts ≤ 5000000 → SchV w2 (.slice p ts.length c) ts) ∧ Below w.heap.size w w2 := by
  obtain ⟨hb, h⟩ := h
  rcases h with ⟨k, hk, he⟩ | ⟨ts, v, us, ht, he, hS⟩
  · refine ⟨[], k, 9, .inr ⟨rfl, rfl, hk⟩, none, 0, he, fun _ => ?_, hb⟩
    exact ⟨[], ⟨Nat.zero_le _, .inl ⟨none, 0, rfl, rfl⟩⟩, rfl, fun i n rels hi => by cases hi⟩
  · obtain ⟨p, c, rfl⟩ := own_slice hS.row
    exact ⟨ts, 0, 0, .inl ⟨rfl, rfl, ht⟩, p, c, he, fun hW => SchV.of_sch hS (N := 5000000) (Nat.le_trans (by decide) big_max) (tsSmall_of hW), hb⟩
/-- both parses of one text tell the same -/
theorem tell_same {s : ByteArray} {t1 t2 : List TyD} {k1 k2 x1 x2 : Int} (hs : s.size ≤ 65536) (h1 : (x1 = 0 ∧ k1 = 0 ∧ parseG ((linesB s).map (·.data.toList)) 0 [] = (some t1, 0)) ∨ (x1 = 9 ∧ t1 = [] ∧ parseG ((linesB s).map (·.data.toList)) 0 [] = (none, k1))) (h2 : (x2 = 0 ∧ k2 = 0 ∧ parseD (linesG s.data.toList) 0 [] = (some t2, 0)) ∨ (x2 = 9 ∧ t2 = [] ∧ parseD (linesG s.data.toList) 0 [] = (none, k2))) : x2 = x1 ∧ k2 = k1 ∧ t2 = t1 ∧ tysW t1 ≤ 5000000 := by
  rw [parse_both] at h1
  have h0 : tysW [] ≤ 5000000 := by rw [tysW_nil]; exact Nat.zero_le _
  rcases h1 with ⟨a1, a2, a3⟩ | ⟨a1, a2, a3⟩ <;> rcases h2 with ⟨b1, b2, b3⟩ | ⟨b1, b2, b3⟩ <;> rw [a3] at b3
  · have hW := parse_W a3
    rw [← Lib.size_eq] at hW
    exact ⟨by omega, by omega, (Option.some.inj (Prod.mk.inj b3).1).symm, by omega⟩
  · cases (Prod.mk.inj b3).1
  · cases (Prod.mk.inj b3).1
  · refine ⟨by omega, ((Prod.mk.inj b3).2).symm, by rw [a2, b2], by rw [a2]; exact h0⟩
set_option maxHeartbeats 4000000 in
set_option maxRecDepth 100000 in
theorem schemaParses_calls (s : ByteArray) (m : Int) (w : World) (hs : s.size ≤ maxLen) (hm : w.cell? ⟨0, 0, none⟩ = some (.int .i64 m)) :
    Calls Tryd.prog 3 #[.string s] w fun e w' => e = .returned (.bool true) ∧ Below w.heap.size w w' := by
  have hg : 0 < w.heap.size := World.block_lt_of_cell? w _ hm
  have F := fixed_calls m w hg hm
  have hlater : ∀ W, Below w.heap.size w W → 0 < W.heap.size ∧ W.cell? ⟨0, 0, none⟩ = some (.int .i64 m) := fun W hb => ⟨Nat.lt_of_lt_of_le hg hb.size, by rw [hb.cell (p := ⟨0, 0, none⟩) hg]; exact hm⟩
  have hlater' := Lib.hid hlater
  have F' := Lib.hid F
  have hs' := Lib.hid hs
  unfold maxLen at hs
  clear hlater F hg hm
  by_cases hskip : (3000 < s.size ∧ s.size ≤ 65536) ∨ 65600 < s.size
  · rcases hskip with ⟨h1, h2⟩ | h1
    all_goals
      go_enter Tryd.func3, Tryd.ntmps3
      go_wp2_with fail
      refine F'.out.mono ?_
      rintro e w1 ⟨rfl, hb1⟩
      go_wp2_with fail
      go_ret
      exact ⟨rfl, hb1⟩
  · have hboth : ∀ W, Below w.heap.size w W → ∃ (ts : List TyD) (k x : Int), tysW ts ≤ 5000000 ∧ Calls Tryd.prog 8 #[.string s] W (fun e w2 => ∃ p c, e = .returned (.tuple #[.agg #[.slice p ts.length c], .int .i64 k, .int .i64 x]) ∧ SchV w2 (.slice p ts.length c) ts ∧ Below W.heap.size W w2) ∧ ∀ W2, Below w.heap.size w W2 → Calls Tryd.prog 9 #[.string s] W2 fun e w2 => ∃ p c, e = .returned (.tuple #[.agg #[.slice p ts.length c], .int .i64 k, .int .i64 x]) ∧ SchV w2 (.slice p ts.length c) ts ∧ Below W2.heap.size W2 w2 := fun W hW => by
      by_cases hl : 65536 < s.size
      · have hnil : ∀ W, SchV W (.slice none 0 0) [] := fun W => ⟨[], ⟨Nat.zero_le _, .inl ⟨none, 0, rfl, rfl⟩⟩, rfl, fun i n rels hi => by cases hi⟩
        refine ⟨[], 0, 10, by rw [tysW_nil]; exact Nat.zero_le _, (parse_long s W hl hs'.out).mono ?_, fun W2 _ => (dparse_long s W2 hl hs'.out).mono ?_⟩
        · rintro e w2 ⟨rfl, hb⟩; exact ⟨_, _, rfl, hnil _, hb⟩
        · rintro e w2 ⟨rfl, hb⟩; exact ⟨_, _, rfl, hnil _, hb⟩
      · obtain ⟨ts, k, x, hp⟩ : ∃ (ts : List TyD) (k x : Int), (x = 0 ∧ k = 0 ∧ parseG ((linesB s).map (·.data.toList)) 0 [] = (some ts, 0)) ∨ (x = 9 ∧ ts = [] ∧ parseG ((linesB s).map (·.data.toList)) 0 [] = (none, k)) := by
          cases hq : parseG ((linesB s).map (·.data.toList)) 0 [] with
          | mk o k =>
            cases o with
            | none => exact ⟨[], k, 9, .inr ⟨rfl, rfl, rfl⟩⟩
            | some ts =>
              have hk : k = 0 := by
                have : ∀ (ls : List (List UInt8)) (i : Nat) (t0 : List TyD), parseG ls i t0 = (some ts, k) → k = 0 := by
                  intro ls
                  induction ls with
                  | nil => intro i t0 h; exact (Prod.mk.inj h).2.symm
                  | cons l ls ih =>
                    intro i t0 h
                    unfold parseG at h
                    split at h
                    · exact ih _ _ h
                    · split at h
                      · cases (Prod.mk.inj h).1
                      · exact ih _ _ h
                exact this _ _ _ hq
              subst hk
              exact ⟨ts, 0, 0, .inl ⟨rfl, rfl, rfl⟩⟩
        have hself : ∀ (t2 : List TyD) (k2 x2 : Int), ((x2 = 0 ∧ k2 = 0 ∧ parseG ((linesB s).map (·.data.toList)) 0 [] = (some t2, 0)) ∨ (x2 = 9 ∧ t2 = [] ∧ parseG ((linesB s).map (·.data.toList)) 0 [] = (none, k2))) → x2 = x ∧ k2 = k ∧ t2 = ts := fun t2 k2 x2 h => by
          have h' := h
          rw [parse_both] at h'
          obtain ⟨a, b, c, _⟩ := tell_same (by omega) hp h'
          exact ⟨a, b, c⟩
        have hWt : tysW ts ≤ 5000000 := by
          have h' := hp
          rw [parse_both] at h'
          exact (tell_same (by omega) hp h').2.2.2
        obtain ⟨hg, hm⟩ := hlater'.out W hW
        refine ⟨ts, k, x, hWt, (parse_calls s m W (by omega) hg hm).mono ?_, fun W2 _ => (dparse_calls s W2 (by omega)).mono ?_⟩
        · intro e w2 h
          obtain ⟨t2, k2, x2, hq, p, c, he, hV, hb⟩ := h.both
          obtain ⟨rfl, rfl, rfl⟩ := hself _ _ _ hq
          exact ⟨p, c, he, hV hWt, hb⟩
        · intro e w2 h
          obtain ⟨t2, k2, x2, hq, p, c, he, hV, hb⟩ := h.both
          obtain ⟨rfl, rfl, rfl, _⟩ := tell_same (by omega) hp hq
          exact ⟨p, c, he, hV hWt, hb⟩
    have hboth' := Lib.hid hboth
    clear hboth
    have hsz : s.size ≤ 3000 ∨ (65536 < s.size ∧ s.size ≤ 65600) := by omega
    clear hskip
    rcases hsz with hsz | ⟨hsz, hsz2⟩
    all_goals
      go_enter Tryd.func3, Tryd.ntmps3
      go_wp2_with fail
      refine F'.out.mono ?_
      rintro e w1 ⟨rfl, hb1⟩
      have l1 := hb1.size
      obtain ⟨ts, k, x, hWt, P1, P2⟩ := hboth'.out w1 hb1
      have P1' := Lib.hid P1
      have P2' := Lib.hid P2
      clear P1 P2 hWt
      go_wp2_with fail
      refine P1'.out.mono ?_
      rintro e w2 ⟨p, c, rfl, hV2, hb2⟩
      have l2 := hb2.size
      have B2 := hb1.trans (hb2.mono l1)
      have bx3 := Blk.new w2 25 #[.slice p ts.length c]
      have hb3 := (Below.refl w2.heap.size w2).alloc (Nat.le_refl _) (.cells #[.slice p ts.length c] 25)
      have B3 := B2.trans (hb3.mono (by omega))
      have hV3 := hV2.later hb3
      have hz3 : (w2.alloc (.cells #[.slice p ts.length c] 25)).heap.size = w2.heap.size + 1 := by simp
      obtain ⟨w3, e3⟩ : ∃ w3, w3 = w2.alloc (.cells #[.slice p ts.length c] 25) := ⟨_, rfl⟩
      have P3 := P2'.out _ B3
      have P3' := Lib.hid P3
      rw [← e3] at bx3 hb3 B3 hV3 hz3
      have bx3' := Lib.hid bx3
      have hV3' := Lib.hid hV3
      have B3' := Lib.hid B3
      have e3' := Lib.hid e3
      clear P3 bx3 hb3 hV3 B3 hV2 hb2 B2 hb1 e3
      go_wp2_with fail
      refine P3'.out.mono ?_
      rw [← e3'.out]
      rintro e w4 ⟨q, d, rfl, hV4, hb4⟩
      have l4 := hb4.size
      have bx4 := bx3'.out.below hb4 (by omega)
      have hV4a := hV3'.out.later hb4
      have B4 := B3'.out.trans (hb4.mono (by omega))
      obtain ⟨w5, e5⟩ : ∃ w5, w5 = w4.alloc (.cells #[.slice q ts.length d] 25) := ⟨_, rfl⟩
      have hb5 := (Below.refl w4.heap.size w4).alloc (Nat.le_refl _) (.cells #[.slice q ts.length d] 25)
      have S := same_calls _ _ ts ts _ (hV4a.later hb5) (hV4.later hb5)
      have B5 := B4.trans (hb5.mono (by omega))
      have bx5 := bx4.below hb5 bx4.lt
      have cx4 := bx4.cell
      have l24 := bx4.lt
      have hz5 : (w4.alloc (.cells #[.slice q ts.length d] 25)).heap.size = w4.heap.size + 1 := by simp
      have S' := Lib.hid S
      have B5' := Lib.hid B5
      have hxx : (x == x) = true := beq_self_eq_true _
      have hkk : (k == k) = true := beq_self_eq_true _
      clear S B5 bx5 hb5 hV4 hV4a bx4 B4 hb4 e5
      go_wp2_with fail
      refine S'.out.mono ?_
      rintro e w6 ⟨b, rfl, hbe, hb6⟩
      obtain rfl : b = true := hbe.2 trivial
      have B6 := B5'.out.trans (hb6.mono (by omega))
      have B6' := Lib.hid B6
      clear B6 hb6 hbe
      go_wp2_with fail
      go_ret
      exact ⟨rfl, B6'.out⟩
end Go.Proofs.YtkibaaljpbcjeaaDoor
