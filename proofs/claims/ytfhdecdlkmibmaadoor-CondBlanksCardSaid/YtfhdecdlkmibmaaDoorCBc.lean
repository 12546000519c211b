/- Walk: conditions: the document's Same. -/
import Derived.Test.YtfhdecdlkmibmaaDoorCBb
import Derived.Deep.RegionHeld3
namespace Go.Proofs.YtfhdecdlkmibmaaDoor
open Go.RowKit
theorem node_eq {k k' a a' : Int} {b b' : List UInt8} {ps ps' : List CT} : CT.node k a b ps = .node k' a' b' ps' ↔ k = k' ∧ a = a' ∧ b = b' ∧ ps = ps' := by
  constructor
  · intro e; injection e with h1 h2 h3 h4; exact ⟨h1, h2, h3, h4⟩
  · rintro ⟨rfl, rfl, rfl, rfl⟩; rfl
abbrev SameSaid (w : World) (r1 r2 : CT) (e : Ending) (w' : World) : Prop := ∃ b : Bool, e = .returned (.bool b) ∧ (b = true ↔ r1 = r2) ∧ Below w.heap.size w w'
theorem list_eq_of {ps qs : List CT} (hl : ps.length = qs.length) (h : ∀ j, j < ps.length → ps[j]? = qs[j]?) : ps = qs := by
  apply List.ext_getElem? 
  intro j
  by_cases hj : j < ps.length
  · exact h j hj
  · rw [List.getElem?_eq_none (by omega), List.getElem?_eq_none (by omega)]
/-- all that lay in wr reads as it did -/
abbrev Kept (wr w' : World) : Prop := (∀ q i, q < wr.heap.size → w'.cell? ⟨q, i, none⟩ = wr.cell? ⟨q, i, none⟩) ∧ Below wr.heap.size wr w'
theorem Kept.start (wr : World) : Kept wr wr.drew := ⟨fun _ _ _ => rfl, (Below.refl _ _).drew⟩
theorem Kept.next {wr w3 w4 : World} (h : Kept wr w3) (hb : Below w3.heap.size w3 w4) : Kept wr w4 :=
  ⟨fun q i hq => by rw [hb.cell (p := ⟨q, i, none⟩) (Nat.lt_of_lt_of_le hq h.2.size)]; exact h.1 q i hq, h.2.trans (hb.mono h.2.size)⟩
theorem data_inj {a b : ByteArray} (h : a.data.toList = b.data.toList) : a = b := by
  apply ByteArray.ext
  exact Array.toList_inj.1 h
set_option maxHeartbeats 4000000 in
set_option maxRecDepth 100000 in
theorem same_step (r1 : CT) (hrec : ∀ q ∈ r1.parts, ∀ (cs1 cs2 : List Value) (q2 : CT) (w : World), CV w cs1 q → CV w cs2 q2 → Calls Tryd.prog 9 #[.agg cs1.toArray, .agg cs2.toArray] w (SameSaid w q q2))
    (cs1 cs2 : List Value) (r2 : CT) (w : World) (h1 : CV w cs1 r1) (h2 : CV w cs2 r2) : Calls Tryd.prog 9 #[.agg cs1.toArray, .agg cs2.toArray] w (SameSaid w r1 r2) := by
  obtain ⟨k1, a1, b1, p1, c1, ds1, rfl, hr1, hrow1, hlen1, hp1⟩ := h1.form
  obtain ⟨k2, a2, b2, p2, c2, ds2, rfl, hr2, hrow2, hlen2, hp2⟩ := h2.form
  have heq : r1 = r2 ↔ k1 = k2 ∧ a1 = a2 ∧ b1.data.toList = b2.data.toList ∧ r1.parts = r2.parts := by
    conv => lhs; rw [hr1, hr2]
    exact node_eq
  have bx1 := (Blk.new w 25 #[.int .i64 k1, .int .i64 a1, .string b1, .slice p1 r1.parts.length c1]).alloc (.cells #[.int .i64 k2, .int .i64 a2, .string b2, .slice p2 r2.parts.length c2] 25)
  have bx2 := Blk.new (w.alloc (.cells #[.int .i64 k1, .int .i64 a1, .string b1, .slice p1 r1.parts.length c1] 25)) 25 #[.int .i64 k2, .int .i64 a2, .string b2, .slice p2 r2.parts.length c2]
  simp only [World.size_alloc] at bx2
  have hb := ((Below.refl w.heap.size w).alloc (Nat.le_refl _) (.cells #[.int .i64 k1, .int .i64 a1, .string b1, .slice p1 r1.parts.length c1] 25)).alloc (by simp) (.cells #[.int .i64 k2, .int .i64 a2, .string b2, .slice p2 r2.parts.length c2] 25)
  obtain ⟨W, eW⟩ : ∃ W, (w.alloc (.cells #[.int .i64 k1, .int .i64 a1, .string b1, .slice p1 r1.parts.length c1] 25)).alloc (.cells #[.int .i64 k2, .int .i64 a2, .string b2, .slice p2 r2.parts.length c2] 25) = W := ⟨_, rfl⟩
  have hzW : W.heap.size = w.heap.size + 2 := by rw [← eW]; simp
  rw [eW] at bx1 bx2 hb
  have eb := beq_str b1 b2
  have hmax := hrow1.1
  unfold maxLen at hmax
  have x1c := bx1.cell
  have x2c := bx2.cell
  have hrec' := Lib.hid hrec
  have hrow1' := Lib.hid hrow1
  have hrow2' := Lib.hid hrow2
  have hp1' := Lib.hid hp1
  have hp2' := Lib.hid hp2
  have heq' := Lib.hid heq
  have bx1' := Lib.hid bx1
  have bx2' := Lib.hid bx2
  have hb' := Lib.hid hb
  clear hrec hrow1 hrow2 hp1 hp2 heq bx1 bx2 hb hr1 hr2 h1 h2 hlen1 hlen2
  by_cases hc : k1 = k2 ∧ a1 = a2 ∧ b1.data.toList = b2.data.toList ∧ r1.parts.length = r2.parts.length
  · obtain ⟨rfl, ha, hbb, hl⟩ := hc
    obtain rfl := ha
    obtain rfl := data_inj hbb
    have heq2 : r1 = r2 ↔ r1.parts = r2.parts := ⟨fun e => by rw [e], fun e => heq'.out.2 ⟨rfl, rfl, rfl, e⟩⟩
    have heq2' := Lib.hid heq2
    clear heq2 heq' hbb eb
    generalize r1.parts = ps1 at *
    generalize r2.parts = ps2 at *
    generalize hn1 : ps1.length = n1 at *
    generalize hn2 : ps2.length = n2 at *
    obtain rfl : n1 = n2 := hl
    have hn1' := Lib.hid hn1
    have hn2' := Lib.hid hn2
    clear hn1 hn2
    go_enter Tryd.func9, Tryd.ntmps9
    go_wp2_with fail
    go_loopw [37] (fun i wr => ∃ j : Nat, j ≤ n1 ∧ i = .int .i64 j ∧ (∀ t, t < j → ps1[t]? = ps2[t]?) ∧ Blk wr w.heap.size 25 #[.int .i64 k1, .int .i64 a1, .string b1, .slice p1 n1 c1] ∧ Blk wr (w.heap.size + 1) 25 #[.int .i64 k1, .int .i64 a1, .string b1, .slice p2 n1 c2] ∧ Below w.heap.size w wr ∧ w.heap.size + 2 ≤ wr.heap.size) (fun i _ => n1 - (intOf i).toNat)
    case atStart => exact ⟨0, Nat.zero_le _, rfl, fun t h => absurd h (Nat.not_lt_zero _), bx1'.out, bx2'.out, hb'.out, by omega⟩
    case round =>
      obtain ⟨j, hj, rfl, hall, hx1, hx2, hB, hz⟩ := hrel
      by_cases hlt : j < n1
      · have hl1 : j < ps1.length := by rw [hn1'.out]; exact hlt
        have hl2 : j < ps2.length := by rw [hn2'.out]; exact hlt
        have hq1 : ps1[j]? = some ps1[j] := List.getElem?_eq_getElem hl1
        have hq2 : ps2[j]? = some ps2[j] := List.getElem?_eq_getElem hl2
        obtain ⟨g1, o1, rfl, hc1, hcell1⟩ := (hrow1'.out.below hB).cell (by omega)
        obtain ⟨g2, o2, rfl, hc2, hcell2⟩ := (hrow2'.out.below hB).cell (by omega)
        obtain ⟨kx, ax, bx, px, cx, R1, -, l1, x0, x1, x2, x3⟩ := CV.part hcell1 hq1 ((hp1'.out j _ hq1).later hB)
        obtain ⟨ky, ay, byy, py, cy, R2, -, l2, y0, y1, y2, y3⟩ := CV.part hcell2 hq2 ((hp2'.out j _ hq2).later hB)
        generalize hQ1 : ps1[j] = q1 at *
        generalize hQ2 : ps2[j] = q2 at *
        have hcall : ∀ W', Below wr.heap.size wr W' → Calls Tryd.prog 9 #[.agg #[.int .i64 kx, .int .i64 ax, .string bx, .slice px q1.parts.length cx], .agg #[.int .i64 ky, .int .i64 ay, .string byy, .slice py q2.parts.length cy]] W' (SameSaid W' q1 q2) := fun W' hBW => hrec'.out q1 (List.mem_of_getElem? hq1) _ _ q2 W' (R1.later hBW) (R2.later hBW)
        have hx1c := hx1.cell
        have hx2c := hx2.cell
        have lA : w.heap.size < wr.heap.size := by omega
        have lB : w.heap.size + 1 < wr.heap.size := by omega
        have hcall' := Lib.hid hcall
        have hall' := Lib.hid hall
        have hq1' := Lib.hid hq1
        have hq2' := Lib.hid hq2
        have hmax' := Lib.hid hmax
        clear hmax eW hzW x1c x2c hall hq1 hq2 hQ1 hQ2 hl1 hl2 hcall R1 R2 hcell1 hcell2
        go_wp2_with fail
        go_region_held3 (fun w' => (∀ q i, q < wr.heap.size → w'.cell? ⟨q, i, none⟩ = wr.cell? ⟨q, i, none⟩) ∧ Below wr.heap.size wr w')
          (first | exact Kept.start _ | exact Kept.next (by assumption) (by assumption))
          ((go_at_call 9; with_reducible refine (hcall'.out _ (by first | assumption | exact (by assumption : Kept wr _).2)).mono ?_; rintro e w3 ⟨bq, rfl, hbq, hb3⟩))
        rename_i w5 hS5
        have hz5 := hb3.size
        have hB5 := hS5.2
        have hx15 := hx1.below hB5 lA
        have hx25 := hx2.below hB5 lB
        have hB5' := hB.trans (hB5.mono (by omega))
        have hz6 := hB5.size
        clear hS5 hx1 hx2 x0 x1 x2 x3 y0 y1 y2 y3
        cases bq
        · have hne : ¬ r1 = r2 := fun e => by
            have e2 := heq2'.out.1 e
            have h1 := hq1'.out
            rw [e2, hq2'.out] at h1
            have := hbq.2 (Option.some.inj h1).symm
            cases this
          have hne' := Lib.hid hne
          have hB6 := Lib.hid hB5'
          clear hne hB5'
          go_wp2_with fail
          go_ret
          exact ⟨false, rfl, ⟨fun e => (by cases e), fun e => absurd e hne'.out⟩, hB6.out⟩
        · have hqq := hbq.1 rfl
          have hall2 : ∀ t, t < j + 1 → ps1[t]? = ps2[t]? := fun t ht => by
            by_cases htj : t = j
            · rw [htj, hq1'.out, hq2'.out, hqq]
            · exact hall'.out t (by omega)
          have hall2' := Lib.hid hall2
          have hmx := hmax'.out
          clear hall2 hqq hbq
          go_wp2_with fail
          go_roundw
          case rel => exact ⟨j + 1, by omega, by go_num, hall2'.out, hx15, hx25, hB5', by omega⟩
          case measure => simp [intOf]; omega
      · obtain rfl : j = n1 := by omega
        have heqf : r1 = r2 := heq2'.out.2 (list_eq_of (by rw [hn1'.out, hn2'.out]) fun t ht => hall t (by rw [hn1'.out] at ht; exact ht))
        have heqf' := Lib.hid heqf
        clear heqf hall
        go_wp2_with fail
        go_ret
        exact ⟨true, rfl, ⟨fun _ => heqf'.out, fun _ => rfl⟩, hB⟩
  · have hne : ¬ r1 = r2 := fun e => by
      have := heq'.out.1 e
      exact hc ⟨this.1, this.2.1, this.2.2.1, by rw [this.2.2.2]⟩
    have hcs : (k1 == k2) = false ∨ ((k1 == k2) = true ∧ (a1 == a2) = false) ∨ ((k1 == k2) = true ∧ (a1 == a2) = true ∧ (b1.toList == b2.toList) = false) ∨ ((k1 == k2) = true ∧ (a1 == a2) = true ∧ (b1.toList == b2.toList) = true ∧ ¬ r1.parts.length = r2.parts.length) := by
      rw [eb]
      by_cases h1 : k1 = k2
      · by_cases h2 : a1 = a2
        · by_cases h3 : b1.data.toList = b2.data.toList
          · exact .inr (.inr (.inr ⟨by rw [h1]; exact beq_self_eq_true _, by rw [h2]; exact beq_self_eq_true _, by rw [h3]; exact beq_self_eq_true _, fun e => hc ⟨h1, h2, h3, e⟩⟩))
          · exact .inr (.inr (.inl ⟨by rw [h1]; exact beq_self_eq_true _, by rw [h2]; exact beq_self_eq_true _, beq_false_of_ne h3⟩))
        · exact .inr (.inl ⟨by rw [h1]; exact beq_self_eq_true _, beq_false_of_ne h2⟩)
      · exact .inl (beq_false_of_ne h1)
    have hne' := Lib.hid hne
    clear hc hne eb
    rcases hcs with e1 | ⟨e1, e2⟩ | ⟨e1, e2, e3⟩ | ⟨e1, e2, e3, e4⟩
    all_goals
      go_enter Tryd.func9, Tryd.ntmps9
      go_wp2_with fail
      all_goals
        go_ret
        exact ⟨false, rfl, ⟨fun e => (by cases e), fun e => absurd e hne'.out⟩, hb'.out⟩
theorem same_calls (r1 : CT) (cs1 cs2 : List Value) (r2 : CT) (w : World) (h1 : CV w cs1 r1) (h2 : CV w cs2 r2) : Calls Tryd.prog 9 #[.agg cs1.toArray, .agg cs2.toArray] w (SameSaid w r1 r2) :=
  same_step r1 (fun q _ cs1 cs2 q2 w h1 h2 => same_calls q cs1 cs2 q2 w h1 h2) cs1 cs2 r2 w h1 h2
termination_by SizeOf.sizeOf r1
decreasing_by exact partc_lt (by assumption)
end Go.Proofs.YtfhdecdlkmibmaaDoor
