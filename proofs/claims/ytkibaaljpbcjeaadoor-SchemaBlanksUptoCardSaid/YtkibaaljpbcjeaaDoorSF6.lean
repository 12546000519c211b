/- Walks: the document's Small and Few. Walk: the document's Few. -/
import Derived.Test.YtkibaaljpbcjeaaDoorSAr
namespace Go.Proofs.YtkibaaljpbcjeaaDoor
open Go.RowKit
mutual
/-- what is left behind a rule -/
def small : RT → Int → Int
  | .node _ a b ps, left => smallL ps (left - 1 - ((a.length / 100 : Nat) : Int) - ((b.length / 100 : Nat) : Int))
def smallL : List RT → Int → Int
  | [], left => left
  | p :: ps, left => if left < 0 then left else smallL ps (small p left)
end
theorem smallL_nil (x : Int) : smallL [] x = x := by unfold smallL; rfl
theorem smallL_cons (p : RT) (ps : List RT) (x : Int) : smallL (p :: ps) x = if x < 0 then x else smallL ps (small p x) := by conv => lhs; unfold smallL
theorem small_eq (r : RT) (x : Int) : small r x = (match r with | .node _ a b ps => smallL ps (x - 1 - ((a.length / 100 : Nat) : Int) - ((b.length / 100 : Nat) : Int))) := by cases r; unfold small; rfl
theorem div_max {n : Nat} (h : n ≤ maxLen) : n / 100 ≤ 92233720368547758 := by
  unfold maxLen at h
  omega
/-- how far below it comes -/
theorem small_low : ∀ (r : RT) (x : Int), r.fits → -100000000000000000 ≤ x → -400000000000000000 ≤ small r x ∧ small r x ≤ x - 1
  | .node k a b ps, x, hf, hx => by
    cases hf with
    | mk ha hb hp =>
      have h1 := div_max ha
      have h2 := div_max hb
      have hrec : ∀ p ∈ ps, ∀ y, 0 ≤ y → -400000000000000000 ≤ small p y ∧ small p y ≤ y - 1 := fun p hpm y hy => small_low p y (hp p hpm) (by omega)
      have hL : ∀ (qs : List RT), (∀ p ∈ qs, p ∈ ps) → ∀ y, -400000000000000000 ≤ y → -400000000000000000 ≤ smallL qs y ∧ smallL qs y ≤ y := by
        intro qs
        induction qs with
        | nil => intro _ y hy; rw [smallL_nil]; exact ⟨hy, Int.le_refl _⟩
        | cons q qs ih =>
          intro hm y hy
          rw [smallL_cons]
          by_cases h0 : y < 0
          · rw [if_pos h0]; exact ⟨hy, Int.le_refl _⟩
          · rw [if_neg h0]
            obtain ⟨h3, h4⟩ := hrec q (hm q (by simp)) y (by omega)
            obtain ⟨h5, h6⟩ := ih (fun p hp => hm p (List.mem_cons_of_mem _ hp)) (small q y) h3
            exact ⟨h5, by omega⟩
      rw [small_eq]
      show -400000000000000000 ≤ smallL ps (x - 1 - ((a.length / 100 : Nat) : Int) - ((b.length / 100 : Nat) : Int)) ∧ _
      obtain ⟨h3, h4⟩ := hL ps (fun _ h => h) (x - 1 - ((a.length / 100 : Nat) : Int) - ((b.length / 100 : Nat) : Int)) (by omega)
      exact ⟨h3, by show smallL ps _ ≤ _; omega⟩
termination_by r => SizeOf.sizeOf r
decreasing_by exact part_lt (r := .node k a b ps) hpm
theorem fits_part {r p : RT} (h : r.fits) (hp : p ∈ r.parts) : p.fits := by
  cases h with
  | mk _ _ h => exact h p hp
set_option maxHeartbeats 4000000 in
set_option maxRecDepth 100000 in
theorem small_step (r : RT) (hrec : ∀ q ∈ r.parts, ∀ (cs : List Value) (x : Int) (w : World), RV w cs q → q.fits → -100000000000000000 ≤ x → x ≤ 200 → Calls Tryd.prog 24 #[.agg cs.toArray, .int .i64 x] w fun e w' => e = .returned (.int .i64 (small q x)) ∧ Below w.heap.size w w')
    (cs : List Value) (x : Int) (w : World) (hR : RV w cs r) (hf : r.fits) (hx : -100000000000000000 ≤ x) (hx2 : x ≤ 200) : Calls Tryd.prog 24 #[.agg cs.toArray, .int .i64 x] w fun e w' => e = .returned (.int .i64 (small r x)) ∧ Below w.heap.size w w' := by
  obtain ⟨k, a, bb, p, c, ds, rfl, hq, hrow, hlen, hp⟩ := hR.form
  have hmax := hrow.1
  unfold maxLen at hmax
  have hlow : ∀ q ∈ r.parts, ∀ y, 0 ≤ y → -400000000000000000 ≤ small q y ∧ small q y ≤ y - 1 := fun q hqm y hy => small_low q y (fits_part hf hqm) (by omega)
  have hfp : ∀ q ∈ r.parts, q.fits := fun q hqm => fits_part hf hqm
  have hab : a.size ≤ maxLen ∧ bb.size ≤ maxLen := by
    rw [hq] at hf
    cases hf with
    | mk h1 h2 _ => rw [← Lib.size_eq] at h1 h2; exact ⟨h1, h2⟩
  have hda := div_max hab.1
  have hdb := div_max hab.2
  obtain ⟨y, ey⟩ : ∃ y, x - 1 - ((a.size / 100 : Nat) : Int) - ((bb.size / 100 : Nat) : Int) = y := ⟨_, rfl⟩
  have hsm : small r x = smallL r.parts y := by
    rw [hq, small_eq, ← ey, Lib.size_eq, Lib.size_eq]
    rfl
  rw [hsm]
  have hy1 : -400000000000000000 ≤ y := by omega
  have hy2 : y ≤ 200 := by omega
  have bx := Blk.new w 42 #[.int .i64 k, .string a, .string bb, .slice p r.parts.length c]
  have hb := (Below.refl w.heap.size w).alloc (Nat.le_refl _) (.cells #[.int .i64 k, .string a, .string bb, .slice p r.parts.length c] 42)
  obtain ⟨W, eW⟩ : ∃ W, w.alloc (.cells #[.int .i64 k, .string a, .string bb, .slice p r.parts.length c] 42) = W := ⟨_, rfl⟩
  have hzW : W.heap.size = w.heap.size + 1 := by rw [← eW]; simp
  rw [eW] at bx hb
  have bxc := bx.cell
  have hrec' := Lib.hid hrec
  have hrow' := Lib.hid hrow
  have hp' := Lib.hid hp
  have hlow' := Lib.hid hlow
  have hfp' := Lib.hid hfp
  have hb' := Lib.hid hb
  have haa : a.size ≤ 9223372036854775807 := hab.1
  have hbb2 : bb.size ≤ 9223372036854775807 := hab.2
  generalize r.parts = ps at *
  generalize hn : ps.length = n at *
  have hn' := Lib.hid hn
  clear hrec hrow hp hlow hfp hb hn hsm hq hab hlen bx hR hf
  go_enter Tryd.func24, Tryd.ntmps24
  go_wp2_with fail
  go_loopw [1, 22] (fun l i wr => ∃ (j : Nat) (z : Int), j ≤ n ∧ i = .int .i64 j ∧ l = .int .i64 z ∧ smallL (ps.drop j) z = smallL ps y ∧ -400000000000000000 ≤ z ∧ z ≤ 200 ∧ Below w.heap.size w wr ∧ w.heap.size + 1 ≤ wr.heap.size) (fun _ i _ => n - (intOf i).toNat)
  case atStart => exact ⟨0, y, Nat.zero_le _, rfl, by first | rfl | (rw [← ey]; rfl) | skip, rfl, hy1, hy2, hb'.out, by omega⟩
  case round =>
    obtain ⟨j, z, hj, rfl, rfl, hsl, hz1, hz2, hB, hsz⟩ := hrel
    by_cases hlt : j < n
    · have hjl : j < ps.length := by rw [hn'.out]; exact hlt
      obtain ⟨q, hqq⟩ : ∃ q, ps[j]? = some q := ⟨_, List.getElem?_eq_getElem hjl⟩
      have hdr : ps.drop j = q :: ps.drop (j + 1) := by
        rw [List.drop_eq_getElem_cons hjl, (List.getElem?_eq_some_iff.1 hqq).2]
      obtain ⟨g, o, rfl, hc1, hcell⟩ := (hrow'.out.below hB).cell (by omega)
      obtain ⟨kq, aq, bq, pq, cq, Rq, -, lg, x0, x1, x2, x3⟩ := RV.part hcell hqq ((hp'.out j _ hqq).later hB)
      have hqm := List.mem_of_getElem? hqq
      rw [hdr, smallL_cons] at hsl
      obtain ⟨w3, e3⟩ : ∃ w3, wr.alloc (.cells #[.int .i64 kq, .string aq, .string bq, .slice pq q.parts.length cq] 42) = w3 := ⟨_, rfl⟩
      have hb3 := (Below.refl wr.heap.size wr).alloc (Nat.le_refl _) (.cells #[.int .i64 kq, .string aq, .string bq, .slice pq q.parts.length cq] 42)
      have bq3 := Blk.new wr 42 #[.int .i64 kq, .string aq, .string bq, .slice pq q.parts.length cq]
      have hz3 : w3.heap.size = wr.heap.size + 1 := by rw [← e3]; simp
      rw [e3] at hb3 bq3
      have B3 := hB.trans (hb3.mono (by omega))
      have c3 := bq3.cell
      have R3 := Rq.later hb3
      by_cases h0 : z < 0
      · rw [if_pos h0] at hsl
        have hsl' := Lib.hid hsl
        have B3' := Lib.hid B3
        clear hsl B3 hb3 bq3 hB Rq R3 hdr hcell
        go_wp2_with fail
        go_ret
        exact ⟨by rw [← hsl'.out]; rfl, B3'.out⟩
      · rw [if_neg h0] at hsl
        obtain ⟨l1, l2⟩ := hlow'.out q hqm z (by omega)
        have P := hrec'.out q hqm _ z w3 R3 (hfp'.out q hqm) (by omega) hz2
        have P' := Lib.hid P
        have hsl' := Lib.hid hsl
        have B3' := Lib.hid B3
        clear P hsl B3 hb3 bq3 hB Rq R3 hdr hcell hjl hqq hqm
        go_wp2_with fail
        refine P'.out.mono ?_
        rintro e w4 ⟨rfl, hb4⟩
        have l4 := hb4.size
        have B4 := B3'.out.trans (hb4.mono (by omega))
        have B4' := Lib.hid B4
        generalize small q z = z2 at *
        clear B4 hb4 c3 x0 x1 x2 x3
        go_wp2_with fail
        go_roundw
        case rel => exact ⟨j + 1, z2, by omega, by go_num, rfl, hsl'.out, l1, by omega, B4'.out, by omega⟩
        case measure => simp [intOf]; omega
    · obtain rfl : j = n := by omega
      rw [List.drop_eq_nil_of_le (by rw [hn'.out]; exact Nat.le_refl _), smallL_nil] at hsl
      have hsl' := Lib.hid hsl
      have hB' := Lib.hid hB
      clear hsl hB
      go_wp2_with fail
      go_ret
      exact ⟨by rw [← hsl'.out]; rfl, hB'.out⟩
theorem small_calls (r : RT) (cs : List Value) (x : Int) (w : World) (hR : RV w cs r) (hf : r.fits) (hx : -100000000000000000 ≤ x) (hx2 : x ≤ 200) : Calls Tryd.prog 24 #[.agg cs.toArray, .int .i64 x] w fun e w' => e = .returned (.int .i64 (small r x)) ∧ Below w.heap.size w w' :=
  small_step r (fun q _ cs x w hR hf hx hx2 => small_calls q cs x w hR hf hx hx2) cs x w hR hf hx hx2
termination_by SizeOf.sizeOf r
decreasing_by exact part_lt (by assumption)
end Go.Proofs.YtkibaaljpbcjeaaDoor
namespace Go.Proofs.YtkibaaljpbcjeaaDoor
open Go.RowKit
/-- what relations leave; none: too much -/
def fewR : List RelD → Int → Option Int
  | [], x => some x
  | (m, r) :: rels, x => if x < 0 then none else fewR rels (small r (x - ((m.length / 100 : Nat) : Int)))
def fewT : List TyD → Int → Option Int
  | [], x => some x
  | (n, rels) :: ts, x => match fewR rels (x - 1 - ((n.length / 100 : Nat) : Int)) with
    | none => none
    | some y => fewT ts y
def few (ts : List TyD) : Bool := match fewT ts 200 with
  | none => false
  | some x => decide (0 ≤ x)
theorem fewR_cons (m : List UInt8) (r : RT) (rels : List RelD) (x : Int) : fewR ((m, r) :: rels) x = if x < 0 then none else fewR rels (small r (x - ((m.length / 100 : Nat) : Int))) := rfl
theorem fewT_cons (n : List UInt8) (rels : List RelD) (ts : List TyD) (x : Int) : fewT ((n, rels) :: ts) x = match fewR rels (x - 1 - ((n.length / 100 : Nat) : Int)) with
    | none => none
    | some y => fewT ts y := rfl
/-- what is told, from a place on -/
def fewN (rels : List RelD) (ts : List TyD) (x : Int) : Bool := match fewR rels x with
  | none => false
  | some y => match fewT ts y with
    | none => false
    | some z => decide (0 ≤ z)
theorem fewN_nil (ts : List TyD) (x : Int) : fewN [] ts x = (match fewT ts x with
    | none => false
    | some z => decide (0 ≤ z)) := rfl
theorem fewN_type (n : List UInt8) (rels : List RelD) (ts : List TyD) (x : Int) : fewN [] ((n, rels) :: ts) x = fewN rels ts (x - 1 - ((n.length / 100 : Nat) : Int)) := by
  rw [fewN_nil, fewT_cons]
  unfold fewN
  cases fewR rels (x - 1 - ((n.length / 100 : Nat) : Int)) <;> rfl
theorem fewN_rel (m : List UInt8) (r : RT) (rels : List RelD) (ts : List TyD) (x : Int) : fewN ((m, r) :: rels) ts x = if x < 0 then false else fewN rels ts (small r (x - ((m.length / 100 : Nat) : Int))) := by
  unfold fewN
  rw [fewR_cons]
  by_cases h : x < 0
  · rw [if_pos h, if_pos h]
  · rw [if_neg h, if_neg h]
theorem few_eq (ts : List TyD) : few ts = fewN [] ts 200 := rfl
set_option maxHeartbeats 8000000 in
set_option maxRecDepth 100000 in
theorem few_calls (v : Value) (ts : List TyD) (w : World) (hS : SchV w v ts) (hf : fitsS ts) (hW : tysW ts ≤ 100000000) :
    Calls Tryd.prog 11 #[.agg #[v]] w fun e w' => e = .returned (.bool (few ts)) ∧ Below w.heap.size w w' := by
  obtain ⟨p, c, rfl⟩ := hS.form
  obtain ⟨cs, hrow, hty⟩ := hS
  have hmax := hrow.1
  unfold maxLen at hmax
  obtain ⟨w1, e1⟩ : ∃ w1, w.alloc (.cells #[.slice p ts.length c] 25) = w1 := ⟨_, rfl⟩
  have hb1 := (Below.refl w.heap.size w).alloc (Nat.le_refl _) (.cells #[.slice p ts.length c] 25)
  have bx1 := Blk.new w 25 #[.slice p ts.length c]
  have hz1 : w1.heap.size = w.heap.size + 1 := by rw [← e1]; simp
  rw [e1] at hb1 bx1
  have c1 := bx1.cell
  rw [few_eq]
  have hF0 : fewN [] (ts.drop 0) 200 = fewN [] ts 200 := by rw [List.drop_zero]
  have hT0 : tysW (ts.drop 0) ≤ 100000000 := by rw [List.drop_zero]; exact hW
  generalize fewN [] ts 200 = F at *
  generalize hn : ts.length = n at *
  have hn' := Lib.hid hn
  have hrow' := Lib.hid hrow
  have hty' := Lib.hid hty
  have hb1' := Lib.hid hb1
  have hf' := Lib.hid hf
  have hF0' := Lib.hid hF0
  clear hn hrow hty bx1 hb1 hf hF0 hW
  go_enter Tryd.func11, Tryd.ntmps11
  go_wp2_with fail
  go_loopw [3, 11] (fun l i wr => ∃ (j : Nat) (x : Int), j ≤ n ∧ i = .int .i64 j ∧ l = .int .i64 x ∧ fewN [] (ts.drop j) x = F ∧ x ≤ 200 ∧ -500000000000000000 + (tysW (ts.drop j) : Int) ≤ x ∧ tysW (ts.drop j) ≤ 100000000 ∧ Below w.heap.size w wr ∧ w.heap.size + 1 ≤ wr.heap.size) (fun _ i _ => n - (intOf i).toNat)
  case atStart => exact ⟨0, 200, Nat.zero_le _, rfl, rfl, hF0'.out, by omega, by omega, hT0, hb1'.out, by omega⟩
  case round =>
    obtain ⟨j, x, hj, rfl, rfl, hF, hx2, hx1, hTW, hB, hz⟩ := hrel
    by_cases hlt : j < n
    · obtain ⟨wo, rfl⟩ : ∃ wo : World, wo = wr := ⟨_, rfl⟩
      have hjl : j < ts.length := by rw [hn'.out]; exact hlt
      obtain ⟨⟨nm, rels⟩, hq⟩ : ∃ q, ts[j]? = some q := ⟨_, List.getElem?_eq_getElem hjl⟩
      have hdr : ts.drop j = (nm, rels) :: ts.drop (j + 1) := by
        rw [List.drop_eq_getElem_cons hjl, (List.getElem?_eq_some_iff.1 hq).2]
      obtain ⟨hfn, hfr⟩ := hf'.out (nm, rels) (List.mem_of_getElem? hq)
      have hfr' := Lib.hid hfr
      have hfr0 : ∀ x ∈ rels, x.1.length ≤ maxLen ∧ x.2.fits := hfr
      obtain ⟨g, o, rfl, hc1, hcell⟩ := hrow'.out.cell (by omega)
      obtain ⟨N, rp, rc, rcs, hN, lg, x0, x1, hrr, hrv⟩ := hty'.out.part hcell hq
      have tr : ∀ i v, w.cell? ⟨g, i, none⟩ = some v → wo.cell? ⟨g, i, none⟩ = some v := fun i v hv => by rw [hB.cell (p := ⟨g, i, none⟩) lg]; exact hv
      have y0 := tr _ _ x0
      have y1 := tr _ _ x1
      have lgr : g < wo.heap.size := by omega
      rw [hdr, fewN_type] at hF
      rw [hdr, tysW_cons] at hx1 hTW
      have sN := Lib.size_eq N
      rw [hN] at sN
      obtain ⟨w3, e3⟩ : ∃ w3, wo.alloc (.cells #[.string N, .slice rp rels.length rc] 39) = w3 := ⟨_, rfl⟩
      have hb3 := (Below.refl wo.heap.size wo).alloc (Nat.le_refl _) (.cells #[.string N, .slice rp rels.length rc] 39)
      have bt3 := Blk.new wo 39 #[.string N, .slice rp rels.length rc]
      have hz3 : w3.heap.size = wo.heap.size + 1 := by rw [← e3]; simp
      rw [e3] at hb3 bt3
      have B3 := hB.trans (hb3.mono (by omega))
      have c3 := bt3.cell
      have hNn : N.size ≤ 100000000 := by omega
      obtain ⟨y, ey⟩ : ∃ y, x - 1 - ((N.size / 100 : Nat) : Int) = y := ⟨_, rfl⟩
      rw [← sN, ey] at hF
      have hrx := hrr.1
      unfold maxLen at hrx
      have hr0 : relsW (rels.drop 0) ≤ 100000000 := by rw [List.drop_zero]; unfold restW at hTW; omega
      have hF0 : fewN (rels.drop 0) (ts.drop (j + 1)) y = F := by rw [List.drop_zero]; exact hF
      have hrw : -500000000000000000 + (tysW (ts.drop (j + 1)) : Int) ≤ y := by unfold restW at hx1; omega
      have hy2 : y ≤ 200 := by omega
      have hTW2 : tysW (ts.drop (j + 1)) ≤ 100000000 := by unfold restW at hTW; omega
      generalize hnr : rels.length = nr at *
      have hnr' := Lib.hid hnr
      have hrr' := Lib.hid hrr
      have hrv' := Lib.hid hrv
      have B3' := Lib.hid B3
      have hF0' := Lib.hid hF0
      clear hnr hrr hrv B3 hF0 hF hb3 bt3 hB hdr hq hjl tr x0 x1 hcell lg hfr hfn hx1 hTW hfr0 sN hN
      go_wp2_with fail
      go_loopw [3, 25] (fun l i wr => ∃ (k : Nat) (z : Int), k ≤ nr ∧ i = .int .i64 k ∧ l = .int .i64 z ∧ fewN (rels.drop k) (ts.drop (j + 1)) z = F ∧ z ≤ 200 ∧ -500000000000000000 + (tysW (ts.drop (j + 1)) : Int) ≤ z ∧ relsW (rels.drop k) ≤ 100000000 ∧ Below w.heap.size w wr ∧ w.heap.size + 1 ≤ wr.heap.size) (fun _ i _ => nr - (intOf i).toNat)
      case atStart => exact ⟨0, y, Nat.zero_le _, rfl, by first | rfl | (rw [← ey]; rfl) | skip, hF0'.out, hy2, hrw, hr0, B3'.out, by omega⟩
      case round =>
        obtain ⟨k, z, hk, rfl, rfl, hFk, hz2, hz1', hrW, hBk, hzk⟩ := hrel
        by_cases hlk : k < nr
        · have hkl : k < rels.length := by rw [hnr'.out]; exact hlk
          obtain ⟨⟨mm, r⟩, hqk⟩ : ∃ q, rels[k]? = some q := ⟨_, List.getElem?_eq_getElem hkl⟩
          have hdk : rels.drop k = (mm, r) :: rels.drop (k + 1) := by
            rw [List.drop_eq_getElem_cons hkl, (List.getElem?_eq_some_iff.1 hqk).2]
          obtain ⟨hfm, hfr2⟩ := hfr'.out (mm, r) (List.mem_of_getElem? hqk)
          obtain ⟨h1, u1, rfl, hd1, hck⟩ := (hrr'.out.below hBk).cell (by omega)
          obtain ⟨M, kk, a, bb, q, d, hM, lh, v0, v1, v2, v3, v4, R⟩ := (hrv'.out.later hBk).part hck hqk
          have eW : ∀ l, relsW ((mm, r) :: l) = mm.length + r.wt + 8 + relsW l := fun l => by conv => lhs; unfold relsW
          rw [hdk, eW] at hrW
          rw [hdk, fewN_rel] at hFk
          have sM := Lib.size_eq M
          rw [hM] at sM
          obtain ⟨w7, e7⟩ : ∃ w7, wr.alloc (.cells #[.string M, .int .i64 kk, .string a, .string bb, .slice q r.parts.length d] 44) = w7 := ⟨_, rfl⟩
          have hb7 := (Below.refl wr.heap.size wr).alloc (Nat.le_refl _) (.cells #[.string M, .int .i64 kk, .string a, .string bb, .slice q r.parts.length d] 44)
          have br7 := Blk.new wr 44 #[.string M, .int .i64 kk, .string a, .string bb, .slice q r.parts.length d]
          have hz7 : w7.heap.size = wr.heap.size + 1 := by rw [← e7]; simp
          rw [e7] at hb7 br7
          have B7 := hBk.trans (hb7.mono (by omega))
          have c7 := br7.cell
          have R7 := R.later hb7
          have hMm : M.size ≤ 100000000 := by omega
          by_cases h0 : z < 0
          · rw [if_pos h0] at hFk
            have hF' := Lib.hid hFk
            have B7' := Lib.hid B7
            clear hFk B7 hb7 br7 hBk R R7 hdk hqk hkl hck hfm hfr2
            go_wp2_with fail
            go_ret
            exact ⟨by rw [← hF'.out]; rfl, B7'.out⟩
          · rw [if_neg h0, ← sM] at hFk
            have P := small_calls r _ (z - ((M.size / 100 : Nat) : Int)) w7 R7 hfr2 (by omega) (by omega)
            obtain ⟨s1, s2⟩ := small_low r (z - ((M.size / 100 : Nat) : Int)) hfr2 (by omega)
            have P' := Lib.hid P
            have hF' := Lib.hid hFk
            have B7' := Lib.hid B7
            generalize hzz : small r (z - ((M.size / 100 : Nat) : Int)) = z2 at *
            clear P hFk B7 hb7 br7 hBk R R7 hdk hqk hkl hck hfm hfr2 hzz sM
            go_wp2_with fail
            refine P'.out.mono ?_
            rintro e w8 ⟨rfl, hb8⟩
            have l8 := hb8.size
            have B8 := B7'.out.trans (hb8.mono (by omega))
            have B8' := Lib.hid B8
            clear B8 hb8 c7 v0 v1 v2 v3 v4
            go_wp2_with fail
            go_roundw
            case rel => exact ⟨k + 1, z2, by omega, by go_num, rfl, hF'.out, by omega, by omega, by omega, B8'.out, by omega⟩
            case measure => simp [intOf]; omega
        · obtain rfl : k = nr := by omega
          rw [List.drop_eq_nil_of_le (by rw [hnr'.out]; exact Nat.le_refl _)] at hFk
          have hF' := Lib.hid hFk
          have hBk' := Lib.hid hBk
          clear hFk hBk
          go_wp2_with fail
          go_roundw
          case rel => exact ⟨j + 1, z, by omega, by go_num, rfl, hF'.out, hz2, hz1', hTW2, hBk'.out, by omega⟩
          case measure => simp [intOf]; omega
    · obtain rfl : j = n := by omega
      rw [List.drop_eq_nil_of_le (by rw [hn'.out]; exact Nat.le_refl _)] at hF
      have hF' := Lib.hid hF
      have hB' := Lib.hid hB
      clear hF hB
      go_wp2_with fail
      go_ret
      exact ⟨by rw [← hF'.out]; rfl, hB'.out⟩
end Go.Proofs.YtkibaaljpbcjeaaDoor
