/- Walk: conditions: the writer: a condition. -/
import Derived.Test.YtdfgbkilaepolaaGreatDoorPO16
import Derived.Deep.RegionHeld3
namespace Go.Proofs.YtdfgbkilaepolaaGreatDoor
open Go.RowKit
theorem num_text (n : Int) : textP (numP n) = Lib.itoa n := by
  unfold numP Lib.itoa
  by_cases h : n < 0
  · rw [if_pos h, if_pos h]; simp [textP, pieceT, minusL, decL]
  · rw [if_neg h, if_neg h]
    have : n.natAbs = n.toNat := by omega
    simp [textP, pieceT, decL, this]
theorem itoa_len (n : Int) (h1 : -1000000000000000 ≤ n) (h2 : n ≤ 1000000000000000) : (Lib.itoa n).length ≤ 20 := by
  unfold Lib.itoa
  by_cases h : n < 0
  · rw [if_pos h]
    have := dd_len 16 n.natAbs (by have e : (10 : Nat) ^ (16 + 1) = 100000000000000000 := by decide
                                   omega)
    simp; omega
  · rw [if_neg h]
    have := dd_len 16 n.toNat (by have e : (10 : Nat) ^ (16 + 1) = 100000000000000000 := by decide
                                  omega)
    omega
theorem RowV.tail {w : World} {g o n c : Nat} {ds : List Value} (h : RowV w (.slice (some ⟨g, o, none⟩) (n + 1) c) (n + 1) ds) : RowV w (.slice (some ⟨g, o + 4, none⟩) n (c - 1)) n (ds.drop 4) := by
  refine ⟨by have := h.1; omega, .inr ?_⟩
  obtain ⟨g', o', e, hc, hcell⟩ := h.cell (Nat.succ_pos _)
  obtain ⟨rfl, rfl⟩ : g = g' ∧ o = o' := by injection e with e; injection e with e1 e2; exact ⟨e1, e2⟩
  refine ⟨g, o + 4, c - 1, rfl, by omega, fun i u hu => ?_⟩
  rw [List.getElem?_drop] at hu
  have := hcell _ u hu
  rw [← Nat.add_assoc] at this
  exact this
theorem in_text {cond : Wr} {d : Nat} {a : CT} {l : List CT} : textO (match partW cond d 5 a with
    | none => none
    | some x => (partsW cond d 5 [mk [44], none] l).map fun y => x ++ [none, wd inL, none, mk [91]] ++ y ++ [mk [93]]) = match textO (partW cond d 5 a) with
    | none => none
    | some x => (textO (partsW cond d 5 [mk [44], none] l)).map fun y => x ++ [32, 105, 110, 32, 91] ++ y ++ [93] := by
  cases partW cond d 5 a with
  | none => rfl
  | some x =>
    show ((partsW cond d 5 [mk [44], none] l).map fun y => x ++ [none, wd inL, none, mk [91]] ++ y ++ [mk [93]]).map textP = ((partsW cond d 5 [mk [44], none] l).map textP).map fun y => textP x ++ [32, 105, 110, 32, 91] ++ y ++ [93]
    cases partsW cond d 5 [mk [44], none] l with
    | none => rfl
    | some y =>
      show some (textP (x ++ [none, wd inL, none, mk [91]] ++ y ++ [mk [93]])) = some (textP x ++ [32, 105, 110, 32, 91] ++ textP y ++ [93])
      rw [textP_app, textP_app, textP_app]; rfl
theorem below_grow_ (w : World) (q : Nat) (os : Array Obj) : Below w.heap.size w (Go.Sort.grow (w.drewN q) os) :=
  ⟨rfl, rfl, rfl, by simp [Go.Sort.grow], fun i hi => by
    show ((w.drewN q).heap ++ os)[i]? = _
    rw [Array.getElem?_append_left (by show i < w.heap.size; omega)]
    rfl⟩
set_option maxHeartbeats 16000000 in
set_option maxRecDepth 100000 in
theorem cond_step (r : CT) (hrec : ∀ q : CT, SizeOf.sizeOf q < SizeOf.sizeOf r → CondOK q) : CondOK r := by
  intro w0 b d f deep w l cs hd hdp hf hq hb0 hz0 htb h hln hcw
  have hsz := size_node r
  obtain ⟨f, rfl⟩ : ∃ k, f = k + 1 := ⟨f - 1, by omega⟩
  have hcr := cw_node r
  have hsm : ∀ (ps : List CT) (q : CT), q ∈ ps → q.size ≤ sizeLc ps := by
    intro ps
    induction ps with
    | nil => intro p hp; cases hp
    | cons q ps ih =>
      intro p hp
      rw [sizeL_cons]
      rcases List.mem_cons.1 hp with rfl | hp
      · omega
      · have := ih p hp; omega
  have hP : Hid (∀ q ∈ r.parts, PartOK q ∧ q.size ≤ f) := Lib.hid fun q hqm => ⟨part_ok q (hrec q (partc_lt hqm)), by have := hsm _ _ hqm; omega⟩
  have hP2 : Hid (∀ q ∈ r.parts, ∀ q2 ∈ q.parts, PartOK q2 ∧ q2.size ≤ f) := Lib.hid fun q hqm q2 hqm2 => ⟨part_ok q2 (hrec q2 (Nat.lt_trans (partc_lt hqm2) (partc_lt hqm))), by have := hsm _ _ hqm; have := hsm _ _ hqm2; have := size_node q; omega⟩
  have hcp : Hid (∀ q ∈ r.parts, q.cw + 8 ≤ cwL r.parts) := Lib.hid fun q hqm => cwL_mem hqm
  have hcL : cwL r.parts + 32 + r.str.length ≤ r.cw := by omega
  have hslen : r.str.length ≤ 1000000 := by omega
  clear hsz hf hsm hrec hcr
  have hq' := Lib.hid hq
  obtain ⟨k, m, a, p, c, ds, rfl, hrf, hrow, -, hp⟩ := hq.form
  have hkk : Hid (r.kind = k) := Lib.hid (by rw [hrf]; rfl)
  have hmm : Hid (r.num = m) := Lib.hid (by rw [hrf]; rfl)
  have hss : Hid (r.str = a.data.toList) := Lib.hid (by rw [hrf]; rfl)
  have hasz : a.size ≤ 1000000 ∧ a.size + 32 + cwL r.parts ≤ r.cw := by rw [Lib.size_eq, ← hss.out]; exact ⟨hslen, by omega⟩
  obtain ⟨has1, has2⟩ := hasz
  have hrow' := Lib.hid hrow
  have hp' := Lib.hid hp
  have hdp' := Lib.hid hdp
  have htb' := Lib.hid htb
  have hmax := hrow.1
  unfold maxLen at hmax
  have hbl := h.lt
  have hb := (Below.refl w.heap.size w).alloc (Nat.le_refl _) (.cells #[.int .i64 k, .int .i64 m, .string a, .slice p r.parts.length c] 28)
  have hbx := Blk.new w 28 #[.int .i64 k, .int .i64 m, .string a, .slice p r.parts.length c]
  have hz1 := alloc_size w (.cells #[.int .i64 k, .int .i64 m, .string a, .slice p r.parts.length c] 28)
  obtain ⟨w1, e1⟩ : ∃ w1, w.alloc (.cells #[.int .i64 k, .int .i64 m, .string a, .slice p r.parts.length c] 28) = w1 := ⟨_, rfl⟩
  rw [e1] at hb hbx hz1
  have hne : w.heap.size ≠ b := Nat.ne_of_gt hbl
  have hw1 := h.later hb
  have hk1 := Lib.hid (WKeeps.of_below (B := w0.heap.size) (b := b) hb)
  have hb1 := hb0.trans (hb.mono hz0)
  have DR := Lib.hid (right_calls r _ w1 (hq.later hb1) hslen)
  obtain ⟨f2, f3, ff⟩ := hw1.flag
  have x1 := Blk.cell hbx
  have hw1' := Lib.hid hw1
  have hb1' := Lib.hid hb1
  have hbx' := Lib.hid hbx
  have hz1' := Lib.hid hz1
  clear h hb hbx hz1 hb0 hrow hp hq hrf hdp htb hw1 hb1 hslen
  go_enter Tryz.func74, Tryz.ntmps74
  go_wp2_with fail
  refine DR.out.mono ?_
  rintro e w2 ⟨rfl, hb2⟩
  have hz2 := hb2.size
  have hz1b := hz1'.out
  have hw2 := hw1'.out.later hb2
  have hk2 := Lib.hid (hk1.out.trans (WKeeps.of_below hb2))
  have hb2' := Lib.hid (hb1'.out.trans (hb2.mono (by omega)))
  have hbx2 := Lib.hid (hbx'.out.below hb2 (by omega))
  obtain ⟨f2, f3, ff⟩ := hw2.flag
  have hw2' := Lib.hid hw2
  clear hb2 hw2 DR x1 e1 hw1' hb1' hbx' hk1
  cases hR : rightC r with
  | false =>
    have hT : Hid (textO (condW (f + 1) d r) = none) := Lib.hid (by
      show textO (stepW (condW f) d r) = none
      unfold stepW
      rw [if_pos hR]; rfl)
    clear hR
    go_wp2_with fail
    go_end0
    obtain ⟨h4, k4⟩ := hw2'.out.bad_ true
    exact ⟨rfl, hk2.out.trans k4, l, deep, by omega, .inr ⟨hT.out, h4⟩⟩
  | true =>
    obtain ⟨h3, k3⟩ := hw2'.out.bad_ false
    have hzs : (w2.setCell ⟨b, 3, none⟩ (.bool false)).heap.size = w2.heap.size := by simp [World.setCell]
    have hb3 := hb2'.out.trans (k3.below (by omega))
    have hbx3 := Lib.hid (hbx2.out.far (p := ⟨b, 3, none⟩) hne (.bool false))
    have x2 := Blk.cell hbx2.out
    have DU := Lib.hid (unlike_calls r _ _ (hq'.out.later hb3))
    have h3' := Lib.hid h3
    have hk3 := Lib.hid (hk2.out.trans k3)
    have hb3' := Lib.hid hb3
    have hzs' := Lib.hid hzs
    have hR' := Lib.hid hR
    clear h3 k3 hb3 hzs hR hw2' hk2 hb2'
    go_wp2_with fail
    refine DU.out.mono ?_
    rintro e w3 ⟨rfl, hb4⟩
    have hz3 := hb4.size
    have hzsb := hzs'.out
    have hw3 := h3'.out.later hb4
    have hk4 := Lib.hid (hk3.out.trans (WKeeps.of_below hb4))
    have hB3 := Lib.hid (hb3'.out.trans (hb4.mono (by omega)))
    have hbx4 := Lib.hid (hbx3.out.below hb4 (by omega))
    obtain ⟨f2', f3', ff'⟩ := hw3.flag
    have hw3' := Lib.hid hw3
    have x4 := Blk.cell hbx4.out
    have hzw3 : w.heap.size < w3.heap.size := by omega
    have hz0' : w0.heap.size ≤ w3.heap.size := by omega
    clear hb4 hw3 DU x2 h3' hk3 hb3' hbx3 hbx2 f2 f3 ff hz2 hz1b hz3 hzsb hzs' hz1'
    cases hU : unlikeC r with
    | true =>
      have hun := hU
      unfold unlikeC at hun
      rw [hkk.out] at hun
      obtain ⟨q, hps, hq9, hq2⟩ : ∃ q, r.parts = [q] ∧ q.kind = 9 ∧ q.parts.length = 2 := by
        match hh : r.parts with
        | [] => rw [hh] at hun; simp at hun
        | [q] =>
          rw [hh] at hun
          simp only [Bool.and_eq_true, beq_iff_eq, decide_eq_true_eq] at hun
          exact ⟨q, rfl, hun.2.1.1, hun.2.1.2⟩
        | _ :: _ :: _ => rw [hh] at hun; simp at hun
      have hT : Hid (textO (condW (f + 1) d r) = textO (partsW (condW f) d 5 (spc (mk [33, 61])) q.parts)) := by
        refine Lib.hid ?_
        show textO (stepW (condW f) d r) = _
        unfold stepW
        rw [if_neg (by rw [hR'.out]; decide), if_pos hU, hps]
        rfl
      have m1 : q ∈ r.parts := by rw [hps]; simp
      have hc1 := hcp.out q m1
      have hqw := cw_node q
      obtain ⟨g, o, k1, mm1, a1, p1, c1, hpe, hc2, R1, -, X1⟩ := CV.part_at hrow'.out hp'.out (i := 0) (q := q) (by rw [hps]; rfl)
      subst hpe
      obtain ⟨k2, m2, a2, p2, c2, ds2, e2, -, hrow2, -, hp2⟩ := R1.form
      obtain ⟨rfl, rfl⟩ : p1 = p2 ∧ c1 = c2 := by injection e2 with _ e2; injection e2 with _ e2; injection e2 with _ e2; injection e2 with e2 _; injection e2 with e3 _ e4; exact ⟨e3, e4⟩
      have hlen : r.parts.length = 1 := by rw [hps]; rfl
      have hl1 : (0 : Int) < (r.parts.length : Int) := by omega
      have S := Lib.hid (parts_ok q.parts (fun q2 hq2 => (hP2.out q m1 q2 hq2).1) w0 b d f 5 deep w3 l p1 c1 ds2 ⟨#[32, 33, 61, 32]⟩ (spc (mk [33, 61])) (by rfl) (by decide) hd hdp'.out (by omega) (fun q2 hq2 => (hP2.out q m1 q2 hq2).2) hrow2 hp2 hB3.out hz0' htb'.out hw3'.out (by omega) (by omega))
      have hcqq : cwL q.parts ≤ r.cw := by omega
      obtain ⟨y0, y1, y2, y3⟩ := X1 w3 hB3.out
      rw [Nat.zero_mul, Nat.add_zero] at y0 y1 y2 y3
      have hps' := Lib.hid hps
      have hlen' := Lib.hid hlen
      clear hU hun hps hq9 hq2 m1 hqw R1 e2 hrow2 hp2 hlen X1
      go_wp2_with fail
      refine S.out.mono ?_
      rintro e w4 ⟨rfl, hk5, l', d', hl', hcase⟩
      go_wp2_with fail
      go_end0
      exact ⟨rfl, hk4.out.trans hk5, l', d', by omega, by rw [hT.out]; exact hcase⟩
    | false =>
      have hU' := Lib.hid hU
      clear hU
      have hS : Hid (∀ x, (∀ y, stepW (condW f) d r = y → y = x) → textO (condW (f + 1) d r) = textO x) := Lib.hid fun x h => congrArg textO (h _ rfl)
      by_cases h1 : k = 1
      · subst h1
        have hT : Hid (textO (condW (f + 1) d r) = some [116, 114, 117, 101]) := by
          refine Lib.hid ?_
          show textO (stepW (condW f) d r) = _
          unfold stepW
          rw [if_neg (by rw [hR'.out]; decide), if_neg (by rw [hU'.out]; decide), hkk.out]
          rfl
        have S := Lib.hid (wstr_calls w0.heap.size b w3 l deep false ⟨#[116, 114, 117, 101]⟩ hw3'.out (by show l.length + 4 ≤ _; omega) (by omega))
        go_wp2_with fail
        refine S.out.mono ?_
        rintro e w4 ⟨rfl, hW4, hk5⟩
        go_wp2_with fail
        go_end0
        exact ⟨rfl, hk4.out.trans hk5, _, deep, by rw [List.length_append]; show l.length + 4 ≤ _; omega, .inl ⟨_, hT.out, rfl, hW4⟩⟩
      by_cases h2 : k = 2
      · subst h2
        have hT : Hid (textO (condW (f + 1) d r) = some [102, 97, 108, 115, 101]) := by
          refine Lib.hid ?_
          show textO (stepW (condW f) d r) = _
          unfold stepW
          rw [if_neg (by rw [hR'.out]; decide), if_neg (by rw [hU'.out]; decide), hkk.out]
          rfl
        have S := Lib.hid (wstr_calls w0.heap.size b w3 l deep false ⟨#[102, 97, 108, 115, 101]⟩ hw3'.out (by show l.length + 5 ≤ _; omega) (by omega))
        go_wp2_with fail
        refine S.out.mono ?_
        rintro e w4 ⟨rfl, hW4, hk5⟩
        go_wp2_with fail
        go_end0
        exact ⟨rfl, hk4.out.trans hk5, _, deep, by rw [List.length_append]; show l.length + 5 ≤ _; omega, .inl ⟨_, hT.out, rfl, hW4⟩⟩
      by_cases h4 : k = 4
      · subst h4
        have hT : Hid (textO (condW (f + 1) d r) = some (39 :: r.str ++ [39])) := by
          refine Lib.hid ?_
          show textO (stepW (condW f) d r) = _
          unfold stepW
          rw [if_neg (by rw [hR'.out]; decide), if_neg (by rw [hU'.out]; decide), hkk.out]
          show some (textP [some (5, r.str, false)]) = _; simp [textP, pieceT]
        have S := Lib.hid (wstr_calls w0.heap.size b w3.drew l deep false (⟨#[39]⟩ ++ a ++ ⟨#[39]⟩) (hw3'.out.later (Below.refl _ _).drew) (by rw [ByteArray.size_append, ByteArray.size_append]; show l.length + (1 + a.size + 1) ≤ _; omega) (by show w0.heap.size ≤ w3.heap.size; omega))
        have xd := Blk.cell hbx4.out.drew
        have hs1 := fun W => run_string_add_sum (P := Tryz.prog) (w := W) (⟨#[39]⟩ : ByteArray) a (by show 1 + a.size ≤ _; omega)
        have hs2 := fun W => run_string_add_sum (P := Tryz.prog) (w := W) ((⟨#[39]⟩ : ByteArray) ++ a) (⟨#[39]⟩ : ByteArray) (by rw [ByteArray.size_append]; show 1 + a.size + 1 ≤ _; omega)
        go_wp2_with fail
        go_region_held3 (fun w' => ∀ i, w'.cell? ⟨w.heap.size, i, none⟩ = (#[.int .i64 4, .int .i64 m, .string a, .slice p r.parts.length c] : Array Value)[i]?) (first | assumption | go_keep) ((go_at_call 96; with_reducible refine S.out.mono ?_; rintro e w5 ⟨rfl, hW5, hk5⟩; have x5 := Blk.cell (hbx4.out.drew.wkeeps hk5 (by decide) hne)))
        all_goals
          go_wp2_with fail
          go_end0
          exact ⟨rfl, hk4.out.trans ((WKeeps.of_below (Below.refl _ _).drew).trans hk5), _, deep, by rw [List.length_append, ← Lib.size_eq]; rw [ByteArray.size_append, ByteArray.size_append]; show l.length + (1 + a.size + 1) ≤ _; omega, .inl ⟨_, hT.out, by rw [hss.out]; simp, hW5⟩⟩
      by_cases h5 : k = 5
      · subst h5
        have hT : Hid (textO (condW (f + 1) d r) = some r.str) := by
          refine Lib.hid ?_
          show textO (stepW (condW f) d r) = _
          unfold stepW
          rw [if_neg (by rw [hR'.out]; decide), if_neg (by rw [hU'.out]; decide), hkk.out]
          show some (textP [wd r.str]) = _; simp [textP, pieceT, wd]
        have S := Lib.hid (wstr_calls w0.heap.size b w3.drew l deep false (a) (hw3'.out.later (Below.refl _ _).drew) (by omega) (by show w0.heap.size ≤ w3.heap.size; omega))
        have xd := Blk.cell hbx4.out.drew
        go_wp2_with fail
        go_region_held3 (fun w' => ∀ i, w'.cell? ⟨w.heap.size, i, none⟩ = (#[.int .i64 5, .int .i64 m, .string a, .slice p r.parts.length c] : Array Value)[i]?) (first | assumption | go_keep) ((go_at_call 96; with_reducible refine S.out.mono ?_; rintro e w5 ⟨rfl, hW5, hk5⟩; have x5 := Blk.cell (hbx4.out.drew.wkeeps hk5 (by decide) hne)))
        all_goals
          go_wp2_with fail
          go_end0
          exact ⟨rfl, hk4.out.trans ((WKeeps.of_below (Below.refl _ _).drew).trans hk5), _, deep, by rw [List.length_append, ← Lib.size_eq]; omega, .inl ⟨_, hT.out, by rw [hss.out], hW5⟩⟩
      by_cases h3 : k = 3
      · subst h3
        have hT : Hid (textO (condW (f + 1) d r) = some (Lib.itoa r.num)) := by
          refine Lib.hid ?_
          show textO (stepW (condW f) d r) = _
          unfold stepW
          rw [if_neg (by rw [hR'.out]; decide), if_neg (by rw [hU'.out]; decide), hkk.out]
          show some (textP (numP r.num)) = _; rw [num_text]
        have hrng : -1000000000000000 ≤ m ∧ m ≤ 1000000000000000 := by
          have h := hR'.out
          unfold rightC at h
          rw [hkk.out, hmm.out] at h
          have h : (r.parts.isEmpty && r.str.isEmpty && decide (-1000000000000000 ≤ m) && decide (m ≤ 1000000000000000)) = true := h
          simp only [Bool.and_eq_true, decide_eq_true_eq] at h
          exact ⟨h.1.2, h.2⟩
        have hil := itoa_len m hrng.1 hrng.2
        have FI := Lib.hid (Tryz.strconv_FormatInt_10 m (by omega) (by omega) w3.drew ((htb'.out.step hB3.out).step (Below.refl _ _).drew).here)
        have xd := Blk.cell hbx4.out.drew
        have hwd := Lib.hid (hw3'.out.later (Below.refl _ _).drew)
        obtain ⟨N, hN⟩ : ∃ N : ByteArray, N = ⟨(Lib.itoa m).toArray⟩ := ⟨_, rfl⟩
        rw [← hN] at FI
        have hNl : Hid (N.data.toList = Lib.itoa m) := Lib.hid (by rw [hN])
        have hNs : N.size ≤ 20 := by rw [Lib.size_eq, hNl.out]; exact hil
        clear hN hil
        go_wp2_with fail
        go_region_held3 (fun w' => ∀ i, w'.cell? ⟨w.heap.size, i, none⟩ = (#[.int .i64 3, .int .i64 m, .string a, .slice p r.parts.length c] : Array Value)[i]?) (first | assumption | go_keep) (first | ((go_at_call 97; (with_reducible refine FI.out.mono ?_); rintro e w5 ⟨rfl, k5, os5, hw5⟩; (have hb5 : Below w3.drew.heap.size w3.drew w5 := by rw [hw5]; exact below_grow_ _ _ _); clear hw5; (have x5 := Blk.cell (hbx4.out.drew.below hb5 hzw3)))) | ((go_at_call 96; (with_reducible refine (wstr_calls w0.heap.size b w5 l deep false N (hwd.out.later hb5) (by omega) (by have := hb5.size; have e : w3.drew.heap.size = w3.heap.size := rfl; omega)).mono ?_); rintro e w6 ⟨rfl, hW6, hk6⟩; (have x6 := Blk.cell ((hbx4.out.drew.below hb5 hzw3).wkeeps hk6 (by decide) hne)))))
        all_goals
          go_wp2_with fail
          go_end0
          exact ⟨rfl, hk4.out.trans ((WKeeps.of_below (Below.refl _ _).drew).trans ((WKeeps.of_below hb5).trans hk6)), _, deep, by rw [List.length_append, ← Lib.size_eq]; omega, .inl ⟨_, hT.out, by rw [hmm.out, hNl.out], hW6⟩⟩
      by_cases h8 : k = 8
      · subst h8
        have hT : Hid (textO (condW (f + 1) d r) = textO (partsW (condW f) d 2 (spc (wd orL)) r.parts)) := by
          refine Lib.hid ?_
          show textO (stepW (condW f) d r) = _
          unfold stepW
          rw [if_neg (by rw [hR'.out]; decide), if_neg (by rw [hU'.out]; decide), hkk.out]
          rfl
        have S := Lib.hid (parts_ok r.parts (fun q hq => (hP.out q hq).1) w0 b d f 2 deep w3 l p c ds ⟨#[32, 111, 114, 32]⟩ (spc (wd orL)) (by rfl) (by decide) hd hdp'.out (by omega) (fun q hq => (hP.out q hq).2) hrow'.out hp'.out hB3.out hz0' htb'.out hw3'.out (by omega) (by omega))
        go_wp2_with fail
        refine S.out.mono ?_
        rintro e w4 ⟨rfl, hk5, l', d', hl', hcase⟩
        go_wp2_with fail
        go_end0
        exact ⟨rfl, hk4.out.trans hk5, l', d', by omega, by rw [hT.out]; exact hcase⟩
      by_cases h7 : k = 7
      · subst h7
        have hT : Hid (textO (condW (f + 1) d r) = textO (partsW (condW f) d 3 (spc (wd andL)) r.parts)) := by
          refine Lib.hid ?_
          show textO (stepW (condW f) d r) = _
          unfold stepW
          rw [if_neg (by rw [hR'.out]; decide), if_neg (by rw [hU'.out]; decide), hkk.out]
          rfl
        have S := Lib.hid (parts_ok r.parts (fun q hq => (hP.out q hq).1) w0 b d f 3 deep w3 l p c ds ⟨#[32, 97, 110, 100, 32]⟩ (spc (wd andL)) (by rfl) (by decide) hd hdp'.out (by omega) (fun q hq => (hP.out q hq).2) hrow'.out hp'.out hB3.out hz0' htb'.out hw3'.out (by omega) (by omega))
        go_wp2_with fail
        refine S.out.mono ?_
        rintro e w4 ⟨rfl, hk5, l', d', hl', hcase⟩
        go_wp2_with fail
        go_end0
        exact ⟨rfl, hk4.out.trans hk5, l', d', by omega, by rw [hT.out]; exact hcase⟩
      by_cases h9 : k = 9
      · subst h9
        have hT : Hid (textO (condW (f + 1) d r) = textO (partsW (condW f) d 5 (spc (mk [61])) r.parts)) := by
          refine Lib.hid ?_
          show textO (stepW (condW f) d r) = _
          unfold stepW
          rw [if_neg (by rw [hR'.out]; decide), if_neg (by rw [hU'.out]; decide), hkk.out]
          rfl
        have S := Lib.hid (parts_ok r.parts (fun q hq => (hP.out q hq).1) w0 b d f 5 deep w3 l p c ds ⟨#[32, 61, 32]⟩ (spc (mk [61])) (by rfl) (by decide) hd hdp'.out (by omega) (fun q hq => (hP.out q hq).2) hrow'.out hp'.out hB3.out hz0' htb'.out hw3'.out (by omega) (by omega))
        go_wp2_with fail
        refine S.out.mono ?_
        rintro e w4 ⟨rfl, hk5, l', d', hl', hcase⟩
        go_wp2_with fail
        go_end0
        exact ⟨rfl, hk4.out.trans hk5, l', d', by omega, by rw [hT.out]; exact hcase⟩
      by_cases h10 : k = 10
      · subst h10
        have hT : Hid (textO (condW (f + 1) d r) = textO (partsW (condW f) d 5 (spc (mk [60])) r.parts)) := by
          refine Lib.hid ?_
          show textO (stepW (condW f) d r) = _
          unfold stepW
          rw [if_neg (by rw [hR'.out]; decide), if_neg (by rw [hU'.out]; decide), hkk.out]
          rfl
        have S := Lib.hid (parts_ok r.parts (fun q hq => (hP.out q hq).1) w0 b d f 5 deep w3 l p c ds ⟨#[32, 60, 32]⟩ (spc (mk [60])) (by rfl) (by decide) hd hdp'.out (by omega) (fun q hq => (hP.out q hq).2) hrow'.out hp'.out hB3.out hz0' htb'.out hw3'.out (by omega) (by omega))
        go_wp2_with fail
        refine S.out.mono ?_
        rintro e w4 ⟨rfl, hk5, l', d', hl', hcase⟩
        go_wp2_with fail
        go_end0
        exact ⟨rfl, hk4.out.trans hk5, l', d', by omega, by rw [hT.out]; exact hcase⟩
      by_cases h11 : k = 11
      · subst h11
        have hT : Hid (textO (condW (f + 1) d r) = textO (partsW (condW f) d 5 (spc (mk [60, 61])) r.parts)) := by
          refine Lib.hid ?_
          show textO (stepW (condW f) d r) = _
          unfold stepW
          rw [if_neg (by rw [hR'.out]; decide), if_neg (by rw [hU'.out]; decide), hkk.out]
          rfl
        have S := Lib.hid (parts_ok r.parts (fun q hq => (hP.out q hq).1) w0 b d f 5 deep w3 l p c ds ⟨#[32, 60, 61, 32]⟩ (spc (mk [60, 61])) (by rfl) (by decide) hd hdp'.out (by omega) (fun q hq => (hP.out q hq).2) hrow'.out hp'.out hB3.out hz0' htb'.out hw3'.out (by omega) (by omega))
        go_wp2_with fail
        refine S.out.mono ?_
        rintro e w4 ⟨rfl, hk5, l', d', hl', hcase⟩
        go_wp2_with fail
        go_end0
        exact ⟨rfl, hk4.out.trans hk5, l', d', by omega, by rw [hT.out]; exact hcase⟩
      by_cases h12 : k = 12
      · subst h12
        have hlen : r.parts.length = 2 := by
          have h := hR'.out
          unfold rightC at h
          rw [hkk.out] at h
          have h : (decide (r.parts.length = 2) && plainC r) = true := h
          simp only [Bool.and_eq_true, decide_eq_true_eq] at h
          exact h.1
        obtain ⟨q1, q2, hps⟩ : ∃ q1 q2, r.parts = [q1, q2] := by
          match hh : r.parts with
          | [] => rw [hh] at hlen; cases hlen
          | [_] => rw [hh] at hlen; cases hlen
          | [a, b] => exact ⟨a, b, rfl⟩
          | _ :: _ :: _ :: _ => rw [hh] at hlen; simp at hlen
        have hT : Hid (textO (condW (f + 1) d r) = textO (twoW (condW f) d 5 6 (spc (mk [43])) [q1, q2])) := by
          refine Lib.hid ?_
          show textO (stepW (condW f) d r) = _
          unfold stepW
          rw [if_neg (by rw [hR'.out]; decide), if_neg (by rw [hU'.out]; decide), hkk.out]
          rw [← hps]; rfl
        have m1 : q1 ∈ r.parts := by rw [hps]; simp
        have m2 : q2 ∈ r.parts := by rw [hps]; simp
        have S := Lib.hid (reckoned_12 r q1 q2 hkk.out hps (hP.out q1 m1).1 (hP.out q2 m2).1 w0 b d f deep w3 l _ hd hdp'.out (hP.out q1 m1).2 (hP.out q2 m2).2 hq'.out hB3.out hz0' htb'.out hw3'.out hln hcw)
        have hps' := Lib.hid hps
        clear hps m1 m2 hlen
        go_wp2_with fail
        refine S.out.mono ?_
        rintro e w4 ⟨rfl, hk5, l', d', hl', hcase⟩
        go_wp2_with fail
        go_end0
        exact ⟨rfl, hk4.out.trans hk5, l', d', by omega, by rw [hT.out]; exact hcase⟩
      by_cases h13 : k = 13
      · subst h13
        have hlen : r.parts.length = 2 := by
          have h := hR'.out
          unfold rightC at h
          rw [hkk.out] at h
          have h : (decide (r.parts.length = 2) && plainC r) = true := h
          simp only [Bool.and_eq_true, decide_eq_true_eq] at h
          exact h.1
        obtain ⟨q1, q2, hps⟩ : ∃ q1 q2, r.parts = [q1, q2] := by
          match hh : r.parts with
          | [] => rw [hh] at hlen; cases hlen
          | [_] => rw [hh] at hlen; cases hlen
          | [a, b] => exact ⟨a, b, rfl⟩
          | _ :: _ :: _ :: _ => rw [hh] at hlen; simp at hlen
        have hT : Hid (textO (condW (f + 1) d r) = textO (twoW (condW f) d 5 6 (spc (mk minusL)) [q1, q2])) := by
          refine Lib.hid ?_
          show textO (stepW (condW f) d r) = _
          unfold stepW
          rw [if_neg (by rw [hR'.out]; decide), if_neg (by rw [hU'.out]; decide), hkk.out]
          rw [← hps]; rfl
        have m1 : q1 ∈ r.parts := by rw [hps]; simp
        have m2 : q2 ∈ r.parts := by rw [hps]; simp
        have S := Lib.hid (reckoned_13 r q1 q2 hkk.out hps (hP.out q1 m1).1 (hP.out q2 m2).1 w0 b d f deep w3 l _ hd hdp'.out (hP.out q1 m1).2 (hP.out q2 m2).2 hq'.out hB3.out hz0' htb'.out hw3'.out hln hcw)
        have hps' := Lib.hid hps
        clear hps m1 m2 hlen
        go_wp2_with fail
        refine S.out.mono ?_
        rintro e w4 ⟨rfl, hk5, l', d', hl', hcase⟩
        go_wp2_with fail
        go_end0
        exact ⟨rfl, hk4.out.trans hk5, l', d', by omega, by rw [hT.out]; exact hcase⟩
      by_cases h14 : k = 14
      · subst h14
        have hlen : r.parts.length = 2 := by
          have h := hR'.out
          unfold rightC at h
          rw [hkk.out] at h
          have h : (decide (r.parts.length = 2) && plainC r) = true := h
          simp only [Bool.and_eq_true, decide_eq_true_eq] at h
          exact h.1
        obtain ⟨q1, q2, hps⟩ : ∃ q1 q2, r.parts = [q1, q2] := by
          match hh : r.parts with
          | [] => rw [hh] at hlen; cases hlen
          | [_] => rw [hh] at hlen; cases hlen
          | [a, b] => exact ⟨a, b, rfl⟩
          | _ :: _ :: _ :: _ => rw [hh] at hlen; simp at hlen
        have hT : Hid (textO (condW (f + 1) d r) = textO (twoW (condW f) d 6 7 (spc (mk [42])) [q1, q2])) := by
          refine Lib.hid ?_
          show textO (stepW (condW f) d r) = _
          unfold stepW
          rw [if_neg (by rw [hR'.out]; decide), if_neg (by rw [hU'.out]; decide), hkk.out]
          rw [← hps]; rfl
        have m1 : q1 ∈ r.parts := by rw [hps]; simp
        have m2 : q2 ∈ r.parts := by rw [hps]; simp
        have S := Lib.hid (reckoned_14 r q1 q2 hkk.out hps (hP.out q1 m1).1 (hP.out q2 m2).1 w0 b d f deep w3 l _ hd hdp'.out (hP.out q1 m1).2 (hP.out q2 m2).2 hq'.out hB3.out hz0' htb'.out hw3'.out hln hcw)
        have hps' := Lib.hid hps
        clear hps m1 m2 hlen
        go_wp2_with fail
        refine S.out.mono ?_
        rintro e w4 ⟨rfl, hk5, l', d', hl', hcase⟩
        go_wp2_with fail
        go_end0
        exact ⟨rfl, hk4.out.trans hk5, l', d', by omega, by rw [hT.out]; exact hcase⟩
      by_cases h6 : k = 6
      · subst h6
        have hlen : r.parts.length = 1 := by
          have h := hR'.out
          unfold rightC at h
          rw [hkk.out] at h
          have h : (decide (r.parts.length = 1) && plainC r) = true := h
          simp only [Bool.and_eq_true, decide_eq_true_eq] at h
          exact h.1
        obtain ⟨q, hps⟩ := List.length_eq_one_iff.1 hlen
        have hmap : ∀ o : Option (List Piece), textO (o.map fun x => wd notL :: none :: x) = (textO o).map fun x => [110, 111, 116, 32] ++ x := by
          intro o
          cases o with
          | none => rfl
          | some x => rfl
        have hT : Hid (textO (condW (f + 1) d r) = (textO (partW (condW f) d 3 q)).map fun x => [110, 111, 116, 32] ++ x) := by
          refine Lib.hid ?_
          show textO (stepW (condW f) d r) = _
          unfold stepW
          rw [if_neg (by rw [hR'.out]; decide), if_neg (by rw [hU'.out]; decide), hkk.out]
          rw [← hmap, hps]; rfl
        have m1 : q ∈ r.parts := by rw [hps]; simp
        have hc1 := hcp.out q m1
        obtain ⟨g, o, k1, mm1, a1, p1, c1, hpe, hc2, R1, -, X1⟩ := CV.part_at hrow'.out hp'.out (i := 0) (q := q) (by rw [hps]; rfl)
        subst hpe
        have hl1 : (0 : Int) < (r.parts.length : Int) := by omega
        have S := Lib.hid (wstr_calls w0.heap.size b w3 l deep false ⟨#[110, 111, 116, 32]⟩ hw3'.out (by show l.length + 4 ≤ _; omega) hz0')
        have PO := Lib.hid (hP.out q m1).1
        have qf := (hP.out q m1).2
        have X1' := Lib.hid X1
        have R1' := Lib.hid R1
        have hps' := Lib.hid hps
        have hlen' := Lib.hid hlen
        clear hps m1 hlen X1 R1 hmap
        go_wp2_with fail
        refine S.out.mono ?_
        rintro e w4 ⟨rfl, hW4, hk5⟩
        have hz4 := hk5.size
        have hB4 := hB3.out.trans (hk5.below (by omega))
        have x5 := Blk.cell (hbx4.out.wkeeps hk5 (by decide) hne)
        obtain ⟨y0, y1, y2, y3⟩ := X1'.out w4 hB4
        rw [Nat.zero_mul, Nat.add_zero] at y0 y1 y2 y3
        have hll : (l ++ [110, 111, 116, 32]).length = l.length + 4 := by rw [List.length_append]; rfl
        have S2 := Lib.hid (PO.out w0 b d f 3 deep w4 (l ++ [110, 111, 116, 32]) _ hd hdp'.out (by omega) qf R1'.out hB4 (by omega) htb'.out hW4 (by omega) (by omega))
        have hll' := Lib.hid hll
        have hk5' := Lib.hid hk5
        clear hW4 hk5 hB4 hll S
        go_wp2_with fail
        refine S2.out.mono ?_
        rintro e w5 ⟨rfl, hk6, l', d', hl', hcase⟩
        go_wp2_with fail
        go_end0
        have hll := hll'.out
        refine ⟨rfl, (hk4.out.trans hk5'.out).trans hk6, l', d', by omega, ?_⟩
        rw [hT.out]
        rcases hcase with ⟨x, hx, hlx, hW⟩ | ⟨hx, hW⟩
        · exact .inl ⟨[110, 111, 116, 32] ++ x, by rw [hx]; rfl, by rw [hlx]; simp, hW⟩
        · exact .inr ⟨by rw [hx]; rfl, hW⟩
      by_cases h15 : k = 15
      · subst h15
        have hlen : 2 ≤ r.parts.length := by
          have h := hR'.out
          unfold rightC at h
          rw [hkk.out] at h
          have h : (decide (2 ≤ r.parts.length) && plainC r) = true := h
          simp only [Bool.and_eq_true, decide_eq_true_eq] at h
          exact h.1
        obtain ⟨q, tl, hps⟩ : ∃ q tl, r.parts = q :: tl := by
          match hh : r.parts with
          | [] => rw [hh] at hlen; cases hlen
          | a :: b => exact ⟨a, b, rfl⟩
        have hL : r.parts.length = tl.length + 1 := by rw [hps]; rfl
        have hT : Hid (textO (condW (f + 1) d r) = match textO (partW (condW f) d 5 q) with | none => none | some x => (textO (partsW (condW f) d 5 [mk [44], none] tl)).map fun y => x ++ [32, 105, 110, 32, 91] ++ y ++ [93]) := by
          refine Lib.hid ?_
          show textO (stepW (condW f) d r) = _
          unfold stepW
          rw [if_neg (by rw [hR'.out]; decide), if_neg (by rw [hU'.out]; decide), hkk.out]
          rw [← in_text, hps]; rfl
        have m1 : q ∈ r.parts := by rw [hps]; simp
        have m2 : ∀ q2 ∈ tl, q2 ∈ r.parts := fun q2 h => by rw [hps]; exact List.mem_cons_of_mem _ h
        have hcc : q.cw + 8 + cwL tl = cwL r.parts := by rw [hps, cwL_cons]
        obtain ⟨g, o, k1, mm1, a1, p1, c1, hpe, hc2, R1, -, X1⟩ := CV.part_at hrow'.out hp'.out (i := 0) (q := q) (by rw [hps]; rfl)
        subst hpe
        have hrt := hrow'.out
        rw [hL] at hrt
        have hrt2 := hrt.tail
        have hpt : ∀ (i : Nat) (q2 : CT), tl[i]? = some q2 → CV w0 (((ds.drop 4).drop (i * 4)).take 4) q2 := fun i q2 h => by
          have := hp'.out (i + 1) q2 (by rw [hps]; exact h)
          rw [List.drop_drop, show 4 + i * 4 = (i + 1) * 4 by omega]
          exact this
        have hcap : tl.length + 1 ≤ c := by rw [← hL]; exact hc2
        have htl : 1 ≤ tl.length := by omega
        have PS := Lib.hid (fun (w : World) (l : List UInt8) hb hz h hl hl2 => parts_ok tl (fun q hq => (hP.out q (m2 q hq)).1) w0 b d f 5 deep w l (some ⟨g, o + 4, none⟩) (c - 1) (ds.drop 4) ⟨#[44, 32]⟩ [mk [44], none] (by rfl) (by decide) hd hdp'.out (by omega) (fun q hq => (hP.out q (m2 q hq)).2) hrt2 hpt hb hz htb'.out h hl hl2)
        have PSO := Lib.hid (fun (w : World) (l : List UInt8) (dd : Int) hb h => parts_odd tl.length w0 b 5 dd w l (some ⟨g, o + 4, none⟩) (c - 1) tl (ds.drop 4) ⟨#[44, 32]⟩ rfl hrt2 hpt hb h)
        have PO := Lib.hid ((hP.out q m1).1 w0 b d f 5 deep w3 l _ hd hdp'.out (by omega) (hP.out q m1).2 R1 hB3.out hz0' htb'.out hw3'.out (by omega) (by omega))
        obtain ⟨y0, y1, y2, y3⟩ := X1 w3 hB3.out
        rw [Nat.zero_mul, Nat.add_zero] at y0 y1 y2 y3
        have hl1 : (0 : Int) < ((tl.length : Int) + 1) := by omega
        have hl2 : (1 : Int) ≤ ((tl.length : Int) + 1) := by omega
        have hl3 : ((tl.length : Int) + 1) ≤ (c : Int) := by omega
        have hl4 : (1 : Int) < (c : Int) := by omega
        have hl5 : ¬ (c = 1) := by omega
        have hl6 : ¬ (c - 1 = 0) := by omega
        rw [hL] at x4 ⊢
        have hbx5 := Lib.hid hbx4.out
        rw [hL] at hbx5
        have hps' := Lib.hid hps
        have hL' := Lib.hid hL
        have hcc1 : q.cw + 8 + cwL tl ≤ r.cw := by omega
        clear hps m1 m2 hlen X1 R1 hL hrt hrt2 hpt hcc hbx4 hmax hc2
        go_wp2_with fail
        refine PO.out.mono ?_
        rintro e w4 ⟨rfl, hk5, l4, d4, hl4b, hcase⟩
        have hz4 := hk5.size
        have hB4 := Lib.hid (hB3.out.trans (hk5.below (by omega)))
        have hbx6 := Lib.hid (hbx5.out.wkeeps hk5 (by decide) hne)
        have hk5' := Lib.hid (hk4.out.trans hk5)
        clear hk5 y0 y1 y2 y3 x4 PO
        rcases hcase with ⟨x, hx, hlx, hW4⟩ | ⟨hx, hW4⟩
        · have hx' := Lib.hid hx
          have hlx' := Lib.hid hlx
          have S := Lib.hid (wstr_calls w0.heap.size b w4 l4 deep false ⟨#[32, 105, 110, 32, 91]⟩ hW4 (by show l4.length + 5 ≤ _; omega) (by omega))
          clear hx hlx hW4
          go_wp2_with fail
          refine S.out.mono ?_
          rintro e w5 ⟨rfl, hW5, hk6⟩
          have hz5 := hk6.size
          have hB5 := hB4.out.trans (hk6.below (by omega))
          have x6 := Blk.cell (hbx6.out.wkeeps hk6 (by decide) hne)
          have hll : (l4 ++ [32, 105, 110, 32, 91]).length = l4.length + 5 := by rw [List.length_append]; rfl
          have S2 := Lib.hid (PS.out w5 (l4 ++ [32, 105, 110, 32, 91]) hB5 (by omega) hW5 (by omega) (by omega))
          have hll' := Lib.hid hll
          have hk6' := Lib.hid (hk5'.out.trans hk6)
          have hB5' := Lib.hid hB5
          clear hW5 hk6 hB5 hll S
          go_wp2_with fail
          refine S2.out.mono ?_
          rintro e w6 ⟨rfl, hk7, l6, d6, hl6b, hcase⟩
          have hz6 := hk7.size
          have hk7' := Lib.hid (hk6'.out.trans hk7)
          have hll := hll'.out
          have hl6c : l6.length ≤ l4.length + 5 + cwL tl := by omega
          clear hk7 x6 S2 hll
          rcases hcase with ⟨y, hy, hly, hW6⟩ | ⟨hy, hW6⟩
          · have hy' := Lib.hid hy
            have hly' := Lib.hid hly
            have S := Lib.hid (wstr_calls w0.heap.size b w6 l6 deep false ⟨#[93]⟩ hW6 (by show l6.length + 1 ≤ _; omega) (by omega))
            clear hy hly hW6
            go_wp2_with fail
            refine S.out.mono ?_
            rintro e w7 ⟨rfl, hW7, hk8⟩
            go_wp2_with fail
            go_end0
            refine ⟨rfl, hk7'.out.trans hk8, _, deep, by rw [List.length_append]; show l6.length + 1 ≤ _; omega, .inl ⟨x ++ [32, 105, 110, 32, 91] ++ y ++ [93], ?_, ?_, hW7⟩⟩
            · rw [hT.out, hx'.out, hy'.out]; rfl
            · rw [hly'.out, hlx'.out]; simp
          · have hy' := Lib.hid hy
            have S := Lib.hid (wstr_calls w0.heap.size b w6 l6 d6 true ⟨#[93]⟩ hW6 (by show l6.length + 1 ≤ _; omega) (by omega))
            clear hy hW6
            go_wp2_with fail
            refine S.out.mono ?_
            rintro e w7 ⟨rfl, hW7, hk8⟩
            go_wp2_with fail
            go_end0
            refine ⟨rfl, hk7'.out.trans hk8, _, d6, by rw [List.length_append]; show l6.length + 1 ≤ _; omega, .inr ⟨?_, hW7⟩⟩
            rw [hT.out, hx'.out, hy'.out]; rfl
        · have hx' := Lib.hid hx
          have S := Lib.hid (wstr_calls w0.heap.size b w4 l4 d4 true ⟨#[32, 105, 110, 32, 91]⟩ hW4 (by show l4.length + 5 ≤ _; omega) (by omega))
          clear hx hW4
          go_wp2_with fail
          refine S.out.mono ?_
          rintro e w5 ⟨rfl, hW5, hk6⟩
          have hz5 := hk6.size
          have hB5 := hB4.out.trans (hk6.below (by omega))
          have x6 := Blk.cell (hbx6.out.wkeeps hk6 (by decide) hne)
          have hll : (l4 ++ [32, 105, 110, 32, 91]).length = l4.length + 5 := by rw [List.length_append]; rfl
          have S2 := Lib.hid (PSO.out w5 (l4 ++ [32, 105, 110, 32, 91]) d4 hB5 hW5)
          have hll' := Lib.hid hll
          have hk6' := Lib.hid (hk5'.out.trans hk6)
          clear hW5 hk6 hB5 hll S
          go_wp2_with fail
          refine S2.out.mono ?_
          rintro e w6 ⟨rfl, hk7, l6, d6, hl6b, hW6⟩
          have hz6 := hk7.size
          have hk7' := Lib.hid (hk6'.out.trans hk7)
          have hll := hll'.out
          have hl6c : l6.length ≤ l4.length + 5 := by omega
          have S := Lib.hid (wstr_calls w0.heap.size b w6 l6 d6 true ⟨#[93]⟩ hW6 (by show l6.length + 1 ≤ _; omega) (by omega))
          clear hk7 x6 S2 hll hW6
          go_wp2_with fail
          refine S.out.mono ?_
          rintro e w7 ⟨rfl, hW7, hk8⟩
          go_wp2_with fail
          go_end0
          refine ⟨rfl, hk7'.out.trans hk8, _, d6, by rw [List.length_append]; show l6.length + 1 ≤ _; omega, .inr ⟨?_, hW7⟩⟩
          rw [hT.out, hx'.out]
      exfalso
      have h := hR'.out
      unfold rightC at h
      rw [hkk.out] at h
      rw [if_neg (by omega), if_neg h3, if_neg h4, if_neg h5, if_neg h6, if_neg (by omega), if_neg h15, if_neg (by omega)] at h
      cases h
theorem cond_ok (r : CT) : CondOK r := cond_step r fun q _ => cond_ok q
termination_by SizeOf.sizeOf r
decreasing_by assumption
end Go.Proofs.YtdfgbkilaepolaaGreatDoor
