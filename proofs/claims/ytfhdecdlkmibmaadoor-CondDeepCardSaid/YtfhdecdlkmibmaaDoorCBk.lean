/- Walk: conditions: the writer: a part, as it should be. -/
import Derived.Test.YtfhdecdlkmibmaaDoorCBj
namespace Go.Proofs.YtfhdecdlkmibmaaDoor
open Go.RowKit
theorem WSaid.mono {T T' : Option (List UInt8)} {W W' B b : Nat} {w : World} {l : List UInt8} {deep : Int} {e : Ending} {w' : World} (h : WSaid T W B b w l deep e w') (hW : W ≤ W') (hT : T = T') : WSaid T' W' B b w l deep e w' := by
  obtain ⟨h1, h2, l', d', h3, h4⟩ := h
  rw [← hT]
  exact ⟨h1, h2, l', d', by omega, h4⟩
theorem partW_hi {cond : Wr} {d least : Nat} {c : CT} (h : least ≤ rankC c) : partW cond d least c = cond d c := by unfold partW; rw [if_pos h]
theorem partW_0 {cond : Wr} {least : Nat} {c : CT} (h : ¬ least ≤ rankC c) : partW cond 0 least c = none := by unfold partW; rw [if_neg h]
theorem partW_s {cond : Wr} {d least : Nat} {c : CT} (h : ¬ least ≤ rankC c) : textO (partW cond (d + 1) least c) = (textO (cond d c)).map fun x => 40 :: x ++ [41] := by
  unfold partW; rw [if_neg h]
  show ((cond d c).map fun x => mk openL :: x ++ [mk closeL]).map textP = ((cond d c).map textP).map fun x => 40 :: x ++ [41]
  cases cond d c with
  | none => rfl
  | some x =>
    show some (textP (mk openL :: x ++ [mk closeL])) = _
    rw [textP_app]; rfl
set_option maxHeartbeats 4000000 in
set_option maxRecDepth 100000 in
theorem part_ok (q : CT) (hcond : CondOK q) : PartOK q := by
  intro w0 b d f least deep w l cs hd hdp hlst hf hq hb0 hz0 htb h hln hcw
  have hcond' := Lib.hid hcond
  have hdp' := Lib.hid hdp
  have hb0' := Lib.hid hb0
  have htb' := Lib.hid htb
  clear hcond hdp htb
  obtain ⟨k, m, a, p, c, ds, rfl, -⟩ := hq.form
  have hbl := h.lt
  have hbB := h.1
  have hb := (Below.refl w.heap.size w).alloc (Nat.le_refl _) (.cells #[.int .i64 k, .int .i64 m, .string a, .slice p q.parts.length c] 25)
  have hbx := Blk.new w 25 #[.int .i64 k, .int .i64 m, .string a, .slice p q.parts.length c]
  have hz1 := alloc_size w (.cells #[.int .i64 k, .int .i64 m, .string a, .slice p q.parts.length c] 25)
  obtain ⟨w1, e1⟩ : ∃ w1, w.alloc (.cells #[.int .i64 k, .int .i64 m, .string a, .slice p q.parts.length c] 25) = w1 := ⟨_, rfl⟩
  rw [e1] at hb hbx hz1
  have D := Lib.hid (rank_calls q _ w1 ((hq.later hb0).later hb))
  have h1 := Lib.hid (h.later hb)
  have k1 := Lib.hid (WKeeps.of_below (B := w0.heap.size) (b := b) hb)
  have x1 := Blk.cell hbx
  have hbx' := Lib.hid hbx
  have hq' := Lib.hid hq
  have hz1' := Lib.hid hz1
  clear h hbx hq hz1
  have hb1' := Lib.hid (hb0.trans (hb.mono hz0))
  clear hb hb0
  obtain ⟨rk, hrk⟩ : ∃ rk, rankC q = rk := ⟨_, rfl⟩
  rw [hrk] at D
  have hrk' := Lib.hid hrk
  have hrb : rk ≤ 7 := by
    rw [← hrk]
    unfold rankC
    repeat' split
    all_goals omega
  clear hrk
  go_enter Tryd.func14, Tryd.ntmps14
  go_wp2_with fail
  refine D.out.mono ?_
  rintro e w2 ⟨rfl, hb2⟩
  have hz2 := hb2.size
  have hw1 := hz1'.out
  have hbx2 := hbx'.out.below hb2 (by omega)
  have h2 := h1.out.later hb2
  obtain ⟨f2, f3, ff⟩ := h2.flag
  have k2 := Lib.hid (k1.out.trans (WKeeps.of_below hb2))
  have h2' := Lib.hid h2
  have x2 := Blk.cell hbx2
  have hbx2' := Lib.hid hbx2
  have hbl2 : b < w2.heap.size := by omega
  have hb2' := Lib.hid (hb1'.out.trans (hb2.mono (by omega)))
  clear hb2 hbx2 h2 D e1 x1
  by_cases hr : least ≤ rk
  · have er : (least : Int) ≤ (rk : Int) := by omega
    have er2 : decide ((least : Int) ≤ (rk : Int)) = true := decide_eq_true er
    have D := Lib.hid (hcond'.out w0 b d f deep w2 l _ hd hdp'.out hf hq'.out hb2'.out (by omega) htb'.out h2'.out (by omega) hcw)
    go_wp2_with fail
    refine D.out.mono ?_
    intro e w3 hS
    have hS' := hS.mono (T' := textO (partW (condW f) d least q)) (W' := q.cw + 2) (by omega) (by rw [partW_hi (by rw [hrk'.out]; exact hr)])
    obtain ⟨rfl, hk3, l', d', hl', hW3⟩ := hS'
    go_wp2_with fail
    go_end0
    exact ⟨rfl, k2.out.trans hk3, l', d', hl', hW3⟩
  · have er : ¬ (least : Int) ≤ (rk : Int) := by omega
    have er3 : (rk : Int) < (least : Int) := by omega
    have er2 : decide ((least : Int) ≤ (rk : Int)) = false := decide_eq_false er
    have hdn := hdp'.out
    obtain ⟨h3, k3⟩ := h2'.out.deep_ (deep + 1)
    have hz3 : (w2.setCell ⟨b, 2, none⟩ (.int .i64 (deep + 1))).heap.size = w2.heap.size := by simp [World.setCell]
    have h3' := Lib.hid h3
    have k3' := Lib.hid (k2.out.trans k3)
    have hz3' := Lib.hid hz3
    have hb3' := Lib.hid (hb2'.out.trans (k3.below (by omega)))
    have hdlo : 0 ≤ deep := by omega
    have hdhi : deep ≤ 8 := by omega
    clear h3 k3 hz3
    cases d with
    | zero =>
      have hT : Hid (textO (partW (condW f) 0 least q) = none) := Lib.hid (by rw [partW_0 (by rw [hrk'.out]; exact hr)]; rfl)
      have h8 : 8 < deep + 1 := by omega
      have e8 : decide (8 < deep + 1) = true := decide_eq_true h8
      clear hdn
      go_wp2_with fail
      go_end0
      obtain ⟨h4, k4⟩ := h3'.out.bad_ true
      exact ⟨rfl, k3'.out.trans k4, l, deep + 1, by omega, .inr ⟨hT.out, h4⟩⟩
    | succ d =>
      have hT : Hid (textO (partW (condW f) (d + 1) least q) = (textO (condW f d q)).map fun x => 40 :: x ++ [41]) := Lib.hid (partW_s (by rw [hrk'.out]; exact hr))
      have h8 : ¬ 8 < deep + 1 := by omega
      have e8 : decide (8 < deep + 1) = false := decide_eq_false h8
      have hdn2 : Hid (deep + 1 = 8 - (d : Int)) := Lib.hid (by omega)
      clear hdn
      have D : Calls Tryd.prog 28 #[.pointer (some ⟨b, 0, none⟩), .int .u8 40] (w2.setCell ⟨b, 2, none⟩ (.int .i64 (deep + 1))) fun e w' => e = .returned .nilIface ∧ WrAt w0.heap.size b w' (l ++ [40]) (deep + 1) false ∧ WKeeps w0.heap.size b (w2.setCell ⟨b, 2, none⟩ (.int .i64 (deep + 1))) w' := wbyte_calls w0.heap.size b _ l (deep + 1) false 40 h3'.out (by omega) (by have := hz3'.out; omega)
      have D' := Lib.hid D
      clear D
      go_wp2_with fail
      refine D'.out.mono ?_
      rintro e w3 ⟨rfl, h4, k4⟩
      have hbx3 := (hbx2'.out.far (p := ⟨b, 2, none⟩) (by intro e; exact Nat.ne_of_lt hbl e.symm) (.int .i64 (deep + 1))).wkeeps k4 (by decide) (Nat.ne_of_gt hbl)
      have x3 := Blk.cell hbx3
      have hz4 := k4.size
      have hz3b := hz3'.out
      have hb4' := hb3'.out.trans (k4.below (by omega))
      have hll : (l ++ [40]).length = l.length + 1 := by simp
      have D2 := Lib.hid (hcond'.out w0 b d f (deep + 1) w3 (l ++ [40]) _ (by omega) hdn2.out hf hq'.out hb4' (by omega) htb'.out h4 (by omega) hcw)
      have k4' := Lib.hid (k3'.out.trans k4)
      have hll' := Lib.hid hll
      clear h4 k4 hbx3 x2 f2 f3 ff D' hb4' hll
      go_wp2_with fail
      refine D2.out.mono ?_
      rintro e w4 ⟨rfl, hk5, l5, d5, hl5, hcase⟩
      have hz5 := hk5.size
      have k5' := Lib.hid (k4'.out.trans hk5)
      have hl5' := Lib.hid hl5
      have hl5b : l5.length ≤ l.length + 1 + q.cw := by have := hll'.out; omega
      rcases hcase with ⟨x, hx, hlx, hW5⟩ | ⟨hx, hW5⟩
      · have hx' := Lib.hid hx
        have hlx' := Lib.hid hlx
        have D : Calls Tryd.prog 28 #[.pointer (some ⟨b, 0, none⟩), .int .u8 41] w4 fun e w' => e = .returned .nilIface ∧ WrAt w0.heap.size b w' (l5 ++ [41]) (deep + 1) false ∧ WKeeps w0.heap.size b w4 w' := wbyte_calls w0.heap.size b _ l5 (deep + 1) false 41 hW5 (by omega) (by omega)
        have D' := Lib.hid D
        clear D hk5 hW5 D2 x3 hx hlx
        go_wp2_with fail
        refine D'.out.mono ?_
        rintro e w5 ⟨rfl, h6, k6⟩
        obtain ⟨f2, f3, ff⟩ := h6.flag
        have h6' := Lib.hid h6
        have k6' := Lib.hid (k5'.out.trans k6)
        clear h6 k6 D'
        go_wp2_with fail
        go_end0
        obtain ⟨h7, k7⟩ := h6'.out.deep_ deep
        refine ⟨rfl, k6'.out.trans k7, l5 ++ [41], deep, by rw [List.length_append]; show l5.length + 1 ≤ _; omega, .inl ⟨40 :: x ++ [41], by rw [hT.out, hx'.out]; rfl, by rw [hlx'.out]; simp, h7⟩⟩
      · have hx' := Lib.hid hx
        have D : Calls Tryd.prog 28 #[.pointer (some ⟨b, 0, none⟩), .int .u8 41] w4 fun e w' => e = .returned .nilIface ∧ WrAt w0.heap.size b w' (l5 ++ [41]) d5 true ∧ WKeeps w0.heap.size b w4 w' := wbyte_calls w0.heap.size b _ l5 d5 true 41 hW5 (by omega) (by omega)
        have D' := Lib.hid D
        clear D hk5 hW5 D2 x3 hx
        go_wp2_with fail
        refine D'.out.mono ?_
        rintro e w5 ⟨rfl, h6, k6⟩
        obtain ⟨f2, f3, ff⟩ := h6.flag
        have h6' := Lib.hid h6
        have k6' := Lib.hid (k5'.out.trans k6)
        clear h6 k6 D'
        obtain ⟨d6, hd6⟩ : ∃ d6, wrap64 (d5 - 1) = d6 := ⟨_, rfl⟩
        go_wp2_with fail
        go_end0
        obtain ⟨h7, k7⟩ := h6'.out.deep_ d6
        exact ⟨rfl, k6'.out.trans k7, l5 ++ [41], d6, by rw [List.length_append]; show l5.length + 1 ≤ _; omega, .inr ⟨by rw [hT.out, hx'.out]; rfl, h7⟩⟩
end Go.Proofs.YtfhdecdlkmibmaaDoor
