/- Walk: the document's Text of a group of the other kind. -/
import Derived.Test.YtkibaaljpbcjeaaDoorSX2
namespace Go.Proofs.YtkibaaljpbcjeaaDoor
open Go.RowKit
set_option maxHeartbeats 8000000 in
set_option maxRecDepth 100000 in
theorem text_grp5 (a bb : ByteArray) (p : Option Addr) (c : Nat) (ps : List RT) (ds : List Value) (w : World) (hrow : RowV w (.slice p ps.length c) ps.length ds)
    (hps : ∀ (i : Nat) (q : RT), ps[i]? = some q → RV w ((ds.drop (i * 4)).take 4) q) (hrec : ∀ q ∈ ps, TextOK q) (d : Nat) (deep : Int) (hd : d ≤ 8) (hdp : deep = 8 - d) (hl : wtL ps ≤ 900000000) :
    Calls Tryd.prog 30 #[.agg #[.int .i64 5, .string a, .string bb, .slice p ps.length c], .int .i64 deep] w (TextSaid (ruleT d (.node 5 a.data.toList bb.data.toList ps)) w) := by
  have hmax := hrow.1
  unfold maxLen at hmax
  have bx := Blk.new w 42 #[.int .i64 5, .string a, .string bb, .slice p ps.length c]
  have hb := (Below.refl w.heap.size w).alloc (Nat.le_refl _) (.cells #[.int .i64 5, .string a, .string bb, .slice p ps.length c] 42)
  obtain ⟨W, eW⟩ : ∃ W, w.alloc (.cells #[.int .i64 5, .string a, .string bb, .slice p ps.length c] 42) = W := ⟨_, rfl⟩
  have hzW : W.heap.size = w.heap.size + 1 := by rw [← eW]; simp
  rw [eW] at bx hb
  have bxc := bx.cell
  have hT : (a.toList = [] ∧ bb.toList = [] ∧ 2 ≤ ps.length → ruleT d (.node 5 a.data.toList bb.data.toList ps) = partsT 5 d true ps) ∧ (¬ (a.toList = [] ∧ bb.toList = [] ∧ 2 ≤ ps.length) → ruleT d (.node 5 a.data.toList bb.data.toList ps) = none) := by
    rw [ruleT_grp (by decide)]
    simp only [← nil_data]
    exact ⟨fun h => if_pos h, fun h => if_neg h⟩
  generalize ruleT d (.node 5 a.data.toList bb.data.toList ps) = T at *
  generalize hn : ps.length = n at *
  have hn' := Lib.hid hn
  have hT' := Lib.hid hT
  have hb' := Lib.hid hb
  have bx' := Lib.hid bx
  have hrow' := Lib.hid hrow
  have hps' := Lib.hid hps
  have hrec' := Lib.hid hrec
  clear bx hb hT hn hrow hps hrec
  by_cases ha : a.toList = []
  rotate_left
  · have ht := Lib.hid (hT'.out.2 fun e => ha e.1)
    have za : a.toList.isEmpty = false := by rw [List.isEmpty_eq_false_iff]; exact ha
    clear hT'
    go_enter Tryd.func30, Tryd.ntmps30
    go_wp2_with fail
    go_ret2
    exact ⟨⟨_, _, rfl, .inr ⟨rfl, ht.out⟩⟩, hb'.out⟩
  have za : a.toList.isEmpty = true := by rw [List.isEmpty_iff]; exact ha
  by_cases hbb : bb.toList = []
  rotate_left
  · have ht := Lib.hid (hT'.out.2 fun e => hbb e.2.1)
    have zb : bb.toList.isEmpty = false := by rw [List.isEmpty_eq_false_iff]; exact hbb
    clear hT'
    go_enter Tryd.func30, Tryd.ntmps30
    go_wp2_with fail
    go_ret2
    exact ⟨⟨_, _, rfl, .inr ⟨rfl, ht.out⟩⟩, hb'.out⟩
  have zb : bb.toList.isEmpty = true := by rw [List.isEmpty_iff]; exact hbb
  by_cases hn2 : n < 2
  · have ht := Lib.hid (hT'.out.2 fun e => by omega)
    have zn : decide ((n : Int) < 2) = true := decide_eq_true (by omega)
    clear hT'
    go_enter Tryd.func30, Tryd.ntmps30
    go_wp2_with fail
    go_ret2
    exact ⟨⟨_, _, rfl, .inr ⟨rfl, ht.out⟩⟩, hb'.out⟩
  have zn : decide ((n : Int) < 2) = false := decide_eq_false (by omega)
  have ht := hT'.out.1 ⟨ha, hbb, by omega⟩
  have ht' := Lib.hid ht
  have hd0 : 0 ≤ deep := by omega
  have hd8 : deep ≤ 8 := by omega
  have hdp' := Lib.hid hdp
  clear hT' ht hdp
  go_enter Tryd.func30, Tryd.ntmps30
  go_wp2_with fail
  go_loopw [6, 91] (fun l i wr => ∃ (j : Nat) (O : ByteArray), j ≤ n ∧ i = .int .i64 j ∧ l = .string O ∧ TInv 5 d ps j O ∧ Blk wr w.heap.size 42 #[.int .i64 5, .string a, .string bb, .slice p n c] ∧ Below w.heap.size w wr ∧ w.heap.size + 1 ≤ wr.heap.size) (fun _ i _ => n - (intOf i).toNat)
  case atStart => exact ⟨0, ⟨#[]⟩, Nat.zero_le _, rfl, rfl, TInv.start _ _ _, bx'.out, hb'.out, by omega⟩
  case round =>
    obtain ⟨j, O, hj, rfl, rfl, hI, hX, hB, hz⟩ := hrel
    by_cases hlt : j < n
    · have hjl : j < ps.length := by rw [hn'.out]; exact hlt
      obtain ⟨q, hq⟩ : ∃ q, ps[j]? = some q := ⟨_, List.getElem?_eq_getElem hjl⟩
      obtain ⟨g, o, rfl, hc1, hcell⟩ := (hrow'.out.below hB).cell (by omega)
      obtain ⟨kq, aq, bq, pq, cq, Rq, hqe, lg, x0, x1, x2, x3⟩ := RV.part hcell hq ((hps'.out j _ hq).later hB)
      have hkq : q.kind = kq := by rw [hqe]; rfl
      have hqm := List.mem_of_getElem? hq
      have hqw := wtL_mem hqm
      have hlen := hI.len
      obtain ⟨w3, e3⟩ : ∃ w3, wr.alloc (.cells #[.int .i64 kq, .string aq, .string bq, .slice pq q.parts.length cq] 42) = w3 := ⟨_, rfl⟩
      have hb3 := (Below.refl wr.heap.size wr).alloc (Nat.le_refl _) (.cells #[.int .i64 kq, .string aq, .string bq, .slice pq q.parts.length cq] 42)
      have bq3 := Blk.new wr 42 #[.int .i64 kq, .string aq, .string bq, .slice pq q.parts.length cq]
      have hz3 : w3.heap.size = wr.heap.size + 1 := by rw [← e3]; simp
      rw [e3] at hb3 bq3
      have B3 := hB.trans (hb3.mono (by omega))
      have X3 := hX.below hb3 (by omega)
      have c3 := bq3.cell
      have X3c := X3.cell
      have R3 := Rq.later hb3
      have hbad := fun h => hI.bad hq h
      have hI' := Lib.hid hI
      have hq' := Lib.hid hq
      have hbad' := Lib.hid hbad
      have B3' := Lib.hid B3
      have X3' := Lib.hid X3
      have bq3' := Lib.hid bq3
      have R3' := Lib.hid R3
      have lx3 : w.heap.size < w3.heap.size := by omega
      have lq3 : wr.heap.size < w3.heap.size := by omega
      clear hI hq hbad B3 X3 bq3 R3 hb3 Rq hqe hcell hjl hB hX
      by_cases hkk : kq = 5
      · have hnone := Lib.hid (hbad'.out (.inl (by rw [hkq, hkk])))
        clear hbad' hkq
        subst hkk
        go_wp2_with fail
        go_ret2
        exact ⟨⟨_, _, rfl, .inr ⟨rfl, by rw [ht'.out]; exact hnone.out⟩⟩, B3'.out⟩
      have o2 : (kq != 5) = true := bne_iff_ne.2 hkk
      by_cases h4 : kq = 4
      · subst h4
        match d, hd, hdp'.out, hI', hbad', hrec', ht' with
        | 0, hd, hdp0, hI', hbad', hrec', ht' =>
          have hd8' : deep = 8 := by omega
          have hnone := Lib.hid (hbad'.out (.inr (partT_0 rfl hkq)))
          have o3 : decide (deep + 1 ≤ 8) = false := decide_eq_false (by omega)
          clear hbad' hdp' hrec' R3'
          go_wp2_with fail
          go_ret2
          exact ⟨⟨_, _, rfl, .inr ⟨rfl, by rw [ht'.out]; exact hnone.out⟩⟩, B3'.out⟩
        | d + 1, hd, hdp0, hI', hbad', hrec', ht' =>
          have hpt : partT 5 (d + 1) q = (ruleT d q).map fun t => opL ++ t ++ clL := partT_s rfl hkq d
          have P := hrec'.out q hqm d (deep + 1) w3 _ (by omega) (by omega) R3'.out (by omega)
          have o3 : decide (deep + 1 ≤ 8) = true := decide_eq_true (by omega)
          have P' := Lib.hid P
          clear P R3' hqm hdp' hdp0
          go_wp2_with fail
          refine P'.out.mono ?_
          rintro e w4 ⟨⟨s, ok, rfl, hs⟩, hb4⟩
          have l4 := hb4.size
          have B4 := B3'.out.trans (hb4.mono (by omega))
          have X4 := X3'.out.below hb4 lx3
          have X4c := X4.cell
          have bq4 := bq3'.out.below hb4 lq3
          have bq4c := bq4.cell
          have lx4 : w.heap.size < w4.heap.size := by omega
          have lq4 : wr.heap.size < w4.heap.size := by omega
          have B4' := Lib.hid B4
          have X4' := Lib.hid X4
          rcases hs with ⟨rfl, hs⟩ | ⟨rfl, hs⟩
          rotate_left
          · have hnone := Lib.hid (hbad'.out (.inr (by rw [hpt, hs]; rfl)))
            clear hbad' B4 X4 bq4 hb4 hs P' hpt
            go_wp2_with fail
            go_ret2
            exact ⟨⟨_, _, rfl, .inr ⟨rfl, by rw [ht'.out]; exact hnone.out⟩⟩, B4'.out⟩
          have hsome : partT 5 (d + 1) q = some (opL ++ s.data.toList ++ clL) := by rw [hpt, hs]; rfl
          have htl := part_len hsome
          have hss : s.size ≤ q.wt + 2 := by
            rw [Lib.size_eq]
            refine Nat.le_trans ?_ htl
            simp [opL, clL]; omega
          have hsome' := Lib.hid hsome
          clear hbad' B4 X4 bq4 hb4 hs P' hpt hsome htl
          rcases Nat.eq_zero_or_pos j with hj0 | hj0
          · have z1 := dec0 j hj0
            have hO : TInv 5 (d + 1) ps (j + 1) (O ++ (⟨#[40]⟩ ++ s ++ ⟨#[41]⟩)) := by
              refine hI'.out.step hq'.out (by rw [hkq]; exact hkk) hsome'.out ?_ ?_
              · rw [if_pos hj0, List.append_nil, bd, bd, bd]; rfl
              · rw [ByteArray.size_append, ByteArray.size_append, ByteArray.size_append, show (⟨#[40]⟩ : ByteArray).size = 1 from rfl, show (⟨#[41]⟩ : ByteArray).size = 1 from rfl]; omega
            have hO' := Lib.hid hO
            clear hO
            go_wp2_with fail
            go_roundw
            case rel => exact ⟨j + 1, _, by omega, by go_num, rfl, hO'.out, X4'.out, B4'.out, by omega⟩
            case measure => simp [intOf]; omega
          · have z1 := dec1 j hj0
            have hO : TInv 5 (d + 1) ps (j + 1) (O ++ ⟨#[32, 38, 32]⟩ ++ (⟨#[40]⟩ ++ s ++ ⟨#[41]⟩)) := by
              refine hI'.out.step hq'.out (by rw [hkq]; exact hkk) hsome'.out ?_ ?_
              · rw [if_neg (by omega), bd, bd, bd, bd]; rfl
              · rw [ByteArray.size_append, ByteArray.size_append, ByteArray.size_append, ByteArray.size_append, show (⟨#[40]⟩ : ByteArray).size = 1 from rfl, show (⟨#[41]⟩ : ByteArray).size = 1 from rfl, show (⟨#[32, 38, 32]⟩ : ByteArray).size = 3 from rfl]; omega
            have hO' := Lib.hid hO
            clear hO
            go_wp2_with fail
            go_roundw
            case rel => exact ⟨j + 1, _, by omega, by go_num, rfl, hO'.out, X4'.out, B4'.out, by omega⟩
            case measure => simp [intOf]; omega
      · have o1 : (kq == 4) = false := beq_false_of_ne h4
        have hpt : partT 5 d q = ruleT d q := partT_ne fun e => h4 (by rw [← hkq]; exact e.2)
        have P := hrec'.out q hqm d deep w3 _ hd hdp'.out R3'.out (by omega)
        have P' := Lib.hid P
        clear P R3' hqm
        go_wp2_with fail
        refine P'.out.mono ?_
        rintro e w4 ⟨⟨s, ok, rfl, hs⟩, hb4⟩
        have l4 := hb4.size
        have B4 := B3'.out.trans (hb4.mono (by omega))
        have X4 := X3'.out.below hb4 lx3
        have X4c := X4.cell
        have bq4 := bq3'.out.below hb4 lq3
        have bq4c := bq4.cell
        have lx4 : w.heap.size < w4.heap.size := by omega
        have lq4 : wr.heap.size < w4.heap.size := by omega
        have B4' := Lib.hid B4
        have X4' := Lib.hid X4
        rcases hs with ⟨rfl, hs⟩ | ⟨rfl, hs⟩
        rotate_left
        · have hnone := Lib.hid (hbad'.out (.inr (by rw [hpt, hs])))
          clear hbad' B4 X4 bq4 hb4 hs P' hpt
          go_wp2_with fail
          go_ret2
          exact ⟨⟨_, _, rfl, .inr ⟨rfl, by rw [ht'.out]; exact hnone.out⟩⟩, B4'.out⟩
        have hsome : partT 5 d q = some (s.data.toList) := by rw [hpt, hs]
        have htl := part_len hsome
        have hss : s.size ≤ q.wt + 2 := by
          rw [Lib.size_eq]
          refine Nat.le_trans ?_ htl
          simp
        have hsome' := Lib.hid hsome
        clear hbad' B4 X4 bq4 hb4 hs P' hpt hsome htl
        rcases Nat.eq_zero_or_pos j with hj0 | hj0
        · have z1 := dec0 j hj0
          have hO : TInv 5 d ps (j + 1) (O ++ s) := by
            refine hI'.out.step hq'.out (by rw [hkq]; exact hkk) hsome'.out ?_ ?_
            · rw [if_pos hj0, List.append_nil, bd]
            · rw [ByteArray.size_append]; omega
          have hO' := Lib.hid hO
          clear hO
          go_wp2_with fail
          go_roundw
          case rel => exact ⟨j + 1, _, by omega, by go_num, rfl, hO'.out, X4'.out, B4'.out, by omega⟩
          case measure => simp [intOf]; omega
        · have z1 := dec1 j hj0
          have hO : TInv 5 d ps (j + 1) (O ++ ⟨#[32, 38, 32]⟩ ++ s) := by
            refine hI'.out.step hq'.out (by rw [hkq]; exact hkk) hsome'.out ?_ ?_
            · rw [if_neg (by omega), bd, bd]; rfl
            · rw [ByteArray.size_append, ByteArray.size_append, show (⟨#[32, 38, 32]⟩ : ByteArray).size = 3 from rfl]; omega
          have hO' := Lib.hid hO
          clear hO
          go_wp2_with fail
          go_roundw
          case rel => exact ⟨j + 1, _, by omega, by go_num, rfl, hO'.out, X4'.out, B4'.out, by omega⟩
          case measure => simp [intOf]; omega
    · obtain rfl : j = n := by omega
      have hE := hI
      rw [← hn'.out] at hE
      have hE' := Lib.hid hE.done
      have hB' := Lib.hid hB
      clear hE hI hX hB
      go_wp2_with fail
      go_ret2
      exact ⟨⟨_, _, rfl, .inl ⟨rfl, by rw [ht'.out]; exact hE'.out⟩⟩, hB'.out⟩
end Go.Proofs.YtkibaaljpbcjeaaDoor
