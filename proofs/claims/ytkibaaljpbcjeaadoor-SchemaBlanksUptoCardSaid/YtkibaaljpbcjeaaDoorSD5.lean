/- Walk: the document's several. Walk: the document's rule: what it tells of a line's tokens. -/
import Derived.Test.YtkibaaljpbcjeaaDoorSD3
namespace Go.Proofs.YtkibaaljpbcjeaaDoor
open Go.RowKit
attribute [local go_sem ↓] dapp_op
theorem dLoop_none {G : Toks → Option (RT × Toks)} {op : List UInt8} {kind : Int} {n : Nat} {l : Toks} {acc : List RT} (h : G l = none) : dLoop G op kind n l acc = none := by
  cases n with
  | zero => rfl
  | succ n => unfold dLoop; rw [h]
set_option maxHeartbeats 4000000 in
set_option maxRecDepth 100000 in
theorem dsev_calls (kind : Int) (op : ByteArray) (G : Toks → Option (RT × Toks)) (hGz : ∀ l r l', G l = some (r, l') → DSz l l' r) (deep : Int) (g : Nat)
    (hO : (kind = 4 ∧ ∀ v' w' l', l'.length ≤ 100000 → LAt w' g v' l' → Calls Tryd.prog 46 #[v', .int .i64 deep, .string ⟨#[38]⟩, .int .i64 5] w' (DTold G w' g l')) ∨ (kind = 5 ∧ ∀ v' w' l', l'.length ≤ 100000 → LAt w' g v' l' → Calls Tryd.prog 61 #[v', .int .i64 deep] w' (DTold G w' g l')))
    (v : Value) (l : Toks) (w : World) (hN : l.length ≤ 100000) (h : LAt w g v l) :
    Calls Tryd.prog 46 #[v, .int .i64 deep, .string op, .int .i64 kind] w (DTold (dOp G op.data.toList kind) w g l) := by
  have hgl := h.lt
  have hkind : kind = 4 ∨ kind = 5 := hO.imp (·.1) (·.1)
  have hr1 := Blk.new w 42 ruleZ
  have hb1 := (Below.refl w.heap.size w).alloc (Nat.le_refl _) (.cells ruleZ 42)
  have hL1 := h.below hb1 hgl
  have hz1 : (w.alloc (.cells ruleZ 42)).heap.size = w.heap.size + 1 := by simp
  obtain ⟨o0, c0, rfl, hc0⟩ := h.form
  have hkind' := Lib.hid hkind
  have hGz' := Lib.hid hGz
  have hr1' := Lib.hid hr1
  have hb1' := Lib.hid hb1
  have hL1' := Lib.hid hL1
  clear hGz h hr1 hb1 hL1 hkind
  rcases hO with ⟨hk, hO⟩ | ⟨hk, hO⟩
  all_goals
    first
    | have e4k : (kind == 4) = true := by rw [hk]; rfl
    | have e4k : (kind == 4) = false := by rw [hk]; rfl
    have hO' := Lib.hid hO
    clear hO hk
    go_enter Tryd.func46, Tryd.ntmps46
    go_wp2_with fail
    go_loopw [0, 11] (fun lv v wr => ∃ (acc : List RT) (cs : List Value) (l1 : Toks) (n : Nat), Own (w.heap.size + 1) wr v acc cs ∧ LAt wr g lv l1 ∧ Below w.heap.size w wr ∧ w.heap.size + 1 ≤ wr.heap.size ∧ Blk wr w.heap.size 42 ruleZ ∧ acc.length + l1.length ≤ l.length ∧ l1.length < n ∧ dLoop G op.data.toList kind n l1 acc = dOp G op.data.toList kind l) (fun lv _ _ => sliceLen lv)
    case atStart => exact ⟨[], [], l, _, Own.nil _ _, hL1'.out, hb1'.out, Nat.le_of_eq hz1.symm, hr1'.out, by simp, Nat.lt_succ_self _, rfl⟩
    case round =>
      obtain ⟨acc, cs, l1, n, hown, hL, hB, hz, hres, hle, hn, hg⟩ := hrel
      obtain ⟨pv, cv, rfl⟩ := own_slice hown.row
      obtain ⟨o, c, rfl, hc⟩ := hL.form
      have hvB := fun j hj => (hown.row.lt j hj).2
      have hb1 := (Below.refl wr.heap.size wr).alloc (Nat.le_refl _) (.cells ruleZ 42)
      have hzr : (wr.alloc (.cells ruleZ 42)).heap.size = wr.heap.size + 1 := by simp
      have hC := Lib.hid (hO'.out _ (wr.alloc (.cells ruleZ 42)) l1 (by omega) (hL.below hb1 hL.lt))
      have hown' := Lib.hid hown
      have hL' := Lib.hid hL
      have hB' := Lib.hid hB
      have hres' := Lib.hid hres
      have hg' := Lib.hid hg
      have hb1' := Lib.hid hb1
      clear hown hL hB hres hg hb1
      go_wp2_with fail
      refine hC.out.mono ?_
      rintro e w2 ⟨b2, k, a, b, p, n', c', p2, n2, c2, ok, rfl, hcase⟩
      rw [hzr] at b2
      have x2 : Blk w2 wr.heap.size 42 ruleZ := (Blk.new wr 42 ruleZ).below b2 (by omega)
      have B2 : Below wr.heap.size wr w2 := hb1'.out.trans (b2.mono (by omega))
      obtain ⟨w3, e3, x3, B3, K3⟩ := put_res (w := wr) rfl B2 x2 (.int .i64 k) (.string a) (.string b) (.slice p n' c')
      have x2c := x2.cell
      have x2f := x2.frozen
      have x3c := x3.cell
      have x3f := x3.frozen
      have hz2 := b2.size
      have hz3 := B3.size
      have hres3 := hres'.out.below B3 (by omega)
      have r3c := hres3.cell
      have r3f := hres3.frozen
      have Bw3 : Below w.heap.size w w3 := hB'.out.trans (B3.mono (by omega))
      rcases hcase with ⟨rfl, hnn⟩ | ⟨rfl, r, l', hs, hRA, hL2⟩
      · obtain ⟨W, eW, hBW, hLW, _⟩ := put_res (w := w) rfl Bw3 hres3 (.int .i64 k) (.string a) (.string b) (.slice p n' c')
        have cW := hBW.cell
        have hfin := Lib.hid (show DTold (dOp G op.data.toList kind) w g l (.returned (.tuple #[.agg #[.int .i64 k, .string a, .string b, .slice p n' c'], .slice p2 n2 c2, .bool false])) W from ⟨hLW, _, _, _, _, _, _, _, _, _, _, rfl, .inl ⟨rfl, by rw [← hg'.out]; exact dLoop_none hnn⟩⟩)
        clear hBW hLW Bw3 hres3 x3 x2 B2 B3 K3 b2 hnn
        go_wp2_with fail
        try rw [eW]
        exact bodyPost_ret (v := .tuple #[.agg #[.int .i64 k, .string a, .string b, .slice p n' c'], .slice p2 n2 c2, .bool false]) (by simp [results, Tryd.results46, go_sem, cW]) rfl hfin.out
      · have L3 := hL2.keeps K3 (by have := hL'.out.lt; omega)
        have own3 := hown'.out.keeps (S := fun _ => False) (.of_below B3) fun _ _ _ => id
        have RA3 := (hRA.keeps K3 (fun j hj _ e => by rw [hzr] at hj; omega)).mono (Q := fun j => w.heap.size + 1 ≤ j ∧ (Value.slice pv acc.length cv).ownBlock ≠ some j) fun j hj _ => ⟨by rw [hzr] at hj; omega, fun e => by rw [hzr] at hj; have := hvB j e; omega⟩
        have hApp := dapp_step hkind'.out hGz'.out hN hgl own3 Bw3 (by omega) hres3 L3 RA3 hle hn hg'.out hs
        have hgw := hL'.out.lt
        have hl9 := (hGz'.out _ _ _ hs).lt
        clear own3 RA3 L3 Bw3 hres3 x3 x2 B2 B3 K3 b2 hRA hL2 r3c r3f hs hle hn
        rcases hApp with ⟨hkd, p4, c4, w4, e4, A⟩ | ⟨hkd, p4, c4, w4, e4, A⟩
        all_goals
          first
          | have e9 : (k == kind) = true := by rw [hkd]; exact beq_self_eq_true _
          | have e9 : (k == kind) = false := beq_false_of_ne hkd
          clear hkd
          generalize acc ++ flat kind r = acc' at *
          obtain ⟨o2, c3, e5, hc3⟩ := A.lat.form
          injection e5 with e5 e6 e7
          subst e5 e6 e7
          have A' := Lib.hid A
          have r4c := A.res.cell
          have r4f := A.res.frozen
          have hzA := A.keeps.size
          obtain ⟨n5, hn5, hG5⟩ := A.said
          clear A
          cases l' with
          | nil =>
            have hG6 : dOp G op.data.toList kind l = some (joined kind acc', []) := hG5
            clear hG5
            by_cases hl1 : acc'.length = 1
            · obtain ⟨x9, rfl⟩ := List.length_eq_one_iff.1 hl1
              obtain ⟨q, c7, k7, a7, b7, p7, n7, rfl, hc4, hcell, W, eW, cW, hT⟩ := A'.out.end_one hgl hG6
              have hc70 := hcell 0 (by decide)
              have hc71 := hcell 1 (by decide)
              have hc72 := hcell 2 (by decide)
              have hc73 := hcell 3 (by decide)
              have hT' := Lib.hid hT
              clear hcell hT hG6
              go_wp2_with fail
              try rw [eW]
              exact bodyPost_ret (v := .tuple #[.agg #[.int .i64 k7, .string a7, .string b7, .slice p7 n7 c7], .slice (some ⟨g, o2, none⟩) 0 c2, .bool true]) (by simp [results, Tryd.results46, go_sem, cW]) rfl hT'.out
            · obtain ⟨W, eW, cW, hT⟩ := A'.out.end_many hl1 hgl hG6
              have hT' := Lib.hid hT
              clear hT hG6
              go_wp2_with fail
              try rw [eW]
              exact bodyPost_ret (v := .tuple #[.agg #[.int .i64 kind, .string ⟨#[]⟩, .string ⟨#[]⟩, .slice p4 acc'.length c4], .slice (some ⟨g, o2, none⟩) 0 c2, .bool true]) (by simp [results, Tryd.results46, go_sem, cW]) rfl hT'.out
          | cons x l3 =>
            obtain ⟨X, eX, dX⟩ := str_of x
            have hX := A'.out.lat.cell.2.2.1 0 x rfl
            rw [eX, Nat.add_zero] at hX
            have eq5 := beq_str X op
            rw [dX] at eq5
            by_cases hxo : x = op.data.toList
            · have e6 : (X.toList == op.toList) = true := by rw [eq5, hxo]; exact beq_self_eq_true _
              have hG6 : dOp G op.data.toList kind l = dLoop G op.data.toList kind n5 l3 acc' := by rw [hG5]; exact if_pos (congrArg some hxo)
              have hlat := A'.out.lat
              rw [show (x :: l3).length = l3.length + 1 from rfl] at hlat hc3
              have htl := hlat.tail1
              have hG6' := Lib.hid hG6
              clear eq5 hG5 hG6 hlat
              rcases htl with ⟨hc9, hL9⟩ | ⟨hc9, hL9⟩
              all_goals
                have hL9' := Lib.hid hL9
                clear hL9
                go_wp2_with fail
                go_roundw
                case rel =>
                  obtain ⟨cs7, own7⟩ := A'.out.own
                  have hac := A'.out.acc_.le
                  have hlt3 : (x :: l3).length = l3.length + 1 := rfl
                  refine ⟨acc', cs7, l3, n5, own7, hL9'.out, A'.out.keeps, by have := A'.out.res.lt; omega, A'.out.res, by omega, by omega, hG6'.out.symm⟩
                case measure =>
                  have hlt3 : (x :: l3).length = l3.length + 1 := rfl
                  simp only [sliceLen]; omega
            · have e6 : (X.toList == op.toList) = false := by rw [eq5]; exact beq_false_of_ne hxo
              have hG6 : dOp G op.data.toList kind l = some (joined kind acc', x :: l3) := by rw [hG5]; exact if_neg fun e => hxo (Option.some.inj e)
              clear eq5 hG5
              by_cases hl1 : acc'.length = 1
              · obtain ⟨x9, rfl⟩ := List.length_eq_one_iff.1 hl1
                obtain ⟨q, c7, k7, a7, b7, p7, n7, rfl, hc4, hcell, W, eW, cW, hT⟩ := A'.out.end_one hgl hG6
                have hc70 := hcell 0 (by decide)
                have hc71 := hcell 1 (by decide)
                have hc72 := hcell 2 (by decide)
                have hc73 := hcell 3 (by decide)
                have hT' := Lib.hid hT
                clear hcell hT hG6
                go_wp2_with fail
                try rw [eW]
                exact bodyPost_ret (v := .tuple #[.agg #[.int .i64 k7, .string a7, .string b7, .slice p7 n7 c7], .slice (some ⟨g, o2, none⟩) (l3.length + 1) c2, .bool true]) (by simp [results, Tryd.results46, go_sem, cW]) rfl hT'.out
              · obtain ⟨W, eW, cW, hT⟩ := A'.out.end_many hl1 hgl hG6
                have hT' := Lib.hid hT
                clear hT hG6
                go_wp2_with fail
                try rw [eW]
                exact bodyPost_ret (v := .tuple #[.agg #[.int .i64 kind, .string ⟨#[]⟩, .string ⟨#[]⟩, .slice p4 acc'.length c4], .slice (some ⟨g, o2, none⟩) (l3.length + 1) c2, .bool true]) (by simp [results, Tryd.results46, go_sem, cW]) rfl hT'.out
end Go.Proofs.YtkibaaljpbcjeaaDoor
namespace Go.Proofs.YtkibaaljpbcjeaaDoor
open Go.RowKit
set_option maxHeartbeats 2000000 in
set_option maxRecDepth 100000 in
theorem drule_of (D : Toks → Option (RT × Toks)) (deep : Int) (g : Nat) (v : Value) (l : Toks) (w : World) (h : LAt w g v l)
    (hS : ∀ w', LAt w' g v l → Calls Tryd.prog 46 #[v, .int .i64 deep, .string ⟨#[124]⟩, .int .i64 4] w' (DTold D w' g l)) :
    Calls Tryd.prog 22 #[v, .int .i64 deep] w (DTold D w g l) := by
  have hgl := h.lt
  obtain ⟨o, c, rfl, hc⟩ := h.form
  have hb1 := (Below.refl w.heap.size w).alloc (Nat.le_refl _) (.cells ruleZ 42)
  have hr1 := Blk.new w 42 ruleZ
  have hz1 : (w.alloc (.cells ruleZ 42)).heap.size = w.heap.size + 1 := by simp
  have hS' := Lib.hid (hS _ (h.below hb1 hgl))
  have hb1' := Lib.hid hb1
  have hr1' := Lib.hid hr1
  clear hS h hb1 hr1
  go_enter Tryd.func22, Tryd.ntmps22
  go_wp2_with fail
  refine hS'.out.mono ?_
  rintro e w2 ⟨b2, k, a, b, p, n, c', p2, n2, c2, ok, rfl, hcase⟩
  rw [hz1] at b2
  have hr2 := hr1'.out.below b2 (by omega)
  have B2 : Below w.heap.size w w2 := hb1'.out.trans (b2.mono (by omega))
  obtain ⟨W, eW, hB, hL, hK⟩ := put_res (w := w) rfl B2 hr2 (.int .i64 k) (.string a) (.string b) (.slice p n c')
  have cW := hB.cell
  have r2c := hr2.cell
  have r2f := hr2.frozen
  have hT : DTold D w g l (.returned (.tuple #[.agg #[.int .i64 k, .string a, .string b, .slice p n c'], .slice p2 n2 c2, .bool ok])) W := by
    refine ⟨hL, _, _, _, _, _, _, _, _, _, _, rfl, hcase.imp id ?_⟩
    rintro ⟨h1, r, l', hs, hRA, hL2⟩
    exact ⟨h1, r, l', hs, (hRA.keeps hK fun j hj _ e => by rw [hz1] at hj; omega).mono fun j hj _ => by rw [hz1] at hj; omega, hL2.keeps hK (by omega)⟩
  have hT' := Lib.hid hT
  clear hT hcase hB hL hK B2 hr2 b2
  go_wp2_with fail
  try rw [eW]
  exact bodyPost_ret (v := .tuple #[.agg #[.int .i64 k, .string a, .string b, .slice p n c'], .slice p2 n2 c2, .bool ok]) (by simp [results, Tryd.results22, go_sem, cW]) rfl hT'.out
theorem drule_one (d : Nat) (hone : ∀ g v l w, l.length ≤ 100000 → LAt w g v l → Calls Tryd.prog 61 #[v, .int .i64 (8 - d)] w (DTold (dOne d) w g l))
    (g : Nat) (v : Value) (l : Toks) (w : World) (hN : l.length ≤ 100000) (h : LAt w g v l) : Calls Tryd.prog 22 #[v, .int .i64 (8 - d)] w (DTold (dRule d) w g l) :=
  drule_of (dRule d) _ g v l w h fun w' h' => dsev_calls 4 ⟨#[124]⟩ (dOp (dOne d) andL 5) (dBoth_sz d) _ g (.inl ⟨rfl, fun v2 w2 l2 hN2 h2 =>
    dsev_calls 5 ⟨#[38]⟩ (dOne d) (dOne_sz d) _ g (.inr ⟨rfl, fun v3 w3 l3 hN3 h3 => hone g v3 l3 w3 hN3 h3⟩) v2 l2 w2 hN2 h2⟩) v l w' hN h'
theorem done_calls : ∀ (d : Nat), d ≤ 8 → ∀ (g : Nat) (v : Value) (l : Toks) (w : World), l.length ≤ 100000 → LAt w g v l → Calls Tryd.prog 61 #[v, .int .i64 (8 - d)] w (DTold (dOne d) w g l)
  | d, hd, g, v, [], w, _, h => done_nil d _ v w g h
  | d, hd, g, v, t :: l1, w, hN, h => by
    by_cases h1 : t = opL
    · subst h1
      match d, hd with
      | 0, _ => exact done_open0 v w g l1 h
      | d + 1, hd =>
        refine done_open d _ v w g l1 h (by omega) (by omega) fun v' w' h' => ?_
        have e : (8 - ((d + 1 : Nat) : Int) + 1) = 8 - (d : Int) := by omega
        rw [e]
        exact drule_one d (fun g v l w hN h => done_calls d (by omega) g v l w hN h) g v' l1 w' (by simp at hN; omega) h'
    · exact done_name d _ v w g t l1 h h1
/-- the document's rule of a line's tokens, as a walk leaves it -/
theorem drule_calls (g : Nat) (v : Value) (l : Toks) (w : World) (hN : l.length ≤ 100000) (h : LAt w g v l) : Calls Tryd.prog 22 #[v, .int .i64 0] w (DTold (dRule 8) w g l) :=
  drule_one 8 (done_calls 8 (Nat.le_refl _)) g v l w hN h
end Go.Proofs.YtkibaaljpbcjeaaDoor
