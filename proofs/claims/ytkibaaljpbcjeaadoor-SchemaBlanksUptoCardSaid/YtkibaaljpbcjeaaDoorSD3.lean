/- Walk: the document's one, brackets. Walk: the document's several, for any way of reading one part. -/
import Derived.Test.YtkibaaljpbcjeaaDoorSD1
namespace Go.Proofs.YtkibaaljpbcjeaaDoor
open Go.RowKit
theorem dOne_open0 (l1 : Toks) : dOne 0 (opL :: l1) = none := rfl
theorem dOne_open (d : Nat) (l1 : Toks) : dOne (d + 1) (opL :: l1) = match dRule d l1 with
    | none => none
    | some (r, l2) => if l2.head? = some clL then some (r, l2.tail) else none := rfl
/-- a slice's tail, as the model lays it -/
theorem LAt.tail1 {w : World} {g o c : Nat} {t : List UInt8} {l1 : Toks} (h : LAt w g (.slice (some ⟨g, o, none⟩) (l1.length + 1) c) (t :: l1)) :
    (c = 1 ∧ LAt w g (.slice (some ⟨g, o, none⟩) l1.length 0) l1) ∨ (¬ c = 1 ∧ LAt w g (.slice (some ⟨g, o + 1, none⟩) l1.length (c - 1)) l1) := by
  by_cases hc : c = 1
  · exact .inl ⟨hc, h.cut hc⟩
  · exact .inr ⟨hc, h.cell.2.2.2 1 (by omega)⟩
set_option maxHeartbeats 2000000 in
set_option maxRecDepth 100000 in
theorem done_open0 (v : Value) (w : World) (g : Nat) (l1 : Toks) (h : LAt w g v (opL :: l1)) :
    Calls Tryd.prog 61 #[v, .int .i64 8] w (DTold (dOne 0) w g (opL :: l1)) := by
  have hgl := h.lt
  obtain ⟨o, c, rfl, hc⟩ := h.form
  obtain ⟨_, _, hcell, _⟩ := h.cell
  have c0 : w.cell? ⟨g, o, none⟩ = some (.string ⟨#[40]⟩) := hcell 0 opL rfl
  have hc5 := (Blk.new w 42 ruleZ).cell
  have hd := Lib.hid (dOne_open0 l1)
  clear hcell h
  go_enter Tryd.func61, Tryd.ntmps61
  go_wp2_with fail
  refine bodyPost_ret (v := .tuple #[.agg #[.int .i64 0, .string ⟨#[]⟩, .string ⟨#[]⟩, .slice none 0 0], .slice (some ⟨g, o, none⟩) (l1.length + 1) c, .bool false]) (by simp [results, Tryd.results61, go_sem, hc5]) rfl ?_
  exact dend hd.out
set_option maxHeartbeats 4000000 in
set_option maxRecDepth 100000 in
theorem done_open (d : Nat) (deep : Int) (v : Value) (w : World) (g : Nat) (l1 : Toks) (h : LAt w g v (opL :: l1)) (hd0 : 0 ≤ deep) (hd8 : deep < 8)
    (hrule : ∀ v' w', LAt w' g v' l1 → Calls Tryd.prog 22 #[v', .int .i64 (deep + 1)] w' (DTold (dRule d) w' g l1)) :
    Calls Tryd.prog 61 #[v, .int .i64 deep] w (DTold (dOne (d + 1)) w g (opL :: l1)) := by
  have hgl := h.lt
  obtain ⟨o, c, rfl, hc⟩ := h.form
  obtain ⟨_, _, hcell, _⟩ := h.cell
  have c0 : w.cell? ⟨g, o, none⟩ = some (.string ⟨#[40]⟩) := hcell 0 opL rfl
  have hlen : (opL :: l1).length = l1.length + 1 := rfl
  rw [hlen] at hc h
  have ht := h.tail1
  have hdO := Lib.hid (dOne_open d l1)
  have hn8 : (deep == 8) = false := beq_false_of_ne (by omega)
  have hb := (Below.refl w.heap.size w).alloc (Nat.le_refl _) (.cells ruleZ 42)
  have hr1 := Blk.new w 42 ruleZ
  have hz1 : (w.alloc (.cells ruleZ 42)).heap.size = w.heap.size + 1 := by simp
  have hrule' := Lib.hid hrule
  clear hcell h hlen hrule
  rcases ht with ⟨hc1, hL⟩ | ⟨hc1, hL⟩
  all_goals
    have hR := Lib.hid (hrule'.out _ _ (hL.below hb hgl))
    have hb' := Lib.hid hb
    have hr1' := Lib.hid hr1
    clear hL hb hr1
    go_enter Tryd.func61, Tryd.ntmps61
    go_wp2_with fail
    refine hR.out.mono ?_
    rintro e w2 ⟨b2, k, a, b, p, n, c', p2, n2, c2, ok, rfl, hcase⟩
    rw [hz1] at b2
    obtain ⟨w3, e3⟩ : ∃ w3, w2.alloc (.cells #[.int .i64 k, .string a, .string b, .slice p n c'] 42) = w3 := ⟨_, rfl⟩
    have hz2 := b2.size
    rw [hz1] at hz2
    have hb3 := (Below.refl w2.heap.size w2).alloc (Nat.le_refl _) (.cells #[.int .i64 k, .string a, .string b, .slice p n c'] 42)
    have x3 := Blk.new w2 42 #[.int .i64 k, .string a, .string b, .slice p n c']
    have hr2 := hr1'.out.below b2 (by omega)
    have hr3 := hr2.below hb3 (by omega)
    have B2 : Below w.heap.size w w2 := hb'.out.trans (b2.mono (by omega))
    have B3 := B2.trans (hb3.mono (by omega))
    rw [e3] at hb3 x3 hr3 B3
    have hb3' := Lib.hid hb3
    have x3c := x3.cell
    have x3f := x3.frozen
    have r3c := hr3.cell
    have r3f := hr3.frozen
    obtain ⟨W, eW, hB, hLW, hKW⟩ := put_res (w := w) rfl B3 hr3 (.int .i64 k) (.string a) (.string b) (.slice p n c')
    have cW := hB.cell
    rcases hcase with ⟨rfl, hn⟩ | ⟨rfl, r, l2, hs, hRA, hL2⟩
    · have hdn : dOne (d + 1) (opL :: l1) = none := by rw [hdO.out, hn]
      have hfin := Lib.hid (show DTold (dOne (d + 1)) w g (opL :: l1) (.returned (.tuple #[.agg #[.int .i64 k, .string a, .string b, .slice p n c'], .slice p2 n2 c2, .bool false])) W from ⟨hLW, _, _, _, _, _, _, _, _, _, _, rfl, .inl ⟨rfl, hdn⟩⟩)
      clear hB hLW hKW B3 B2 hr3 hr2 x3 hb3 b2 hn hdn
      go_wp2_with fail
      try rw [eW]
      exact bodyPost_ret (v := .tuple #[.agg #[.int .i64 k, .string a, .string b, .slice p n c'], .slice p2 n2 c2, .bool false]) (by simp [results, Tryd.results61, go_sem, cW]) rfl hfin.out
    · obtain ⟨o2, c3, e5, hc3⟩ := hL2.form
      injection e5 with e5 e6 e7
      subst e5 e6 e7
      match l2, hs, hL2, hc3 with
      | [], hs, _, hc3 =>
        have hdn : dOne (d + 1) (opL :: l1) = none := by rw [hdO.out, hs]; rfl
        have hfin := Lib.hid (show DTold (dOne (d + 1)) w g (opL :: l1) (.returned (.tuple #[.agg #[.int .i64 k, .string a, .string b, .slice p n c'], .slice (some ⟨g, o2, none⟩) 0 c2, .bool false])) W from ⟨hLW, _, _, _, _, _, _, _, _, _, _, rfl, .inl ⟨rfl, hdn⟩⟩)
        clear hB hLW hKW B3 B2 hr3 hr2 x3 hb3 b2 hdn hs hRA
        go_wp2_with fail
        try rw [eW]
        exact bodyPost_ret (v := .tuple #[.agg #[.int .i64 k, .string a, .string b, .slice p n c'], .slice (some ⟨g, o2, none⟩) 0 c2, .bool false]) (by simp [results, Tryd.results61, go_sem, cW]) rfl hfin.out
      | x :: l3, hs, hL2, hc3 =>
        rw [show (x :: l3).length = l3.length + 1 from rfl] at hL2 hc3
        have hc20 := hL2.cell.2.2.1 0 x rfl
        obtain ⟨X, eX, dX⟩ := str_of x
        rw [eX, Nat.add_zero] at hc20
        have hc30 : w3.cell? ⟨g, o2, none⟩ = some (.string X) := by rw [hb3'.out.cell (p := ⟨g, o2, none⟩) (show g < w2.heap.size by have := b2.size; omega)]; exact hc20
        by_cases hx : x = clL
        · have ex : (X.toList == [41]) = true := by rw [cl_eq, dX, hx]; rfl
          have hdn : dOne (d + 1) (opL :: l1) = some (r, l3) := by rw [hdO.out, hs, hx]; rfl
          have htl := hL2.tail1
          have hRW := ((hRA.later hb3).keeps hKW (fun j hj _ e => by rw [hz1] at hj; omega)).mono (Q := fun j => w.heap.size ≤ j) fun j hj _ => by rw [hz1] at hj; omega
          have hfin : ∀ p9 n9 c9, LAt w2 g (.slice p9 n9 c9) l3 → DTold (dOne (d + 1)) w g (opL :: l1) (.returned (.tuple #[.agg #[.int .i64 k, .string a, .string b, .slice p n c'], .slice p9 n9 c9, .bool true])) W.drew := fun p9 n9 c9 hL9 => by
            have hL9' := ((hL9.keeps (S := fun _ => False) (.of_below hb3) id).keeps hKW (by omega)).keeps (S := fun _ => False) (w' := W.drew) (Keeps.refl _ _).drew id
            exact ⟨hLW.drew, _, _, _, _, _, _, _, _, _, _, rfl, .inr ⟨rfl, r, l3, hdn, hRW.keeps (S := fun _ => False) (w' := W.drew) (Keeps.refl _ _).drew (fun _ _ _ => id), hL9'⟩⟩
          have hfin' := Lib.hid hfin
          have htl' := Lib.hid htl
          have cWd : ∀ i, W.drew.cell? ⟨w.heap.size, i, none⟩ = (#[.int .i64 k, .string a, .string b, .slice p n c'] : Array Value)[i]? := cW
          clear hB B3 B2 hr3 hr2 x3 b2 hs hRA hc20 hL2 hfin htl hRW hb3 hLW hKW hdn
          go_wp2_with fail
          go_region
          go_wp2_with fail
          case inl =>
            refine bodyPost_ret (v := .tuple #[.agg #[.int .i64 k, .string a, .string b, .slice p n c'], .slice (some ⟨g, o2, none⟩) l3.length 0, .bool true]) (by simp [results, Tryd.results61, go_sem, cWd]) rfl ?_
            rcases htl'.out with ⟨_, hL9⟩ | ⟨hn, _⟩
            · exact hfin'.out _ _ _ hL9
            · exact absurd (by omega) hn
          case inr =>
            refine bodyPost_ret (v := .tuple #[.agg #[.int .i64 k, .string a, .string b, .slice p n c'], .slice (some ⟨g, o2 + 1, none⟩) l3.length (c2 - 1), .bool true]) (by simp [results, Tryd.results61, go_sem, cWd]) rfl ?_
            rcases htl'.out with ⟨hn, _⟩ | ⟨_, hL9⟩
            · exact absurd hn (by omega)
            · exact hfin'.out _ _ _ hL9
        · have ex : (X.toList == [41]) = false := by rw [cl_eq, dX]; exact beq_false_of_ne hx
          have hdn : dOne (d + 1) (opL :: l1) = none := by
            rw [hdO.out, hs]
            exact if_neg fun e => hx (Option.some.inj e)
          have hfin := Lib.hid (show DTold (dOne (d + 1)) w g (opL :: l1) (.returned (.tuple #[.agg #[.int .i64 k, .string a, .string b, .slice p n c'], .slice (some ⟨g, o2, none⟩) (l3.length + 1) c2, .bool false])) W from ⟨hLW, _, _, _, _, _, _, _, _, _, _, rfl, .inl ⟨rfl, hdn⟩⟩)
          clear hB hLW hKW B3 B2 hr3 hr2 x3 hb3 b2 hdn hs hRA hc20 hL2
          go_wp2_with fail
          try rw [eW]
          exact bodyPost_ret (v := .tuple #[.agg #[.int .i64 k, .string a, .string b, .slice p n c'], .slice (some ⟨g, o2, none⟩) (l3.length + 1) c2, .bool false]) (by simp [results, Tryd.results61, go_sem, cW]) rfl hfin.out
end Go.Proofs.YtkibaaljpbcjeaaDoor
namespace Go.Proofs.YtkibaaljpbcjeaaDoor
open Go.RowKit
attribute [local go_sem ↓] dapp_op
def sliceLen (v : Value) : Nat := match v with
  | .slice _ n _ => n
  | _ => 0
/-- behind a round: one more part is put behind the others -/
structure DAft (G : Toks → Option (RT × Toks)) (op : List UInt8) (kind : Int) (w : World) (g : Nat) (l : Toks) (w5 : World) (v : Value) (acc : List RT) (lv : Value) (l' : Toks) : Prop where
  own : ∃ cs, Own (w.heap.size + 1) w5 v acc cs
  keeps : Below w.heap.size w w5
  res : Blk w5 w.heap.size 42 ruleZ
  lat : LAt w5 g lv l'
  acc_ : DAcc kind l acc l'
  said : ∃ n, l'.length ≤ n ∧ dOp G op kind l = (if l'.head? = some op then dLoop G op kind n l'.tail acc else some (joined kind acc, l'))
theorem DAft.mk' {G : Toks → Option (RT × Toks)} {op : List UInt8} {kind : Int} {w w5 : World} {g : Nat} {l l1 l' : Toks} {v lv : Value} {acc : List RT} {r : RT} {n : Nat} {cs : List Value}
    (hkind : kind = 4 ∨ kind = 5) (hGz : ∀ l r l', G l = some (r, l') → DSz l l' r)
    (hown : Own (w.heap.size + 1) w5 v (acc ++ flat kind r) cs) (hk : Below w.heap.size w w5) (hres : Blk w5 w.heap.size 42 ruleZ) (hl : LAt w5 g lv l')
    (hs1 : acc.length + l1.length ≤ l.length) (hn : l1.length < n) (hg : dLoop G op kind n l1 acc = dOp G op kind l)
    (hc : G l1 = some (r, l')) : DAft G op kind w g l w5 v (acc ++ flat kind r) lv l' := by
  have hz := hGz _ _ _ hc
  have hlt := hz.lt
  refine ⟨⟨cs, hown⟩, hk, hres, hl, DAcc.step hkind hs1 hz, ?_⟩
  match n, hn, hg with
  | n + 1, hn, hg =>
    unfold dLoop at hg
    rw [hc] at hg
    exact ⟨n, by omega, hg.symm⟩
section
variable {G : Toks → Option (RT × Toks)} {op : List UInt8} {kind : Int} {w w4 : World} {g : Nat} {l l' : Toks} {p4 : Option Addr} {c4 : Nat} {acc : List RT} {x : RT} {p2 : Option Addr} {n2 c2 : Nat}
theorem DAft.end_one (A : DAft G op kind w g l w4 (.slice p4 [x].length c4) [x] (.slice p2 n2 c2) l') (hg : g < w.heap.size) (hc : dOp G op kind l = some (x, l')) :
    ∃ (q c : Nat) (k : Int) (a b : ByteArray) (p : Option Addr) (n : Nat), p4 = some ⟨q, 0, none⟩ ∧ 1 ≤ c4 ∧ (∀ i, i < 4 → w4.cell? ⟨q, i, none⟩ = (#[.int .i64 k, .string a, .string b, .slice p n c] : Array Value)[i]?) ∧
      ∃ W, ((((w4.setCell ⟨w.heap.size, 0, none⟩ (.int .i64 k)).setCell ⟨w.heap.size, 1, none⟩ (.string a)).setCell ⟨w.heap.size, 2, none⟩ (.string b)).setCell ⟨w.heap.size, 3, none⟩ (.slice p n c)) = W ∧ (∀ i, W.cell? ⟨w.heap.size, i, none⟩ = (#[.int .i64 k, .string a, .string b, .slice p n c] : Array Value)[i]?) ∧
        DTold (dOp G op kind) w g l (.returned (.tuple #[.agg #[.int .i64 k, .string a, .string b, .slice p n c], .slice p2 n2 c2, .bool true])) W := by
  obtain ⟨cs, hown⟩ := A.own
  have hrow := RowAt.of_own hown.row
  have hpart := hown.parts.part 0 x rfl
  have hlen := hown.parts.len
  rw [Nat.zero_mul, List.drop_zero, List.take_of_length_le (by rw [hlen]; exact Nat.le_refl _)] at hpart
  obtain ⟨k, a, b, p, n, c, rfl, _⟩ := hpart.form
  obtain ⟨q, c5, hv, hc5, hq, hcell⟩ := hrow.cell (Nat.succ_pos 0)
  obtain ⟨rfl, _, rfl⟩ : p4 = some ⟨q, 0, none⟩ ∧ True ∧ c4 = c5 := by
    injection hv with h1 h2 h3; exact ⟨h1, trivial, h3⟩
  have hqB := (hown.row.lt q rfl).1
  obtain ⟨W, eW, hB, hL, hK⟩ := put_res (w := w) rfl A.keeps A.res (.int .i64 k) (.string a) (.string b) (.slice p n c)
  refine ⟨q, c, k, a, b, p, n, rfl, hc5, fun i hi => ?_, W, eW, hB.cell, ?_⟩
  · match i, hi with
    | 0, _ => exact hcell 0 _ rfl
    | 1, _ => exact hcell 1 _ rfl
    | 2, _ => exact hcell 2 _ rfl
    | 3, _ => exact hcell 3 _ rfl
  · have R6 := hpart.mono (Q := fun j => w.heap.size < j) fun j hj _ => hj.1
    exact ⟨hL, _, _, _, _, _, _, _, _, _, _, rfl, .inr ⟨rfl, x, l', hc, (R6.keeps hK fun j hj _ e => by omega).mono fun j hj _ => Nat.le_of_lt hj, A.lat.keeps hK (by omega)⟩⟩
theorem DAft.end_many (A : DAft G op kind w g l w4 (.slice p4 acc.length c4) acc (.slice p2 n2 c2) l') (hl : acc.length ≠ 1) (hg : g < w.heap.size) (hc : dOp G op kind l = some (joined kind acc, l')) :
    ∃ W, ((((w4.setCell ⟨w.heap.size, 0, none⟩ (.int .i64 kind)).setCell ⟨w.heap.size, 1, none⟩ (.string ⟨#[]⟩)).setCell ⟨w.heap.size, 2, none⟩ (.string ⟨#[]⟩)).setCell ⟨w.heap.size, 3, none⟩ (.slice p4 acc.length c4)) = W ∧ (∀ i, W.cell? ⟨w.heap.size, i, none⟩ = (#[.int .i64 kind, .string ⟨#[]⟩, .string ⟨#[]⟩, .slice p4 acc.length c4] : Array Value)[i]?) ∧
        DTold (dOp G op kind) w g l (.returned (.tuple #[.agg #[.int .i64 kind, .string ⟨#[]⟩, .string ⟨#[]⟩, .slice p4 acc.length c4], .slice p2 n2 c2, .bool true])) W := by
  obtain ⟨cs, hown⟩ := A.own
  have hrow := RowAt.of_own hown.row
  have hlt := fun j hj => hown.row.lt j hj
  obtain ⟨W, eW, hB, hL, hK⟩ := put_res (w := w) rfl A.keeps A.res (.int .i64 kind) (.string ⟨#[]⟩) (.string ⟨#[]⟩) (.slice p4 acc.length c4)
  refine ⟨W, eW, hB.cell, ?_⟩
  have hj : joined kind acc = .node kind [] [] acc := by
    unfold joined
    split
    · exact absurd rfl hl
    · rfl
  rw [hj] at hc
  have hps := (hown.parts.mono (Q := fun j => w.heap.size < j) fun j hj _ => hj.1).keeps hK fun j hj _ e => by omega
  have hr := hrow.keeps hK fun j hj e => by have := (hlt j hj).1; omega
  have hps' := hps.mono (Q := fun j => w.heap.size ≤ j) fun j hj _ => Nat.le_of_lt hj
  exact ⟨hL, _, _, _, _, _, _, _, _, _, _, rfl, .inr ⟨rfl, .node kind [] [] acc, l', hc, .mk hr (fun j hj => by have := (hlt j hj).1; omega) hps'.len hps'.part, A.lat.keeps hK (by omega)⟩⟩
end
/-- the append of a round: a part of that kind gives its parts, another one itself -/
theorem dapp_step {G : Toks → Option (RT × Toks)} {op : List UInt8} {kind : Int} (hkind : kind = 4 ∨ kind = 5) (hGz : ∀ l r l', G l = some (r, l') → DSz l l' r) {w w3 : World} {g : Nat} {l l1 l' : Toks} {acc : List RT} {cs : List Value} {pv : Option Addr} {cv n : Nat} {k : Int} {a b : ByteArray} {p : Option Addr} {n' c' : Nat} {lv : Value} {r : RT}
    (hN : l.length ≤ 100000) (hgl : g < w.heap.size) (hown : Own (w.heap.size + 1) w3 (.slice pv acc.length cv) acc cs) (hB : Below w.heap.size w w3) (hz : w.heap.size + 1 ≤ w3.heap.size) (hres : Blk w3 w.heap.size 42 ruleZ) (hL : LAt w3 g lv l')
    (hRA : RAt (fun j => w.heap.size + 1 ≤ j ∧ (Value.slice pv acc.length cv).ownBlock ≠ some j) w3 [.int .i64 k, .string a, .string b, .slice p n' c'] r)
    (hle : acc.length + l1.length ≤ l.length) (hn : l1.length < n) (hg : dLoop G op kind n l1 acc = dOp G op kind l) (hs : G l1 = some (r, l')) :
    (k = kind ∧ ∃ p4 c4 w4, (dappOp #[40, 40] 40 #[.slice pv acc.length cv, .slice p n' c']).run Tryd.prog w3 = .ok (.slice p4 (acc ++ flat kind r).length c4) w4 ∧ DAft G op kind w g l w4 (.slice p4 (acc ++ flat kind r).length c4) (acc ++ flat kind r) lv l') ∨
    (k ≠ kind ∧ ∃ p4 c4 w4, (dappOp #[40, 40] 40 #[.slice pv acc.length cv, .slice (some ⟨w3.heap.size, 0, none⟩) 1 1]).run Tryd.prog (w3.alloc (.cells #[.int .i64 k, .string a, .string b, .slice p n' c'] 42)) = .ok (.slice p4 (acc ++ flat kind r).length c4) w4 ∧ DAft G op kind w g l w4 (.slice p4 (acc ++ flat kind r).length c4) (acc ++ flat kind r) lv l') := by
  have hsz := hGz _ _ _ hs
  have hp := hsz.parts
  have hlt := hsz.lt
  by_cases hkd : k = kind
  · obtain ⟨ds, hrow, _, hps, hkk⟩ := hRA.parts_
    injection hkk with _ hkk
    have hfl : flat kind r = r.parts := by unfold flat; rw [← hkk, if_pos hkd]
    obtain ⟨p4, c4, w4, e4, own4, k4⟩ := hown.app (by omega) hrow hps (by omega)
    refine .inl ⟨hkd, p4, c4, w4, by rw [hfl]; exact e4, DAft.mk' hkind hGz (by rw [hfl]; exact own4) (Keeps.below_step hB (by omega) k4 fun j e => by omega) (hres.keeps k4 (by omega)) (hL.keeps k4 (by omega)) hle hn hg hs⟩
  · obtain ⟨_, _, _, _, _, _, _, hkk⟩ := hRA.form
    have hfl : flat kind r = [r] := by
      obtain ⟨ds, hrow, _, hps, hkk⟩ := hRA.parts_
      injection hkk with _ hkk
      unfold flat; rw [← hkk, if_neg hkd]
    have hrow := Blk.new w3 42 #[.int .i64 k, .string a, .string b, .slice p n' c']
    have hb4 := (Below.refl w3.heap.size w3).alloc (Nat.le_refl _) (.cells #[.int .i64 k, .string a, .string b, .slice p n' c'] 42)
    have own4 := hown.keeps (S := fun _ => False) (.of_below hb4) fun _ _ _ => id
    have RA4 := hRA.later hb4
    have hz4 := hb4.size
    obtain ⟨p4, c4, w5, e5, own5, k5⟩ := own4.app (u := .slice (some ⟨w3.heap.size, 0, none⟩) 1 1) (qs := [r]) (by omega) (.inr ⟨_, _, _, rfl, Nat.le_refl _, hrow, fun i u hi => by simpa using hi⟩) RA4.one (by simp; omega)
    refine .inr ⟨hkd, p4, c4, w5, by rw [hfl]; exact e5, DAft.mk' hkind hGz (by rw [hfl]; exact own5) (Keeps.below_step (hB.trans (hb4.mono (by omega))) (by omega) k5 fun j e => by omega) ((hres.below hb4 (by omega)).keeps k5 (by omega)) ((hL.below hb4 (by omega)).keeps k5 (by omega)) hle hn hg hs⟩
end Go.Proofs.YtkibaaljpbcjeaaDoor
