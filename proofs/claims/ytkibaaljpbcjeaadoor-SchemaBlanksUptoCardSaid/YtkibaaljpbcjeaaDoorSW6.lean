/- Walk: schema: several. -/
import Derived.Test.YtkibaaljpbcjeaaDoorSApp
namespace Go.Proofs.YtkibaaljpbcjeaaDoor
open Go.RowKit
attribute [local go_sem ↓] dapp_op
theorem gLoop_le {G : Toks → Option (RT × Toks)} {op : List UInt8} {kind : Int} (hG : ∀ l r l', G l = some (r, l') → l'.length ≤ l.length) : ∀ (n : Nat) (l : Toks) (acc : List RT) (r : RT) (l' : Toks), gLoop G op kind n l acc = some (r, l') → l'.length ≤ l.length
  | 0, _, _, _, _, h => by cases h
  | n + 1, l, acc, r, l', h => by
    unfold gLoop at h
    cases hg : G l with
    | none => rw [hg] at h; cases h
    | some x =>
      obtain ⟨r1, l1⟩ := x
      rw [hg] at h
      have h1 := hG l r1 l1 hg
      simp only at h
      split at h
      · have := gLoop_le hG n _ _ _ _ h
        rw [List.length_tail] at this; omega
      · split at h
        · cases h
        · obtain ⟨_, rfl⟩ := Prod.mk.inj (Option.some.inj h); exact h1
theorem gOp_le {G : Toks → Option (RT × Toks)} {op : List UInt8} {kind : Int} (hG : ∀ l r l', G l = some (r, l') → l'.length ≤ l.length) (l : Toks) (r : RT) (l' : Toks) (h : gOp G op kind l = some (r, l')) : l'.length ≤ l.length := gLoop_le hG _ _ _ _ _ h
theorem gOne_le : ∀ (d : Nat) (l : Toks) (r : RT) (l' : Toks), gOne d l = some (r, l') → l'.length ≤ l.length := by
  intro d
  induction d with
  | zero =>
    intro l r l' h
    unfold gOne at h
    split at h
    · cases h
    · rename_i t l1
      split at h
      · cases h
      · split at h
        · split at h
          · cases h
          · obtain ⟨_, rfl⟩ := Prod.mk.inj (Option.some.inj h); simp
        · split at h
          · split at h
            · split at h
              · cases h
              · rename_i t2 l2 e
                have := congrArg List.length e
                rw [List.length_tail, List.length_cons] at this
                split at h
                · obtain ⟨_, rfl⟩ := Prod.mk.inj (Option.some.inj h); rw [List.length_cons]; omega
                · cases h
            · split at h
              · cases h
              · obtain ⟨_, rfl⟩ := Prod.mk.inj (Option.some.inj h); simp
          · cases h
  | succ d ih =>
    intro l r l' h
    unfold gOne at h
    split at h
    · cases h
    · rename_i t l1
      split at h
      · simp only at h
        split at h
        · cases h
        · rename_i r2 l2 e
          have := gOp_le (gOp_le ih) _ _ _ e
          split at h
          · obtain ⟨_, rfl⟩ := Prod.mk.inj (Option.some.inj h); rw [List.length_tail, List.length_cons]; omega
          · cases h
      · split at h
        · split at h
          · cases h
          · obtain ⟨_, rfl⟩ := Prod.mk.inj (Option.some.inj h); simp
        · split at h
          · split at h
            · split at h
              · cases h
              · rename_i t2 l2 e
                have := congrArg List.length e
                rw [List.length_tail, List.length_cons] at this
                split at h
                · obtain ⟨_, rfl⟩ := Prod.mk.inj (Option.some.inj h); rw [List.length_cons]; omega
                · cases h
            · split at h
              · cases h
              · obtain ⟨_, rfl⟩ := Prod.mk.inj (Option.some.inj h); simp
          · cases h
def lineLen (w : World) (g : Nat) : Nat := match w.cell? ⟨g, 0, none⟩ with
  | some (.string s) => s.size
  | _ => 0
theorem RdAt.len {w : World} {g : Nat} {s : List UInt8} {o : Bool} {d : Int} (h : RdAt w g s o d) : lineLen w g = s.length := by
  unfold lineLen
  rw [Blk.cell h 0]; rfl
theorem beq_str (a b : ByteArray) : (a.toList == b.toList) = (a.data.toList == b.data.toList) := by rw [Lib.toList_data, Lib.toList_data]
/-- behind a round of several: one more part is put behind the others -/
structure Aft (G : Toks → Option (RT × Toks)) (op : List UInt8) (kind : Int) (w : World) (g : Nat) (s : List UInt8) (deep : Int) (w5 : World) (v : Value) (acc : List RT) (s' : List UInt8) (o' : Bool) (d' : Int) : Prop where
  own : ∃ cs, Own (w.heap.size + 1) w5 v acc cs
  rd : RdAt w5 g s' o' d'
  keeps : Keeps (fun j => j = g) w w5
  res : Blk w5 w.heap.size 42 ruleZ
  le : s'.length ≤ s.length
  parts : acc.length + s'.length ≤ s.length + 1
  full : acc ≠ []
  one : ∀ x, acc = [x] → Sized s s' x
  said : (gOp G op kind (toks s) = none ∧ o' = true) ∨ (o' = false ∧ d' = deep ∧ ∃ n, (toks s').length ≤ n ∧ gOp G op kind (toks s) = (if (toks s').head? = some op then gLoop G op kind n (toks s').tail acc else if (toks s').head? = some [] then none else some (joined kind acc, toks s')))
theorem flat_len {r : RT} (h : okR r) (kind : Int) (hk : kind = 4 ∨ kind = 5) : (r.kind = kind ∧ 2 ≤ (flat kind r).length ∧ flat kind r = r.parts) ∨ (r.kind ≠ kind ∧ flat kind r = [r]) := by
  unfold flat
  by_cases e : r.kind = kind
  · rw [if_pos e]
    refine .inl ⟨e, ?_, rfl⟩
    rcases h with ⟨_, h⟩ | ⟨h4, h5, _⟩
    · exact h
    · rcases hk with rfl | rfl
      · exact absurd e h4
      · exact absurd e h5
  · rw [if_neg e]; exact .inr ⟨e, rfl⟩
theorem Aft.mk' {G : Toks → Option (RT × Toks)} {op : List UInt8} {kind : Int} {w w5 : World} {g : Nat} {s s1 s' : List UInt8} {deep d' : Int} {v : Value} {acc : List RT} {r : RT} {o' : Bool} {n : Nat} {cs : List Value}
    (hkind : kind = 4 ∨ kind = 5) (hGle : ∀ l r l', G l = some (r, l') → l'.length ≤ l.length)
    (hown : Own (w.heap.size + 1) w5 v (acc ++ flat kind r) cs) (hrd : RdAt w5 g s' o' d') (hk : Keeps (fun j => j = g) w w5) (hres : Blk w5 w.heap.size 42 ruleZ)
    (hs1 : acc.length + s1.length ≤ s.length) (hz : Sized s1 s' r) (hn : (toks s1).length < n) (hg : gLoop G op kind n (toks s1) acc = gOp G op kind (toks s))
    (hc : (G (toks s1) = none ∧ o' = true) ∨ (G (toks s1) = some (r, toks s') ∧ o' = false ∧ d' = deep)) : Aft G op kind w g s deep w5 v (acc ++ flat kind r) s' o' d' := by
  have hle := hz.le
  have hpa := hz.parts
  have hf := flat_len hz.ok kind hkind
  refine ⟨⟨cs, hown⟩, hrd, hk, hres, by omega, ?_, ?_, fun x hx => ?_, ?_⟩
  · rw [List.length_append]
    rcases hf with ⟨_, _, e⟩ | ⟨_, e⟩
    · rw [e]; omega
    · rw [e, List.length_singleton]; omega
  · intro e
    have := (List.append_eq_nil_iff.1 e).2
    rcases hf with ⟨_, h, _⟩ | ⟨_, h⟩
    · rw [this] at h; simp at h
    · rw [this] at h; cases h
  · have hl := congrArg List.length hx
    rw [List.length_append, List.length_singleton] at hl
    rcases hf with ⟨_, h, _⟩ | ⟨_, h⟩
    · omega
    · rw [h, List.length_singleton] at hl
      have ha : acc = [] := List.eq_nil_of_length_eq_zero (by omega)
      rw [ha, h, List.nil_append] at hx
      obtain rfl := (List.cons.inj hx).1
      exact hz.wide (by omega) (Nat.le_refl _)
  · match n, hn with
    | n + 1, hn =>
      unfold gLoop at hg
      rcases hc with ⟨e, ho⟩ | ⟨e, ho, hd⟩
      · rw [e] at hg
        exact .inl ⟨hg.symm, ho⟩
      · rw [e] at hg
        have := hGle _ _ _ e
        exact .inr ⟨ho, hd, n, by omega, hg.symm⟩
section
variable {G : Toks → Option (RT × Toks)} {op : List UInt8} {kind : Int} {w w4 w6 : World} {g : Nat} {s s' : List UInt8} {deep d' d6 : Int} {p4 : Option Addr} {c4 : Nat} {acc : List RT} {x : RT} {o' o6 : Bool}
theorem Aft.end_one (A : Aft G op kind w g s deep w4 (.slice p4 [x].length c4) [x] s' o' d') (hg : g < w.heap.size) (k6 : Keeps (fun j => j = g) w4 w6) (h6 : RdAt w6 g s' o6 d6)
    (hc : (gOp G op kind (toks s) = none ∧ o6 = true) ∨ (gOp G op kind (toks s) = some (x, toks s') ∧ o6 = false ∧ d6 = deep)) :
    ∃ (q c : Nat) (k : Int) (a b : ByteArray) (p : Option Addr) (n : Nat), p4 = some ⟨q, 0, none⟩ ∧ 1 ≤ c4 ∧ (∀ i, i < 4 → w6.cell? ⟨q, i, none⟩ = (#[.int .i64 k, .string a, .string b, .slice p n c] : Array Value)[i]?) ∧
      ∃ W, ((((w6.setCell ⟨w.heap.size, 0, none⟩ (.int .i64 k)).setCell ⟨w.heap.size, 1, none⟩ (.string a)).setCell ⟨w.heap.size, 2, none⟩ (.string b)).setCell ⟨w.heap.size, 3, none⟩ (.slice p n c)) = W ∧ (∀ i, W.cell? ⟨w.heap.size, i, none⟩ = (#[.int .i64 k, .string a, .string b, .slice p n c] : Array Value)[i]?) ∧
        Told (gOp G op kind) w g s deep (.returned (.agg #[.int .i64 k, .string a, .string b, .slice p n c])) W := by
  obtain ⟨cs, hown⟩ := A.own
  have hrow := RowAt.of_own hown.row
  have hpart := hown.parts.part 0 x rfl
  have hlen := hown.parts.len
  rw [Nat.zero_mul, List.drop_zero, List.take_of_length_le (by rw [hlen]; exact Nat.le_refl _)] at hpart
  obtain ⟨k, a, b, p, n, c, rfl, _⟩ := hpart.form
  obtain ⟨q, c5, hv, hc5, hq, hcell⟩ := hrow.cell (Nat.succ_pos 0)
  obtain ⟨rfl, _, rfl⟩ : p4 = some ⟨q, 0, none⟩ ∧ True ∧ c4 = c5 := by
    injection hv with h1 h2 h3; exact ⟨h1, trivial, h3⟩
  have hqB := (hown.row.lt q rfl).1
  have res6 := A.res.keeps k6 (by omega)
  obtain ⟨W, eW, hB, hR, hK, hK2⟩ := put_rule (w := w) rfl h6 res6 (A.keeps.trans k6) hg (.int .i64 k) (.string a) (.string b) (.slice p n c)
  refine ⟨q, c, k, a, b, p, n, rfl, hc5, fun i hi => ?_, W, eW, hB.cell, ?_⟩
  · rw [World.cell?_of_block (k6.block q hq (by omega))]
    match i, hi with
    | 0, _ => exact hcell 0 _ rfl
    | 1, _ => exact hcell 1 _ rfl
    | 2, _ => exact hcell 2 _ rfl
    | 3, _ => exact hcell 3 _ rfl
  · have R6 := (hpart.mono (Q := fun j => w.heap.size < j) fun j hj _ => hj.1).keeps k6 fun j hj _ e => by omega
    exact ⟨_, x, s', _, _, rfl, (R6.keeps hK2 fun j hj _ e => by omega).mono fun j hj _ => Nat.le_of_lt hj, hR, A.one x rfl, hK, hc⟩
theorem Aft.end_many (A : Aft G op kind w g s deep w4 (.slice p4 acc.length c4) acc s' o' d') (hkind : kind = 4 ∨ kind = 5) (hl : acc.length ≠ 1) (hg : g < w.heap.size) (k6 : Keeps (fun j => j = g) w4 w6) (h6 : RdAt w6 g s' o6 d6)
    (hc : (gOp G op kind (toks s) = none ∧ o6 = true) ∨ (gOp G op kind (toks s) = some (joined kind acc, toks s') ∧ o6 = false ∧ d6 = deep)) :
    ∃ W, ((((w6.setCell ⟨w.heap.size, 0, none⟩ (.int .i64 kind)).setCell ⟨w.heap.size, 1, none⟩ (.string ⟨#[]⟩)).setCell ⟨w.heap.size, 2, none⟩ (.string ⟨#[]⟩)).setCell ⟨w.heap.size, 3, none⟩ (.slice p4 acc.length c4)) = W ∧ (∀ i, W.cell? ⟨w.heap.size, i, none⟩ = (#[.int .i64 kind, .string ⟨#[]⟩, .string ⟨#[]⟩, .slice p4 acc.length c4] : Array Value)[i]?) ∧
        Told (gOp G op kind) w g s deep (.returned (.agg #[.int .i64 kind, .string ⟨#[]⟩, .string ⟨#[]⟩, .slice p4 acc.length c4])) W := by
  obtain ⟨cs, hown⟩ := A.own
  have hrow := RowAt.of_own hown.row
  have hlt := fun j hj => hown.row.lt j hj
  have res6 := A.res.keeps k6 (by omega)
  obtain ⟨W, eW, hB, hR, hK, hK2⟩ := put_rule (w := w) rfl h6 res6 (A.keeps.trans k6) hg (.int .i64 kind) (.string ⟨#[]⟩) (.string ⟨#[]⟩) (.slice p4 acc.length c4)
  refine ⟨W, eW, hB.cell, ?_⟩
  have hj : joined kind acc = .node kind [] [] acc := by
    unfold joined
    split
    · exact absurd rfl hl
    · rfl
  rw [hj] at hc
  have hk2 : Keeps (fun j => j = g ∨ j = w.heap.size) w4 W := (k6.mono fun j _ e => .inl e).trans (hK2.mono fun j _ e => .inr e)
  have hps := (hown.parts.mono (Q := fun j => w.heap.size < j) fun j hj _ => hj.1).keeps hk2 fun j hj _ e => by omega
  have hr := hrow.keeps hk2 fun j hj e => by have := (hlt j hj).1; omega
  have hps' := hps.mono (Q := fun j => w.heap.size ≤ j) fun j hj _ => Nat.le_of_lt hj
  have h2 : 2 ≤ acc.length := by
    have := A.full
    match acc, hl, this with
    | [], _, h => exact absurd rfl h
    | [_], h, _ => exact absurd rfl h
    | _ :: _ :: _, _, _ => simp
  exact ⟨_, .node kind [] [] acc, s', _, _, rfl, .mk hr (fun j hj => by have := (hlt j hj).1; omega) hps'.len hps'.part, hR, ⟨.inl ⟨hkind, h2⟩, A.le, A.parts⟩, hK, hc⟩
end
set_option maxHeartbeats 2000000 in
set_option maxRecDepth 100000 in
theorem several_calls (F : Nat) (hE : ∀ args w, (callFunc F args).run Tryd.prog w = .ok (.enter F args) w) (kind : Int) (op : ByteArray) (hop : op.data.toList ≠ []) (hkind : kind = 4 ∨ kind = 5) (G : Toks → Option (RT × Toks)) (hGle : ∀ l r l', G l = some (r, l') → l'.length ≤ l.length)
    (s : List UInt8) (deep : Int) (g : Nat) (w : World) (hs : s.length ≤ 100000000) (h : RdAt w g s false deep)
    (hone : ∀ s' w, s'.length ≤ s.length → RdAt w g s' false deep → Calls Tryd.prog F #[.pointer (some ⟨g, 0, none⟩)] w (Told G w g s' deep)) :
    Calls Tryd.prog 59 #[.pointer (some ⟨g, 0, none⟩), .string op, .int .i64 kind, .func (.func F) #[.pointer (some ⟨g, 0, none⟩)] #[]] w (Told (gOp G op.data.toList kind) w g s deep) := by
  have hgl := h.lt
  have P1 := fun s' (hl : s'.length ≤ s.length) o w h => peek_calls s' o deep g w (Nat.le_trans hl hs) h
  have P2 := fun s' (hl : s'.length ≤ s.length) o w h => token_calls s' o deep g w (Nat.le_trans hl hs) h
  have h0 : RdAt (w.alloc (.cells ruleZ 42)) g s false deep := h.alloc _
  have hr := Blk.new w 42 ruleZ
  have hk := (Keeps.refl (fun j => j = g) w).alloc (.cells ruleZ 42)
  have hP1 := Lib.hid P1
  have hP2 := Lib.hid P2
  have hO := Lib.hid hone
  have h0' := Lib.hid h0
  have hr' := Lib.hid hr
  have hk' := Lib.hid hk
  have hGl := Lib.hid hGle
  clear P1 P2 h0 hr hk h hone hGle
  go_enter Tryd.func59, Tryd.ntmps59
  go_wp2_with fail
  go_loopw [9] (fun v wr => ∃ (acc : List RT) (cs : List Value) (s1 : List UInt8) (n : Nat), Own (w.heap.size + 1) wr v acc cs ∧ RdAt wr g s1 false deep ∧ Keeps (fun j => j = g) w wr ∧ Blk wr w.heap.size 42 ruleZ ∧ acc.length + s1.length ≤ s.length ∧ (toks s1).length < n ∧ gLoop G op.data.toList kind n (toks s1) acc = gOp G op.data.toList kind (toks s)) (fun _ wr => lineLen wr g)
  case atStart => exact ⟨[], [], s, _, Own.nil _ _, h0'.out, hk'.out, hr'.out, by simp, Nat.lt_succ_self _, rfl⟩
  case round =>
    obtain ⟨acc, cs, s1, n, hown, h1, k1, r1, hle, hn, hg⟩ := hrel
    have hle1 : s1.length ≤ s.length := by omega
    obtain ⟨pv, cv, rfl⟩ := own_slice hown.row
    go_wp2_with fail
    refine (hO.out s1 wr hle1 h1).mono ?_
    rintro e w2 ⟨cs1, r, s', o', d', rfl, hRA, h2, hz, k2, hcase⟩
    have hsize := k1.size
    have hlw := h1.len
    have hsz2 := k2.size
    have hrl := r1.lt
    have own2 := hown.keeps k2 fun j hj _ e => by omega
    have res2 := r1.keeps k2 (by omega)
    have k2' := k1.trans k2
    have hvB := fun j hj => (hown.row.lt j hj).2
    have hRA2 := hRA.mono (Q := fun j => w.heap.size + 1 ≤ j ∧ (Value.slice pv acc.length cv).ownBlock ≠ some j) fun j hj _ => ⟨by omega, fun e => by have := hvB j e; omega⟩
    have hm : Hid (∀ {cs w5 v}, Own (w.heap.size + 1) w5 v (acc ++ flat kind r) cs → RdAt w5 g s' o' d' → Keeps (fun j => j = g) w w5 → Blk w5 w.heap.size 42 ruleZ → Aft G op.data.toList kind w g s deep w5 v (acc ++ flat kind r) s' o' d') := Lib.hid fun a b c d => Aft.mk' hkind hGl.out a b c d hle hz hn hg hcase
    clear hg hcase hown h1 k1 r1 k2 hRA
    obtain ⟨k, a, b, p, n', c, rfl, hkk⟩ := hRA2.form
    obtain ⟨w3, e3⟩ : ∃ w3, w2.alloc (.cells #[.int .i64 k, .string a, .string b, .slice p n' c] 42) = w3 := ⟨_, rfl⟩
    have hb3 := (Below.refl w2.heap.size w2).alloc (Nat.le_refl _) (.cells #[.int .i64 k, .string a, .string b, .slice p n' c] 42)
    have x3 := Blk.new w2 42 #[.int .i64 k, .string a, .string b, .slice p n' c]
    have own3 := own2.keeps (S := fun _ => False) (.of_below hb3) fun _ _ _ => id
    have RA3 := hRA2.later hb3
    have h3 := Blk.below h2 hb3 h2.lt
    have res3 := res2.below hb3 res2.lt
    have k3 := k2'.trans (.of_below hb3)
    rw [e3] at hb3 x3 own3 RA3 h3 res3 k3
    have x3c := x3.cell
    have x3f := x3.frozen
    have hz3 := hb3.size
    have own3' := Lib.hid own3
    have RA3' := Lib.hid RA3
    have h3' := Lib.hid h3
    have res3' := Lib.hid res3
    have k3' := Lib.hid k3
    clear own2 res2 k2' hRA2 hb3 own3 RA3 h3 res3 k3 h2 hvB
    have hroom : acc.length + r.parts.length ≤ 1000000000 ∧ acc.length + 1 ≤ 1000000000 := by have := hz.parts; omega
    by_cases hkd : k = kind
    · obtain ⟨ds, hrow, _, hps, _⟩ := RA3'.out.parts_
      have hrowB : PartsAt (fun j => w.heap.size + 1 ≤ j ∧ (Value.slice pv acc.length cv).ownBlock ≠ some j) w3 ds r.parts := hps
      obtain ⟨p4, c4, w4, e4, own4, k4⟩ := own3'.out.app (by omega) hrow hrowB hroom.1
      have hfl : flat kind r = r.parts := by unfold flat; rw [hkk, if_pos hkd]
      have A := hm.out (v := .slice p4 (acc ++ r.parts).length c4) (by rw [hfl]; exact own4) (h3'.out.keeps k4 (by omega)) (k3'.out.step k4 (fun j hj => .inr (by omega))) (res3'.out.keeps k4 (by omega))
      rw [hfl] at A
      have A' := Lib.hid A
      clear A hm own3' RA3' h3' res3' k3' own4 k4 hrow hps hrowB
      have hkd' := hkd.symm
      clear hkd
      subst hkd'
      generalize acc ++ r.parts = acc' at *
      have rd4 := A'.out.rd
      have q4 := Blk.cell rd4
      have hle' := A'.out.le
      cases o'
      · obtain ⟨rfl, n5, hn5, hG5⟩ : d' = deep ∧ ∃ n, (toks s').length ≤ n ∧ gOp G op.data.toList kind (toks s) = (if (toks s').head? = some op.data.toList then gLoop G op.data.toList kind n (toks s').tail acc' else if (toks s').head? = some [] then none else some (joined kind acc', toks s')) := by
          rcases A'.out.said with ⟨_, e⟩ | ⟨_, e, h⟩
          · cases e
          · exact ⟨e, h⟩
        have hG5' := Lib.hid hG5
        clear hG5
        obtain ⟨V, eV, dV⟩ : ∃ Q : ByteArray, strV (pk s') = .string Q ∧ Q.data.toList = pk s' := ⟨⟨(pk s').toArray⟩, rfl, rfl⟩
        have hV := hP1.out s' hle' false w4 rd4
        rw [eV] at hV
        have hV' := Lib.hid hV
        have eq5 := beq_str V op
        rw [dV] at eq5
        clear hV rd4
        by_cases hpo : pk s' = op.data.toList
        · have e6 : (V.toList == op.toList) = true := by rw [eq5, hpo]; exact beq_self_eq_true _
          clear eq5
          go_wp2_with fail
          refine hV'.out.mono ?_
          rintro e w6 ⟨rfl, h6, k6⟩
          rw [pbad_no (by rw [hpo]; exact hop), Bool.false_or] at h6
          have hT2 := hP2.out s' hle' false w6 h6
          rw [pbad_no (by rw [hpo]; exact hop), Bool.false_or] at hT2
          have hT2' := Lib.hid hT2
          clear q4 hT2 h6
          go_wp2_with fail
          refine hT2'.out.mono ?_
          rintro e w7 ⟨rfl, h7, k7⟩
          have ht7 : toks s' = pk s' :: toks (rest s') := toks_cons (by rw [hpo]; exact hop)
          have hrl7 : (rest s').length < s'.length := rest_lt (by cases hh : pk s' with
            | nil => rw [hpo] at hh; exact absurd hh hop
            | cons _ _ => rfl) (by
            cases ht : (trimL s').isEmpty
            · rfl
            · exact absurd (pk_trim ht) (by rw [hpo]; exact hop))
          go_wp2_with fail
          go_roundw
          case rel =>
            obtain ⟨cs7, own7⟩ := A'.out.own
            have k67 := k6.trans k7
            have hz1 := A'.out.res.lt
            refine ⟨acc', cs7, rest s', n5, own7.keeps k67 (fun j hj _ e => by omega), h7, A'.out.keeps.trans k67, A'.out.res.keeps k67 (by omega), ?_, ?_, ?_⟩
            · have := A'.out.parts; omega
            · rw [ht7] at hn5; exact hn5
            · rw [hG5'.out, if_pos ((head_some hop).2 hpo), ht7]; rfl
          case measure =>
            have h8 := h7.len
            have := hz.le
            simp only [h8, hlw]; omega
        · have e6 : (V.toList == op.toList) = false := by rw [eq5]; exact beq_false_of_ne hpo
          have hGe : (gOp G op.data.toList kind (toks s) = none ∧ pbad s' = true) ∨ (gOp G op.data.toList kind (toks s) = some (joined kind acc', toks s') ∧ pbad s' = false) := by
            rw [hG5'.out, if_neg fun e => hpo ((head_some hop).1 e)]
            cases hb : pbad s'
            · rw [if_neg fun e => by rw [head_bad.1 e] at hb; cases hb]; exact .inr ⟨rfl, rfl⟩
            · rw [if_pos (head_bad.2 hb)]; exact .inl ⟨rfl, rfl⟩
          have hGe' := Lib.hid hGe
          clear eq5 hGe
          go_wp2_with fail
          refine hV'.out.mono ?_
          rintro e w6 ⟨rfl, h6, k6⟩
          rw [Bool.false_or] at h6
          clear q4
          by_cases hl1 : acc'.length = 1
          · obtain ⟨x, rfl⟩ := List.length_eq_one_iff.1 hl1
            obtain ⟨q, c7, k7, a7, b7, p7, n7, rfl, hc4, hcell, W, eW, cW, hT⟩ := A'.out.end_one hgl k6 h6 (hGe'.out.imp id fun h => ⟨h.1, h.2, rfl⟩)
            have hc0 := hcell 0 (by decide)
            have hc1 := hcell 1 (by decide)
            have hc2 := hcell 2 (by decide)
            have hc3 := hcell 3 (by decide)
            have hT' := Lib.hid hT
            have res6 := A'.out.res.keeps k6 (by omega)
            have rc6 := res6.cell
            have rf6 := res6.frozen
            clear hcell hT h6 k6 res6
            go_wp2_with fail
            try rw [eW]
            exact bodyPost_ret (v := .agg #[.int .i64 k7, .string a7, .string b7, .slice p7 n7 c7]) (by simp [results, Tryd.results59, go_sem, cW]) rfl hT'.out
          · obtain ⟨W, eW, cW, hT⟩ := A'.out.end_many hkind hl1 hgl k6 h6 (hGe'.out.imp id fun h => ⟨h.1, h.2, rfl⟩)
            have hT' := Lib.hid hT
            have res6 := A'.out.res.keeps k6 (by omega)
            have rc6 := res6.cell
            have rf6 := res6.frozen
            clear hT h6 k6 res6
            go_wp2_with fail
            try rw [eW]
            exact bodyPost_ret (v := .agg #[.int .i64 _, .string ⟨#[]⟩, .string ⟨#[]⟩, .slice p4 acc'.length c4]) (by simp [results, Tryd.results59, go_sem, cW]) rfl hT'.out
      · have hGn : gOp G op.data.toList kind (toks s) = none := by
          rcases A'.out.said with ⟨e, _⟩ | ⟨e, _⟩
          · exact e
          · cases e
        have hGn' := Lib.hid hGn
        clear hGn
        by_cases hl1 : acc'.length = 1
        · obtain ⟨x, rfl⟩ := List.length_eq_one_iff.1 hl1
          obtain ⟨q, c7, k7, a7, b7, p7, n7, rfl, hc4, hcell, W, eW, cW, hT⟩ := A'.out.end_one hgl (Keeps.refl _ w4) rd4 (.inl ⟨hGn'.out, rfl⟩)
          have hc0 := hcell 0 (by decide)
          have hc1 := hcell 1 (by decide)
          have hc2 := hcell 2 (by decide)
          have hc3 := hcell 3 (by decide)
          have hT' := Lib.hid hT
          have rc6 := A'.out.res.cell
          have rf6 := A'.out.res.frozen
          clear hcell hT rd4
          go_wp2_with fail
          try rw [eW]
          exact bodyPost_ret (v := .agg #[.int .i64 k7, .string a7, .string b7, .slice p7 n7 c7]) (by simp [results, Tryd.results59, go_sem, cW]) rfl hT'.out
        · obtain ⟨W, eW, cW, hT⟩ := A'.out.end_many hkind hl1 hgl (Keeps.refl _ w4) rd4 (.inl ⟨hGn'.out, rfl⟩)
          have hT' := Lib.hid hT
          have rc6 := A'.out.res.cell
          have rf6 := A'.out.res.frozen
          clear hT rd4
          go_wp2_with fail
          try rw [eW]
          exact bodyPost_ret (v := .agg #[.int .i64 _, .string ⟨#[]⟩, .string ⟨#[]⟩, .slice p4 acc'.length c4]) (by simp [results, Tryd.results59, go_sem, cW]) rfl hT'.out
    · have hrow := Blk.new w3 42 #[.int .i64 k, .string a, .string b, .slice p n' c]
      have hb4 := (Below.refl w3.heap.size w3).alloc (Nat.le_refl _) (.cells #[.int .i64 k, .string a, .string b, .slice p n' c] 42)
      have own4 := own3'.out.keeps (S := fun _ => False) (.of_below hb4) fun _ _ _ => id
      have RA4 := RA3'.out.later hb4
      obtain ⟨p4, c4, w5, e5, own5, k5⟩ := own4.app (u := .slice (some ⟨w3.heap.size, 0, none⟩) 1 1) (qs := [r]) (by have := hb4.size; omega) (.inr ⟨_, _, _, rfl, Nat.le_refl _, hrow, fun i u hi => by simpa using hi⟩) RA4.one hroom.2
      have hfl : flat kind r = [r] := by unfold flat; rw [hkk, if_neg hkd]
      have hz4 := hb4.size
      have A := hm.out (v := .slice p4 (acc ++ [r]).length c4) (by rw [hfl]; exact own5) ((h3'.out.below hb4 (by omega)).keeps k5 (by omega)) ((k3'.out.trans (.of_below hb4)).step k5 (fun j hj => .inr (by omega))) ((res3'.out.below hb4 (by omega)).keeps k5 (by omega))
      rw [hfl] at A
      have A' := Lib.hid A
      clear A hm own3' RA3' h3' res3' k3' own5 k5 hrow hb4 own4 RA4
      generalize acc ++ [r] = acc' at *
      have rd4 := A'.out.rd
      have q4 := Blk.cell rd4
      have hle' := A'.out.le
      cases o'
      · obtain ⟨rfl, n5, hn5, hG5⟩ : d' = deep ∧ ∃ n, (toks s').length ≤ n ∧ gOp G op.data.toList kind (toks s) = (if (toks s').head? = some op.data.toList then gLoop G op.data.toList kind n (toks s').tail acc' else if (toks s').head? = some [] then none else some (joined kind acc', toks s')) := by
          rcases A'.out.said with ⟨_, e⟩ | ⟨_, e, h⟩
          · cases e
          · exact ⟨e, h⟩
        have hG5' := Lib.hid hG5
        clear hG5
        obtain ⟨V, eV, dV⟩ : ∃ Q : ByteArray, strV (pk s') = .string Q ∧ Q.data.toList = pk s' := ⟨⟨(pk s').toArray⟩, rfl, rfl⟩
        have hV := hP1.out s' hle' false w5 rd4
        rw [eV] at hV
        have hV' := Lib.hid hV
        have eq5 := beq_str V op
        rw [dV] at eq5
        clear hV rd4
        by_cases hpo : pk s' = op.data.toList
        · have e6 : (V.toList == op.toList) = true := by rw [eq5, hpo]; exact beq_self_eq_true _
          clear eq5
          go_wp2_with fail
          refine hV'.out.mono ?_
          rintro e w6 ⟨rfl, h6, k6⟩
          rw [pbad_no (by rw [hpo]; exact hop), Bool.false_or] at h6
          have hT2 := hP2.out s' hle' false w6 h6
          rw [pbad_no (by rw [hpo]; exact hop), Bool.false_or] at hT2
          have hT2' := Lib.hid hT2
          clear q4 hT2 h6
          go_wp2_with fail
          refine hT2'.out.mono ?_
          rintro e w7 ⟨rfl, h7, k7⟩
          have ht7 : toks s' = pk s' :: toks (rest s') := toks_cons (by rw [hpo]; exact hop)
          have hrl7 : (rest s').length < s'.length := rest_lt (by cases hh : pk s' with
            | nil => rw [hpo] at hh; exact absurd hh hop
            | cons _ _ => rfl) (by
            cases ht : (trimL s').isEmpty
            · rfl
            · exact absurd (pk_trim ht) (by rw [hpo]; exact hop))
          go_wp2_with fail
          go_roundw
          case rel =>
            obtain ⟨cs7, own7⟩ := A'.out.own
            have k67 := k6.trans k7
            have hz1 := A'.out.res.lt
            refine ⟨acc', cs7, rest s', n5, own7.keeps k67 (fun j hj _ e => by omega), h7, A'.out.keeps.trans k67, A'.out.res.keeps k67 (by omega), ?_, ?_, ?_⟩
            · have := A'.out.parts; omega
            · rw [ht7] at hn5; exact hn5
            · rw [hG5'.out, if_pos ((head_some hop).2 hpo), ht7]; rfl
          case measure =>
            have h8 := h7.len
            have := hz.le
            simp only [h8, hlw]; omega
        · have e6 : (V.toList == op.toList) = false := by rw [eq5]; exact beq_false_of_ne hpo
          have hGe : (gOp G op.data.toList kind (toks s) = none ∧ pbad s' = true) ∨ (gOp G op.data.toList kind (toks s) = some (joined kind acc', toks s') ∧ pbad s' = false) := by
            rw [hG5'.out, if_neg fun e => hpo ((head_some hop).1 e)]
            cases hb : pbad s'
            · rw [if_neg fun e => by rw [head_bad.1 e] at hb; cases hb]; exact .inr ⟨rfl, rfl⟩
            · rw [if_pos (head_bad.2 hb)]; exact .inl ⟨rfl, rfl⟩
          have hGe' := Lib.hid hGe
          clear eq5 hGe
          go_wp2_with fail
          refine hV'.out.mono ?_
          rintro e w6 ⟨rfl, h6, k6⟩
          rw [Bool.false_or] at h6
          clear q4
          by_cases hl1 : acc'.length = 1
          · obtain ⟨x, rfl⟩ := List.length_eq_one_iff.1 hl1
            obtain ⟨q, c7, k7, a7, b7, p7, n7, rfl, hc4, hcell, W, eW, cW, hT⟩ := A'.out.end_one hgl k6 h6 (hGe'.out.imp id fun h => ⟨h.1, h.2, rfl⟩)
            have hc0 := hcell 0 (by decide)
            have hc1 := hcell 1 (by decide)
            have hc2 := hcell 2 (by decide)
            have hc3 := hcell 3 (by decide)
            have hT' := Lib.hid hT
            have res6 := A'.out.res.keeps k6 (by omega)
            have rc6 := res6.cell
            have rf6 := res6.frozen
            clear hcell hT h6 k6 res6
            go_wp2_with fail
            try rw [eW]
            exact bodyPost_ret (v := .agg #[.int .i64 k7, .string a7, .string b7, .slice p7 n7 c7]) (by simp [results, Tryd.results59, go_sem, cW]) rfl hT'.out
          · obtain ⟨W, eW, cW, hT⟩ := A'.out.end_many hkind hl1 hgl k6 h6 (hGe'.out.imp id fun h => ⟨h.1, h.2, rfl⟩)
            have hT' := Lib.hid hT
            have res6 := A'.out.res.keeps k6 (by omega)
            have rc6 := res6.cell
            have rf6 := res6.frozen
            clear hT h6 k6 res6
            go_wp2_with fail
            try rw [eW]
            exact bodyPost_ret (v := .agg #[.int .i64 _, .string ⟨#[]⟩, .string ⟨#[]⟩, .slice p4 acc'.length c4]) (by simp [results, Tryd.results59, go_sem, cW]) rfl hT'.out
      · have hGn : gOp G op.data.toList kind (toks s) = none := by
          rcases A'.out.said with ⟨e, _⟩ | ⟨e, _⟩
          · exact e
          · cases e
        have hGn' := Lib.hid hGn
        clear hGn
        by_cases hl1 : acc'.length = 1
        · obtain ⟨x, rfl⟩ := List.length_eq_one_iff.1 hl1
          obtain ⟨q, c7, k7, a7, b7, p7, n7, rfl, hc4, hcell, W, eW, cW, hT⟩ := A'.out.end_one hgl (Keeps.refl _ w5) rd4 (.inl ⟨hGn'.out, rfl⟩)
          have hc0 := hcell 0 (by decide)
          have hc1 := hcell 1 (by decide)
          have hc2 := hcell 2 (by decide)
          have hc3 := hcell 3 (by decide)
          have hT' := Lib.hid hT
          have rc6 := A'.out.res.cell
          have rf6 := A'.out.res.frozen
          clear hcell hT rd4
          go_wp2_with fail
          try rw [eW]
          exact bodyPost_ret (v := .agg #[.int .i64 k7, .string a7, .string b7, .slice p7 n7 c7]) (by simp [results, Tryd.results59, go_sem, cW]) rfl hT'.out
        · obtain ⟨W, eW, cW, hT⟩ := A'.out.end_many hkind hl1 hgl (Keeps.refl _ w5) rd4 (.inl ⟨hGn'.out, rfl⟩)
          have hT' := Lib.hid hT
          have rc6 := A'.out.res.cell
          have rf6 := A'.out.res.frozen
          clear hT rd4
          go_wp2_with fail
          try rw [eW]
          exact bodyPost_ret (v := .agg #[.int .i64 _, .string ⟨#[]⟩, .string ⟨#[]⟩, .slice p4 acc'.length c4]) (by simp [results, Tryd.results59, go_sem, cW]) rfl hT'.out
end Go.Proofs.YtkibaaljpbcjeaaDoor
