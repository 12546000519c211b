/- Walks: schema: both, rule: the rule of a line. A schema in memory: its types' row, each type's rels' row. Walk: schema: line. The text of a rule and of a schema. No program in sight. -/
import Derived.Test.YtkibaaljpbcjeaaDoorSW6
import Derived.BigRegion
namespace Go.Proofs.YtkibaaljpbcjeaaDoor
open Go.RowKit
theorem enters_one (args : Array Value) (w : World) : (callFunc 70 args).run Tryd.prog w = .ok (.enter 70 args) w := by go_simp
theorem enters_both (args : Array Value) (w : World) : (callFunc 60 args).run Tryd.prog w = .ok (.enter 60 args) w := by go_simp
/-- the answer is laid into the caller's result -/
theorem Told.wrap {G : Toks → Option (RT × Toks)} {w w1 : World} {g : Nat} {s : List UInt8} {deep : Int} {e : Ending} (hg : g < w.heap.size) (h : Told G (w.alloc (.cells ruleZ 42)) g s deep e w1) :
    ∃ (k : Int) (a b : ByteArray) (p : Option Addr) (n c : Nat), e = .returned (.agg #[.int .i64 k, .string a, .string b, .slice p n c]) ∧ Blk w1 w.heap.size 42 ruleZ ∧
      ∃ W, ((((w1.setCell ⟨w.heap.size, 0, none⟩ (.int .i64 k)).setCell ⟨w.heap.size, 1, none⟩ (.string a)).setCell ⟨w.heap.size, 2, none⟩ (.string b)).setCell ⟨w.heap.size, 3, none⟩ (.slice p n c)) = W ∧ (∀ i, W.cell? ⟨w.heap.size, i, none⟩ = (#[.int .i64 k, .string a, .string b, .slice p n c] : Array Value)[i]?) ∧
        Told G w g s deep (.returned (.agg #[.int .i64 k, .string a, .string b, .slice p n c])) W := by
  obtain ⟨cs, r, s', o', d', he, hRA, hrd, hz, hk, hc⟩ := h
  obtain ⟨k, a, b, p, n, c, rfl, _⟩ := hRA.form
  have hr := (Blk.new w 42 ruleZ).keeps hk (by omega)
  have hk' := ((Keeps.refl (fun j => j = g) w).alloc (.cells ruleZ 42)).trans hk
  obtain ⟨W, eW, hB, hR, hK, hK2⟩ := put_rule (w := w) rfl hrd hr hk' hg (.int .i64 k) (.string a) (.string b) (.slice p n c)
  refine ⟨k, a, b, p, n, c, he, hr, W, eW, hB.cell, _, r, s', o', d', rfl, ?_, hR, hz, hK, hc⟩
  refine (hRA.keeps hK2 fun j hj _ e => ?_).mono fun j hj _ => ?_
  · rw [World.size_alloc] at hj; omega
  · rw [World.size_alloc] at hj; omega
set_option maxHeartbeats 2000000 in
set_option maxRecDepth 100000 in
theorem both_of (G : Toks → Option (RT × Toks)) (hGle : ∀ l r l', G l = some (r, l') → l'.length ≤ l.length) (s : List UInt8) (deep : Int) (g : Nat) (w : World) (hs : s.length ≤ 100000000) (h : RdAt w g s false deep)
    (hone : ∀ s' w, s'.length ≤ s.length → RdAt w g s' false deep → Calls Tryd.prog 70 #[.pointer (some ⟨g, 0, none⟩)] w (Told G w g s' deep)) :
    Calls Tryd.prog 60 #[.pointer (some ⟨g, 0, none⟩)] w (Told (gOp G andL 5) w g s deep) := by
  have hgl := h.lt
  have hS := several_calls 70 enters_one 5 ⟨#[38]⟩ (by decide) (.inr rfl) G hGle s deep g (w.alloc (.cells ruleZ 42)) hs (h.alloc _) hone
  have hS' := Lib.hid hS
  clear hS hone hGle h
  go_enter Tryd.func60, Tryd.ntmps60
  go_wp2_with fail
  refine hS'.out.mono ?_
  rintro e w1 hT
  obtain ⟨k, a, b, p, n, c, rfl, hr, W, eW, cW, hT2⟩ := Told.wrap hgl hT
  have rc := hr.cell
  have rf := hr.frozen
  have hT2' := Lib.hid hT2
  clear hT hT2 hr
  go_wp2_with fail
  try rw [eW]
  exact bodyPost_ret (v := .agg #[.int .i64 k, .string a, .string b, .slice p n c]) (by simp [results, Tryd.results60, go_sem, cW]) rfl hT2'.out
set_option maxHeartbeats 2000000 in
set_option maxRecDepth 100000 in
theorem rule_of (G : Toks → Option (RT × Toks)) (hGle : ∀ l r l', G l = some (r, l') → l'.length ≤ l.length) (s : List UInt8) (deep : Int) (g : Nat) (w : World) (hs : s.length ≤ 100000000) (h : RdAt w g s false deep)
    (hone : ∀ s' w, s'.length ≤ s.length → RdAt w g s' false deep → Calls Tryd.prog 60 #[.pointer (some ⟨g, 0, none⟩)] w (Told G w g s' deep)) :
    Calls Tryd.prog 43 #[.pointer (some ⟨g, 0, none⟩)] w (Told (gOp G orL 4) w g s deep) := by
  have hgl := h.lt
  have hS := several_calls 60 enters_both 4 ⟨#[124]⟩ (by decide) (.inl rfl) G hGle s deep g (w.alloc (.cells ruleZ 42)) hs (h.alloc _) hone
  have hS' := Lib.hid hS
  clear hS hone hGle h
  go_enter Tryd.func43, Tryd.ntmps43
  go_wp2_with fail
  refine hS'.out.mono ?_
  rintro e w1 hT
  obtain ⟨k, a, b, p, n, c, rfl, hr, W, eW, cW, hT2⟩ := Told.wrap hgl hT
  have rc := hr.cell
  have rf := hr.frozen
  have hT2' := Lib.hid hT2
  clear hT hT2 hr
  go_wp2_with fail
  try rw [eW]
  exact bodyPost_ret (v := .agg #[.int .i64 k, .string a, .string b, .slice p n c]) (by simp [results, Tryd.results43, go_sem, cW]) rfl hT2'.out
theorem rule_one (d : Nat) (hone : ∀ s g w, s.length ≤ 100000000 → RdAt w g s false (8 - d) → Calls Tryd.prog 70 #[.pointer (some ⟨g, 0, none⟩)] w (Told (gOne d) w g s (8 - d)))
    (s : List UInt8) (g : Nat) (w : World) (hs : s.length ≤ 100000000) (h : RdAt w g s false (8 - d)) : Calls Tryd.prog 43 #[.pointer (some ⟨g, 0, none⟩)] w (Told (gRule d) w g s (8 - d)) :=
  rule_of (gOp (gOne d) andL 5) (gOp_le (gOne_le d)) s _ g w hs h fun s' w' hl h' =>
    both_of (gOne d) (gOne_le d) s' _ g w' (Nat.le_trans hl hs) h' fun s'' w'' hl' h'' => hone s'' g w'' (Nat.le_trans hl' (Nat.le_trans hl hs)) h''
theorem one_calls : ∀ (d : Nat), d ≤ 8 → ∀ (s : List UInt8) (g : Nat) (w : World), s.length ≤ 100000000 → RdAt w g s false (8 - d) → Calls Tryd.prog 70 #[.pointer (some ⟨g, 0, none⟩)] w (Told (gOne d) w g s (8 - d))
  | d, hd, s, g, w, hs, h => by
    by_cases h1 : pk s = opL
    · match d, hd, h with
      | 0, _, h => exact one_open0 s g w hs h h1
      | d + 1, hd, h =>
        refine one_open s d _ g w hs (by omega) (by omega) h h1 fun w' h' => ?_
        have e : (8 - ((d + 1 : Nat) : Int) + 1) = 8 - (d : Int) := by omega
        rw [e] at h' ⊢
        exact rule_one d (fun s g w hs h => one_calls d (by omega) s g w hs h) (rest s) g w' (Nat.le_trans (rest_le s) hs) h'
    · by_cases h2 : pk s = thisL
      · exact one_this s _ g d w hs h h2
      · exact one_name s _ g d w hs h h1 h2
/-- the rule of a line, as a walk leaves it -/
theorem rule_calls (s : List UInt8) (g : Nat) (w : World) (hs : s.length ≤ 100000000) (h : RdAt w g s false 0) : Calls Tryd.prog 43 #[.pointer (some ⟨g, 0, none⟩)] w (Told (gRule 8) w g s 0) :=
  rule_one 8 (one_calls 8 (Nat.le_refl _)) s g w hs h
end Go.Proofs.YtkibaaljpbcjeaaDoor
namespace Go.Proofs.YtkibaaljpbcjeaaDoor
open Go.RowKit
/-- a relation: its name, its rule -/
abbrev RelD := List UInt8 × RT
/-- a type: its name, its relations -/
abbrev TyD := List UInt8 × List RelD
/-- the cells of several relations -/
structure RelsAt (P : Nat → Prop) (w : World) (cs : List Value) (rels : List RelD) : Prop where
  len : cs.length = rels.length * 5
  part : ∀ (i : Nat) (n : List UInt8) (r : RT), rels[i]? = some (n, r) → ∃ rc, (cs.drop (i * 5)).take 5 = strV n :: rc ∧ RAt P w rc r
section
variable {P Q S : Nat → Prop} {w w' : World} {cs cs' : List Value} {rels rels' : List RelD}
theorem RelsAt.nil : RelsAt P w [] [] := ⟨rfl, fun i n r h => by simp at h⟩
theorem RelsAt.mono (h : RelsAt P w cs rels) (hP : ∀ j, P j → j < w.heap.size → Q j) : RelsAt Q w cs rels := ⟨h.len, fun i n r hi => by obtain ⟨rc, h1, h2⟩ := h.part i n r hi; exact ⟨rc, h1, h2.mono hP⟩⟩
theorem RelsAt.keeps (h : RelsAt P w cs rels) (hk : Keeps S w w') (hs : ∀ j, P j → j < w.heap.size → ¬ S j) : RelsAt P w' cs rels := ⟨h.len, fun i n r hi => by obtain ⟨rc, h1, h2⟩ := h.part i n r hi; exact ⟨rc, h1, h2.keeps hk hs⟩⟩
theorem RelsAt.app (h : RelsAt P w cs rels) (h' : RelsAt P w cs' rels') : RelsAt P w (cs ++ cs') (rels ++ rels') := by
  refine ⟨by rw [List.length_append, List.length_append, h.len, h'.len, Nat.add_mul], fun i n r hi => ?_⟩
  by_cases hlt : i < rels.length
  · rw [List.getElem?_append_left hlt] at hi
    rw [List.drop_append_of_le_length (by rw [h.len]; omega), List.take_append_of_le_length (by rw [List.length_drop, h.len]; omega)]
    exact h.part i n r hi
  · rw [List.getElem?_append_right (by omega)] at hi
    have e : i * 5 = cs.length + (i - rels.length) * 5 := by rw [h.len, Nat.sub_mul]; omega
    rw [e, ← List.drop_drop, List.drop_left]
    exact h'.part _ n r hi
theorem RelsAt.one {n : List UInt8} {r : RT} (h : RAt P w cs r) : RelsAt P w (strV n :: cs) [(n, r)] := by
  refine ⟨by rw [List.length_cons, h.len]; rfl, fun i n' r' hi => ?_⟩
  match i, hi with
  | 0, hi =>
    obtain ⟨rfl, rfl⟩ := Prod.mk.inj (Option.some.inj hi)
    refine ⟨cs, ?_, h⟩
    rw [Nat.zero_mul, List.drop_zero, List.take_of_length_le (by rw [List.length_cons, h.len]; exact Nat.le_refl _)]
theorem RelsAt.one_cell (h : RelsAt P w cs rels) : ∀ u ∈ cs, u.oneCell' = true := by
  intro u hu
  obtain ⟨j, hj, hju⟩ := List.mem_iff_getElem.1 hu
  have hlt : j / 5 < rels.length := by have := h.len; omega
  obtain ⟨rc, h1, h2⟩ := h.part (j / 5) rels[j / 5].1 rels[j / 5].2 (List.getElem?_eq_getElem hlt)
  have hm : u ∈ (cs.drop (j / 5 * 5)).take 5 := by
    rw [List.mem_iff_getElem?]
    refine ⟨j % 5, ?_⟩
    rw [List.getElem?_take_of_lt (Nat.mod_lt _ (by decide)), List.getElem?_drop, show j / 5 * 5 + j % 5 = j by omega, List.getElem?_eq_getElem hj, hju]
  rw [h1] at hm
  rcases List.mem_cons.1 hm with rfl | hm
  · rfl
  · exact h2.one_cell u hm
end
/-- types' cells: the name, the relations' row -/
def tcells (ts : List TyD) (us : List Value) : List Value := (List.zip ts us).flatMap fun x => [strV x.1.1, x.2]
theorem tcells_app {ts ts' : List TyD} {us us' : List Value} (h : us.length = ts.length) : tcells (ts ++ ts') (us ++ us') = tcells ts us ++ tcells ts' us' := by
  unfold tcells
  rw [List.zip_append h.symm, List.flatMap_append]
theorem tcells_len : ∀ (ts : List TyD) (us : List Value), us.length = ts.length → (tcells ts us).length = ts.length * 2
  | [], us, h => by
    have : us = [] := List.eq_nil_of_length_eq_zero h
    subst this; rfl
  | t :: ts, [], h => by simp at h
  | t :: ts, u :: us, h => by
    have e : tcells (t :: ts) (u :: us) = strV t.1 :: u :: tcells ts us := rfl
    rw [e, List.length_cons, List.length_cons, tcells_len ts us (by simpa using h), List.length_cons]; omega
/-- a schema in memory: all its rows are its own, apart from one another; no rule lies in them -/
structure Sch (B : Nat) (w : World) (v : Value) (us : List Value) (ts : List TyD) : Prop where
  row : w.ownsRow B 39 2 v ts.length (tcells ts us)
  len : us.length = ts.length
  rels : ∀ (i : Nat) (t : TyD) (u : Value), ts[i]? = some t → us[i]? = some u → ∃ cs, w.ownsRow B 44 5 u t.2.length cs ∧ RelsAt (fun j => B ≤ j ∧ v.ownBlock ≠ some j ∧ ∀ u ∈ us, u.ownBlock ≠ some j) w cs t.2
  apart : ∀ (i k : Nat) (a b : Value) (j : Nat), us[i]? = some a → us[k]? = some b → a.ownBlock = some j → b.ownBlock = some j → i = k
theorem Sch.nil (B : Nat) (w : World) : Sch B w (.slice none 0 0) [] [] := ⟨World.ownsRow_nil _ _ _ _, rfl, fun i t u h => by simp at h, fun i k a b j h => by simp at h⟩
section
variable {B : Nat} {w w' : World} {v : Value} {us : List Value} {ts : List TyD}
theorem Sch.own (h : Sch B w v us ts) {u : Value} (hu : u ∈ us) : ∃ n cs, w.ownsRow B 44 5 u n cs := by
  obtain ⟨i, hi, e⟩ := List.mem_iff_getElem.1 hu
  have hlt : i < ts.length := by rw [← h.len]; exact hi
  obtain ⟨cs, h1, _⟩ := h.rels i ts[i] u (List.getElem?_eq_getElem hlt) (by rw [List.getElem?_eq_getElem hi, e])
  exact ⟨_, cs, h1⟩
theorem Sch.vne (h : Sch B w v us ts) {u : Value} (hu : u ∈ us) {j : Nat} (hj : u.ownBlock = some j) : v.ownBlock ≠ some j := by
  obtain ⟨n, cs, h1⟩ := h.own hu
  intro e
  obtain ⟨c1, b1⟩ := own_blk h1 j hj
  obtain ⟨c2, b2⟩ := own_blk h.row j e
  exact Blk.ne_ b1 b2 (by decide) rfl
theorem Sch.keeps {S : Nat → Prop} (h : Sch B w v us ts) (hk : Keeps S w w') (hs : ∀ j, B ≤ j → j < w.heap.size → ¬ S j) : Sch B w' v us ts := by
  refine ⟨own_keeps h.row hk fun j hj => hs j (h.row.lt j hj).1 (h.row.lt j hj).2, h.len, fun i t u ht hu => ?_, h.apart⟩
  obtain ⟨cs, h1, h2⟩ := h.rels i t u ht hu
  exact ⟨cs, own_keeps h1 hk fun j hj => hs j (h1.lt j hj).1 (h1.lt j hj).2, h2.keeps hk fun j hj hl => hs j hj.1 hl⟩
theorem info_type : (Tryd.prog.info? 39).map (fun i => (i.zero, i.size, i.bytes)) = some (some (.agg #[.string ⟨#[]⟩, .slice none 0 0]), 2, 40) := by kernel_rfl
theorem info_rel : (Tryd.prog.info? 44).map (fun i => (i.zero, i.size, i.bytes)) = some (some (.agg #[.string ⟨#[]⟩, .int .i64 0, .string ⟨#[]⟩, .string ⟨#[]⟩, .slice none 0 0]), 5, 80) := by kernel_rfl
/-- a type put behind the others -/
theorem Sch.push (h : Sch B w v us ts) (hB : B ≤ w.heap.size) (hn : ts.length ≤ 1000000000) {o : Nat} {n : ByteArray} (ho : Blk w o 39 #[.string n, .slice none 0 0]) :
    ∃ p c w', (dappOp #[23, 23] 23 #[v, .slice (some ⟨o, 0, none⟩) 1 1]).run Tryd.prog w = .ok (.slice p (ts.length + 1) c) w' ∧ Sch B w' (.slice p (ts.length + 1) c) (us ++ [.slice none 0 0]) (ts ++ [(n.data.toList, [])]) ∧ Keeps (fun j => B ≤ j ∧ v.ownBlock = some j) w w' := by
  obtain ⟨i0, hi, hz0, hz1, hz2⟩ := info_parts info_type
  obtain ⟨v', w', h2, h3, h4, _, h5⟩ := run_append_own_at (P := Tryd.prog) w B 23 23 39 i0 (.agg #[.string ⟨#[]⟩, .slice none 0 0]) 2 40 Tryd.underlying23 hi hz0 hz1 hz2 rfl (by decide) v ts.length _ h.row ⟨o, 0, none⟩ 1 1 [.string n, .slice none 0 0] rfl (by
      intro j u hj
      rw [addr_at, ho.cell j, ← hj]
      simp) (by
      intro u hu
      simp at hu
      rcases hu with rfl | rfl <;> rfl) (by unfold maxLen; omega) (by omega) hB
  obtain ⟨p, c, rfl⟩ := own_slice h3
  have hk : Keeps (fun j => B ≤ j ∧ v.ownBlock = some j) w w' := (Keeps.refl _ w).grown h4 fun k e => .inl ⟨(h.row.lt k e).1, e⟩
  refine ⟨p, c, w', h2, ⟨?_, by rw [List.length_append, List.length_append, h.len]; rfl, fun i t u ht hu => ?_, fun i k a b j ha hb ja jb => ?_⟩, hk⟩
  · rw [tcells_app h.len, List.length_append]
    have e : tcells [(n.data.toList, [])] [.slice none 0 0] = [.string n, .slice none 0 0] := by
      show [strV n.data.toList, _] = _
      rw [← strV_mk]
    rw [e]; exact h3
  · by_cases hlt : i < ts.length
    · rw [List.getElem?_append_left hlt] at ht
      rw [List.getElem?_append_left (by rw [h.len]; exact hlt)] at hu
      obtain ⟨cs, h6, h7⟩ := h.rels i t u ht hu
      have hum := List.mem_of_getElem? hu
      refine ⟨cs, own_keeps h6 hk fun j hj e => h.vne hum hj e.2, ?_⟩
      refine ((h7.mono (Q := fun j => (B ≤ j ∧ v.ownBlock ≠ some j ∧ ∀ u ∈ us, u.ownBlock ≠ some j) ∧ j < w.heap.size) fun j hj hl => ⟨hj, hl⟩).keeps hk fun j hj _ e => hj.1.2.1 e.2).mono fun j hj _ => ⟨hj.1.1, ?_, fun u' hu' => ?_⟩
      · rcases h5 with e | e
        · rw [e]; exact hj.1.2.1
        · rw [e]; intro e'; have := Option.some.inj e'; omega
      · rcases List.mem_append.1 hu' with hu' | hu'
        · exact hj.1.2.2 u' hu'
        · rw [List.mem_singleton.1 hu']; intro e; cases e
    · have hi2 := (List.getElem?_eq_some_iff.1 ht).1
      rw [List.length_append, List.length_singleton] at hi2
      have e : i = ts.length := by omega
      subst e
      rw [List.getElem?_append_right (Nat.le_refl _), Nat.sub_self] at ht
      rw [← h.len, List.getElem?_append_right (Nat.le_refl _), Nat.sub_self] at hu
      obtain rfl := Option.some.inj ht
      obtain rfl := Option.some.inj hu
      exact ⟨[], World.ownsRow_nil _ _ _ _, .nil⟩
  · have hlast : ∀ (i : Nat) (a : Value), (us ++ [Value.slice none 0 0])[i]? = some a → a.ownBlock = some j → us[i]? = some a := by
      intro i a ha ja
      by_cases hlt : i < us.length
      · rw [List.getElem?_append_left hlt] at ha; exact ha
      · rw [List.getElem?_append_right (by omega)] at ha
        have := List.mem_of_getElem? ha
        rw [List.mem_singleton.1 this] at ja; cases ja
    exact h.apart i k a b j (hlast i a ha ja) (hlast k b hb jb) ja jb
theorem set_last (xs : List Value) (a b c : Value) : (xs ++ [a, b]).set (xs.length + 1) c = xs ++ [a, c] := by
  rw [List.set_append_right _ _ (by omega), show xs.length + 1 - xs.length = 1 by omega]; rfl
/-- a relation put behind the last type's others -/
theorem Sch.addRel {gv N cv : Nat} {init : List TyD} {ini : List Value} {n : List UInt8} {rels : List RelD} {u : Value} (h : Sch B w (.slice (some ⟨gv, 0, none⟩) N cv) (ini ++ [u]) (init ++ [(n, rels)])) (hN : N = init.length + 1) (hB : B ≤ w.heap.size) (hn : rels.length ≤ 100000000) {o : Nat} {m a b : ByteArray} {k : Int} {p0 : Option Addr} {n0 c0 : Nat} {r : RT}
    (ho : Blk w o 44 #[.string m, .int .i64 k, .string a, .string b, .slice p0 n0 c0]) (hr : RAt (fun j => B ≤ j ∧ (Value.slice (some ⟨gv, 0, none⟩) N cv).ownBlock ≠ some j ∧ ∀ x ∈ ini ++ [u], x.ownBlock ≠ some j) w [.int .i64 k, .string a, .string b, .slice p0 n0 c0] r) :
    ∃ p c w', (dappOp #[37, 37] 37 #[u, .slice (some ⟨o, 0, none⟩) 1 1]).run Tryd.prog w = .ok (.slice p (rels.length + 1) c) w' ∧ Sch B (w'.setCell ⟨gv, init.length * 2 + 1, none⟩ (.slice p (rels.length + 1) c)) (.slice (some ⟨gv, 0, none⟩) N cv) (ini ++ [.slice p (rels.length + 1) c]) (init ++ [(n, rels ++ [(m.data.toList, r)])]) ∧ Keeps (fun j => B ≤ j ∧ u.ownBlock = some j) w w' := by
  subst hN
  have hlen : ini.length = init.length := by have := h.len; rw [List.length_append, List.length_append] at this; simpa using this
  have hul : (ini ++ [u])[init.length]? = some u := by rw [← hlen]; simp
  have hum : u ∈ ini ++ [u] := List.mem_of_getElem? hul
  obtain ⟨cs, h6, h7⟩ := h.rels init.length (n, rels) u (by simp) hul
  obtain ⟨i0, hi, hz0, hz1, hz2⟩ := info_parts info_rel
  obtain ⟨v', w', h2, h3, h4, _, h5⟩ := run_append_own_at (P := Tryd.prog) w B 37 37 44 i0 (.agg #[.string ⟨#[]⟩, .int .i64 0, .string ⟨#[]⟩, .string ⟨#[]⟩, .slice none 0 0]) 5 80 Tryd.underlying37 hi hz0 hz1 hz2 rfl (by decide) u rels.length _ h6 ⟨o, 0, none⟩ 1 1 [.string m, .int .i64 k, .string a, .string b, .slice p0 n0 c0] rfl (by
      intro j u hj
      rw [addr_at, ho.cell j, ← hj]
      simp) (by
      intro u hu
      simp at hu
      rcases hu with rfl | rfl | rfl | rfl | rfl <;> rfl) (by unfold maxLen; omega) (by omega) hB
  obtain ⟨p, c, rfl⟩ := own_slice h3
  have hk : Keeps (fun j => B ≤ j ∧ u.ownBlock = some j) w w' := (Keeps.refl _ w).grown h4 fun k e => .inl ⟨(h6.lt k e).1, e⟩
  have hgv : gv < w.heap.size := (h.row.lt gv rfl).2
  have hne := fun (x : Value) (hx : x ∈ ini ++ [u]) => (fun e => h.vne hx e rfl : x.ownBlock ≠ some gv)
  have hu' : ∀ j, (Value.slice p (rels.length + 1) c).ownBlock = some j → u.ownBlock = some j ∨ j = w.heap.size := fun j hj => by
    rcases h5 with e | e
    · exact .inl (e.symm.trans hj)
    · rw [hj] at e; exact .inr (Option.some.inj e)
  have hne' : (Value.slice p (rels.length + 1) c).ownBlock ≠ some gv := fun e => by
    rcases hu' gv e with e | e
    · exact hne u hum e
    · omega
  have hk2 : Keeps (fun j => j = gv) w' (w'.setCell ⟨gv, init.length * 2 + 1, none⟩ (.slice p (rels.length + 1) c)) := (Keeps.refl (fun j => j = gv) w').setCell (p := ⟨gv, init.length * 2 + 1, none⟩) (.inl rfl) _
  have hrow0 := own_keeps h.row hk fun j hj e => h.vne hum e.2 hj
  rw [show (init ++ [(n, rels)]).length = init.length + 1 by simp] at hrow0
  have hrow := hrow0.stored (init.length * 2 + 1) (.slice p (rels.length + 1) c)
  have hPk : ∀ {j}, (B ≤ j ∧ (Value.slice (some ⟨gv, 0, none⟩) (init.length + 1) cv).ownBlock ≠ some j ∧ ∀ x ∈ ini ++ [u], x.ownBlock ≠ some j) → j < w.heap.size → (B ≤ j ∧ (Value.slice (some ⟨gv, 0, none⟩) (init.length + 1) cv).ownBlock ≠ some j ∧ ∀ x ∈ ini ++ [Value.slice p (rels.length + 1) c], x.ownBlock ≠ some j) := fun {j} hj hl => ⟨hj.1, hj.2.1, fun x hx => by
    rcases List.mem_append.1 hx with hx | hx
    · exact hj.2.2 x (List.mem_append_left _ hx)
    · rw [List.mem_singleton.1 hx]
      intro e
      rcases hu' j e with e | e
      · exact hj.2.2 u hum e
      · omega⟩
  have hkk : Keeps (fun j => j = gv ∨ B ≤ j ∧ u.ownBlock = some j) w (w'.setCell ⟨gv, init.length * 2 + 1, none⟩ (.slice p (rels.length + 1) c)) := (hk.mono fun j _ e => .inr e).trans (hk2.mono fun j _ e => .inl e)
  have hPs : ∀ j, (B ≤ j ∧ (Value.slice (some ⟨gv, 0, none⟩) (init.length + 1) cv).ownBlock ≠ some j ∧ ∀ x ∈ ini ++ [u], x.ownBlock ≠ some j) ∧ j < w.heap.size → j < w.heap.size → ¬ (j = gv ∨ B ≤ j ∧ u.ownBlock = some j) := fun j hj _ e => by
    rcases e with e | e
    · exact hj.1.2.1 (by rw [e]; rfl)
    · exact hj.1.2.2 u hum e.2
  refine ⟨p, c, w', h2, ⟨?_, by rw [List.length_append, List.length_append, hlen]; rfl, fun i t x ht hx => ?_, fun i k a b j ha hb ja jb => ?_⟩, hk⟩
  · have e := hrow.1
    rw [tcells_app hlen] at e
    have e2 : tcells [(n, rels)] [u] = [strV n, u] := rfl
    have e3 := set_last (tcells init ini) (strV n) u (.slice p (rels.length + 1) c)
    rw [tcells_len init ini hlen] at e3
    rw [e2, e3] at e
    rw [tcells_app hlen, List.length_append]
    exact e
  · by_cases hlt : i < init.length
    · rw [List.getElem?_append_left hlt] at ht
      rw [List.getElem?_append_left (by rw [hlen]; exact hlt)] at hx
      have hx2 : (ini ++ [u])[i]? = some x := by rw [List.getElem?_append_left (by rw [hlen]; exact hlt)]; exact hx
      obtain ⟨ds, h8, h9⟩ := h.rels i t x (by rw [List.getElem?_append_left hlt]; exact ht) hx2
      have hxm := List.mem_of_getElem? hx2
      refine ⟨ds, own_keeps h8 hkk fun j hj e => ?_, ((h9.mono (Q := fun j => _ ∧ j < w.heap.size) fun j hj hl => ⟨hj, hl⟩).keeps hkk hPs).mono fun j hj _ => hPk hj.1 hj.2⟩
      rcases e with rfl | e
      · exact hne x hxm hj
      · have := h.apart i init.length x u j hx2 hul hj e.2; omega
    · have hi2 := (List.getElem?_eq_some_iff.1 ht).1
      rw [List.length_append, List.length_singleton] at hi2
      have e : i = init.length := by omega
      subst e
      rw [List.getElem?_append_right (Nat.le_refl _), Nat.sub_self] at ht
      rw [← hlen, List.getElem?_append_right (Nat.le_refl _), Nat.sub_self] at hx
      obtain rfl := Option.some.inj ht
      obtain rfl := Option.some.inj hx
      refine ⟨cs ++ [.string m, .int .i64 k, .string a, .string b, .slice p0 n0 c0], ?_, ?_⟩
      · have := own_keeps h3 hk2 fun j hj e => hne' (by rw [← e]; exact hj)
        rw [List.length_append]; exact this
      · have hone := RelsAt.one (n := m.data.toList) hr
        rw [← strV_mk] at hone
        exact (((h7.app hone).mono (Q := fun j => _ ∧ j < w.heap.size) fun j hj hl => ⟨hj, hl⟩).keeps hkk hPs).mono fun j hj _ => hPk hj.1 hj.2
  · have hcase : ∀ (i : Nat) (a : Value), (ini ++ [Value.slice p (rels.length + 1) c])[i]? = some a → a.ownBlock = some j → (∃ a', (ini ++ [u])[i]? = some a' ∧ a'.ownBlock = some j) ∨ (i = init.length ∧ j = w.heap.size) := by
      intro i a ha ja
      by_cases hlt : i < ini.length
      · rw [List.getElem?_append_left hlt] at ha
        exact .inl ⟨a, by rw [List.getElem?_append_left hlt]; exact ha, ja⟩
      · have hi2 := (List.getElem?_eq_some_iff.1 ha).1
        rw [List.length_append, List.length_singleton] at hi2
        have e : i = ini.length := by omega
        subst e
        rw [List.getElem?_append_right (Nat.le_refl _), Nat.sub_self] at ha
        obtain rfl := Option.some.inj ha
        rcases hu' j ja with e | e
        · exact .inl ⟨u, by rw [hlen]; exact hul, e⟩
        · exact .inr ⟨hlen, e⟩
    rcases hcase i a ha ja with ⟨a', ha', ja'⟩ | ⟨e1, e2⟩
    · rcases hcase k b hb jb with ⟨b', hb', jb'⟩ | ⟨e3, e4⟩
      · exact h.apart i k a' b' j ha' hb' ja' jb'
      · obtain ⟨n1, cs1, ho1⟩ := h.own (List.mem_of_getElem? ha')
        have := (ho1.lt j ja').2; omega
    · rcases hcase k b hb jb with ⟨b', hb', jb'⟩ | ⟨e3, e4⟩
      · obtain ⟨n1, cs1, ho1⟩ := h.own (List.mem_of_getElem? hb')
        have := (ho1.lt j jb').2; omega
      · omega
end
end Go.Proofs.YtkibaaljpbcjeaaDoor
namespace Go.Proofs.YtkibaaljpbcjeaaDoor
open Go.RowKit
attribute [local go_sem ↓] dapp_op
def typeL : List UInt8 := [116, 121, 112, 101]
theorem type_eq (s : ByteArray) : (s.toList == [116, 121, 112, 101]) = (s.data.toList == typeL) := by rw [Lib.toList_data]; rfl
theorem eq_eq (s : ByteArray) : (s.toList == [61]) = (s.data.toList == eqL) := by rw [Lib.toList_data]; rfl
/-- a relation put behind the last type's others -/
def addRel (ts : List TyD) (m : List UInt8) (r : RT) : List TyD := match ts.getLast? with
  | none => ts
  | some (n, rels) => ts.dropLast ++ [(n, rels ++ [(m, r)])]
/-- what a line makes of a schema; none: it may not stand there -/
def lineG (ts : List TyD) (s : List UInt8) : Option (List TyD) :=
  if pk (rest s) = eqL ∧ ts ≠ [] then
    if good (pk s) = true ∧ pk s ≠ typeL then match gRule 8 (toks (rest (rest s))) with
      | some (r, []) => some (addRel ts (pk s) r)
      | _ => none
    else none
  else if pk s = typeL ∧ good (pk (rest s)) = true ∧ toks (rest (rest s)) = [] then some (ts ++ [(pk (rest s), [])]) else none
def LineSaid (B S : Nat) (w : World) (ts : List TyD) (s : List UInt8) (e : Ending) (w' : World) : Prop :=
  Keeps (fun j => j = S ∨ B ≤ j) w w' ∧ ((lineG ts s = none ∧ e = .returned (.bool false)) ∨ ∃ ts' v' us', lineG ts s = some ts' ∧ e = .returned (.bool true) ∧ Blk w' S 25 #[v'] ∧ Sch B w' v' us' ts')
set_option maxHeartbeats 4000000 in
set_option maxRecDepth 100000 in
theorem line_rel_bad (s : List UInt8) (B S : Nat) (v : Value) (us : List Value) (ts : List TyD) (w : World) (hs : s.length ≤ 100000) (hS : Blk w S 25 #[v]) (hBw : B ≤ w.heap.size) (h : Sch B w v us ts) (h1 : pk (rest s) = eqL) (h2 : ts ≠ []) (hbad : (isName (pk s) && !(pk s == thisL) && !(pk s == typeL)) = false) :
    Calls Tryd.prog 17 #[.pointer (some ⟨S, 0, none⟩), strV s] w (LineSaid B S w ts s) := by
  have hG : lineG ts s = none := by
    unfold lineG
    rw [if_pos ⟨h1, h2⟩, if_neg]
    rintro ⟨a, b⟩
    have e : good (pk s) = (isName (pk s) && !(pk s == thisL)) := rfl
    rw [← e, a, beq_false_of_ne b] at hbad
    cases hbad
  have hw1 : strV s = .string ⟨s.toArray⟩ := rfl
  have hb1 := (Below.refl w.heap.size w).alloc (Nat.le_refl _) (.cells #[strV s, .bool false, .int .i64 0] 83)
  have rd1 : RdAt (w.alloc (.cells #[strV s, .bool false, .int .i64 0] 83)) w.heap.size s false 0 := Blk.new _ _ _
  have hT := token_calls s false 0 w.heap.size _ (by omega) rd1
  obtain ⟨Q, eQ, dQ⟩ : ∃ Q : ByteArray, strV (pk s) = .string Q ∧ Q.data.toList = pk s := ⟨⟨(pk s).toArray⟩, rfl, rfl⟩
  rw [eQ] at hT
  have hT' := Lib.hid hT
  have hb1' := Lib.hid hb1
  clear hT rd1 hb1
  rw [hw1] at hT' hb1' ⊢
  go_enter Tryd.func17, Tryd.ntmps17
  go_wp2_with fail
  refine hT'.out.mono ?_
  rintro e w2 ⟨rfl, h3, k3⟩
  have hSl := hS.lt
  have kk := hb1'.out
  have hS2 := (hS.below kk hSl).keeps k3 (by omega)
  have hSc := hS2.cell
  obtain ⟨pv, cv, rfl⟩ := own_slice h.row
  have hP := fun o h => peek_calls (rest s) o 0 w.heap.size w2 (by have := rest_le s; omega) h
  have hst : strV (pk (rest s)) = .string ⟨#[61]⟩ := by rw [h1]; rfl
  rw [hst] at hP
  have hP' := Lib.hid (hP _ h3)
  have k2 : Keeps (fun j => j = S ∨ B ≤ j) w w2 := (Keeps.of_below kk).trans (k3.mono fun j _ e => by omega)
  have hql : Q.size ≤ maxLen := by
    rw [Lib.size_eq, dQ]
    have h1 := pk_le s
    have h2 := trimL_le s
    unfold maxLen; omega
  have hN := fun w => isName_calls Q w hql
  have e2 := this_eq Q
  have e3 := type_eq Q
  rw [dQ] at hN e2 e3
  have hN' := Lib.hid hN
  have hn0 : 0 < ts.length := List.length_pos_iff.2 h2
  generalize ts.length = N at *
  have hk2' := Lib.hid k2
  clear hN hP k2 k3 kk hT' hb1' dQ hst
  go_wp2_with fail
  refine hP'.out.mono ?_
  rintro e w4 ⟨rfl, h4, k4⟩
  have hkf : Keeps (fun j => j = S ∨ B ≤ j) w w4 := hk2'.out.trans (k4.mono fun j _ e => by omega)
  have hkf' := Lib.hid hkf
  clear hkf k4 hSc hS2 h3
  generalize isName (pk s) = b1 at *
  generalize (pk s == thisL) = b2 at *
  generalize (pk s == typeL) = b3 at *
  cases b1
  · go_wp2_with fail
    refine (hN'.out _).mono ?_
    rintro e w5 ⟨rfl, rfl⟩
    go_wp2_with fail
    go_ret
    exact ⟨hkf'.out, .inl ⟨hG, rfl⟩⟩
  · cases b2
    · cases b3
      · cases hbad
      · go_wp2_with fail
        refine (hN'.out _).mono ?_
        rintro e w5 ⟨rfl, rfl⟩
        go_wp2_with fail
        go_ret
        exact ⟨hkf'.out, .inl ⟨hG, rfl⟩⟩
    · go_wp2_with fail
      refine (hN'.out _).mono ?_
      rintro e w5 ⟨rfl, rfl⟩
      go_wp2_with fail
      go_ret
      exact ⟨hkf'.out, .inl ⟨hG, rfl⟩⟩
end Go.Proofs.YtkibaaljpbcjeaaDoor
namespace Go.Proofs.YtkibaaljpbcjeaaDoor
def sepT (k : Int) : List UInt8 := if k = 4 then [32, 124, 32] else [32, 38, 32]
mutual
/-- a rule's text, with so many brackets left; none: it may not be -/
def ruleT (d : Nat) : RT → Option (List UInt8)
  | .node k a b ps => if k = 1 then (if a = [] ∧ b = [] ∧ ps = [] then some thisL else none)
    else if k = 2 then (if good a = true ∧ b = [] ∧ ps = [] then some a else none)
    else if k = 3 then (if good a = true ∧ good b = true ∧ ps = [] then some (a ++ arL ++ b) else none)
    else if k = 4 ∨ k = 5 then (if a = [] ∧ b = [] ∧ 2 ≤ ps.length then partsT k d true ps else none)
    else none
/-- the text of parts, first: none stands ahead -/
def partsT (k : Int) (d : Nat) (first : Bool) : List RT → Option (List UInt8)
  | [] => some []
  | p :: ps => if p.kind = k then none else
    match (if k = 5 ∧ p.kind = 4 then (match d with
        | 0 => none
        | d + 1 => (ruleT d p).map fun t => opL ++ t ++ clL) else ruleT d p) with
    | none => none
    | some t => match partsT k d false ps with
      | none => none
      | some u => some ((if first then [] else sepT k) ++ t ++ u)
end
def relT (m : List UInt8) (r : RT) : Option (List UInt8) := if good m = true ∧ m ≠ typeL then (ruleT 8 r).map fun x => m ++ [32, 61, 32] ++ x ++ [10] else none
def relsT : List RelD → Option (List UInt8)
  | [] => some []
  | (m, r) :: rels => match relT m r with
    | none => none
    | some t => (relsT rels).map fun u => t ++ u
def tysT : List TyD → Option (List UInt8)
  | [] => some []
  | (n, rels) :: ts => if good n = true then match relsT rels with
      | none => none
      | some t => (tysT ts).map fun u => typeL ++ [32] ++ n ++ [10] ++ t ++ u
    else none
mutual
/-- how many bytes a rule's text has at most -/
def RT.wt : RT → Nat
  | .node _ a b ps => a.length + b.length + 8 + wtL ps
def wtL : List RT → Nat
  | [] => 0
  | p :: ps => p.wt + 8 + wtL ps
end
def relsW : List RelD → Nat
  | [] => 0
  | (m, r) :: rels => m.length + r.wt + 8 + relsW rels
def tysW : List TyD → Nat
  | [] => 0
  | (n, rels) :: ts => n.length + 16 + relsW rels + tysW ts
theorem wtL_mem {ps : List RT} {p : RT} (h : p ∈ ps) : p.wt + 8 ≤ wtL ps := by
  induction ps with
  | nil => cases h
  | cons q ps ih =>
    unfold wtL
    rcases List.mem_cons.1 h with rfl | h
    · omega
    · have := ih h; omega
theorem RT.wt_eq (r : RT) : r.wt = (match r with | .node _ a b ps => a.length + b.length + 8 + wtL ps) := by cases r; unfold RT.wt; rfl
end Go.Proofs.YtkibaaljpbcjeaaDoor
