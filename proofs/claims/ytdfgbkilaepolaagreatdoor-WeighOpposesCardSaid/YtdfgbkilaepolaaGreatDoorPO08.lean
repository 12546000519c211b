/- Conditions put behind conditions. Walks: the document's not (without "not") and group (of conditions of other kinds). Walks: the document's all (without "and") and cond (with at most one "or"). -/
import Derived.Test.YtdfgbkilaepolaaGreatDoorPO05
import Derived.Test.YtdfgbkilaepolaaGreatDoorPO07
namespace Go.Proofs.YtdfgbkilaepolaaGreatDoor
open Go.RowKit
theorem info_cond : (Tryz.prog.info? 28).map (fun i => (i.zero, i.size, i.bytes)) = some (some (.agg #[.int .i64 0, .int .i64 0, .string ⟨#[]⟩, .slice none 0 0]), 4, 56) := by kernel_rfl
theorem info_parts {P : Program} {t : TypeId} {z : Value} {n b : Nat} (h : (P.info? t).map (fun i => (i.zero, i.size, i.bytes)) = some (some z, n, b)) : ∃ i, P.info? t = some i ∧ i.zero = some z ∧ i.size = n ∧ i.bytes = b := by
  cases hi : P.info? t with
  | none => rw [hi] at h; cases h
  | some i =>
    rw [hi] at h
    have := Option.some.inj h
    exact ⟨i, rfl, congrArg (·.1) this, congrArg (·.2.1) this, congrArg (·.2.2) this⟩
section
variable {P : Nat → Prop} {w : World} {cs ds : List Value} {r : CT} {ps : List CT}
theorem CAt.one_cell (h : CAt P w cs r) : ∀ u ∈ cs, u.oneCell' = true := by
  obtain ⟨Q, p, n, c, rfl⟩ := h.open_
  intro u hu
  simp at hu
  rcases hu with rfl | rfl | rfl | rfl <;> rfl
theorem PartsAt.one_cell (h : PartsAt P w cs ps) : ∀ u ∈ cs, u.oneCell' = true := by
  intro u hu
  obtain ⟨j, hj, hju⟩ := List.mem_iff_getElem.1 hu
  have hlt : j / 4 < ps.length := by have := h.len; omega
  have h1 := h.part (j / 4) ps[j / 4] (List.getElem?_eq_getElem hlt)
  refine h1.one_cell u ?_
  rw [List.mem_iff_getElem?]
  refine ⟨j % 4, ?_⟩
  rw [List.getElem?_take_of_lt (Nat.mod_lt _ (by decide)), List.getElem?_drop, show j / 4 * 4 + j % 4 = j by omega, List.getElem?_eq_getElem hj, hju]
end
/-- parts that a walk gathers: their row is its own; no part lies in it, nor in block O, which holds the slice -/
structure Own (O B : Nat) (w : World) (v : Value) (ps : List CT) (cs : List Value) : Prop where
  row : w.ownsRow B 28 4 v ps.length cs
  ne : v.ownBlock ≠ some O
  parts : PartsAt (fun j => B ≤ j ∧ j ≠ O ∧ v.ownBlock ≠ some j) w cs ps
theorem Own.nil (O B : Nat) (w : World) : Own O B w (.slice none 0 0) [] [] := ⟨World.ownsRow_nil _ _ _ _, by simp [Value.ownBlock], .nil⟩
theorem Own.keeps {O B : Nat} {w w' : World} {v : Value} {ps : List CT} {cs : List Value} {S : Nat → Prop} (h : Own O B w v ps cs) (hk : Keeps S w w') (hs : ∀ j, B ≤ j → j ≠ O → j < w.heap.size → ¬ S j) : Own O B w' v ps cs :=
  ⟨own_keeps h.row hk fun j hj => hs j (h.row.lt j hj).1 (fun e => h.ne (e ▸ hj)) (h.row.lt j hj).2, h.ne, h.parts.keeps hk fun j hj hl => hs j hj.1 hj.2.1 hl⟩
theorem Own.new {O B : Nat} {w : World} {ps : List CT} {cs : List Value} {g : Nat} (hb : Blk w g 28 cs.toArray) (hB : B ≤ g) (hO : g ≠ O) (hp : PartsAt (fun j => B ≤ j ∧ j ≠ O ∧ j ≠ g) w cs ps) (hn : ps.length ≤ maxLen) : Own O B w (.slice (some ⟨g, 0, none⟩) ps.length ps.length) ps cs := by
  have hl := hp.len
  refine ⟨⟨hl, .inr ⟨g, ps.length, cs.toArray, rfl, hB, hb, Nat.le_refl _, hn, by simpa using hl, ?_⟩⟩, ?_, ?_⟩
  · show cs.take (ps.length * 4) = cs
    rw [← hl, List.take_length]
  · intro e; exact hO (Option.some.inj e)
  · exact ⟨hp.len, fun i p hi => (hp.part i p hi).mono fun j hj _ => ⟨hj.1, hj.2.1, fun e => hj.2.2 (Option.some.inj e).symm⟩⟩
theorem Own.app_ {O B : Nat} {w : World} {v u : Value} {ps qs : List CT} {cs ds : List Value} (h : Own O B w v ps cs) (hB : B ≤ w.heap.size) (hO : O < w.heap.size) (hu : RowAt w 28 u qs.length ds) (hq : PartsAt (fun j => B ≤ j ∧ j ≠ O ∧ v.ownBlock ≠ some j) w ds qs) (hn : ps.length + qs.length ≤ 1000000000) :
    ∃ p c w', (dappOp #[26, 26] 26 #[v, u]).run Tryz.prog w = .ok (.slice p (ps ++ qs).length c) w' ∧ Own O B w' (.slice p (ps ++ qs).length c) (ps ++ qs) (cs ++ ds) ∧ Keeps (fun j => B ≤ j ∧ j < w.heap.size ∧ v.ownBlock = some j) w w' ∧ ((Value.slice p (ps ++ qs).length c).ownBlock = v.ownBlock ∨ (Value.slice p (ps ++ qs).length c).ownBlock = some w.heap.size) := by
  obtain ⟨i0, hi, hz0, hz1, hz2⟩ := info_parts info_cond
  rcases hu with ⟨rfl, h0⟩ | ⟨g, c, cur, rfl, hc, hl, hcell⟩
  · obtain rfl : qs = [] := List.eq_nil_of_length_eq_zero h0
    obtain rfl : ds = [] := List.eq_nil_of_length_eq_zero (by rw [hq.len]; rfl)
    obtain ⟨p, c, rfl⟩ := own_slice h.row
    refine ⟨p, c, w, ?_, ?_, Keeps.refl _ _, .inl (by cases p <;> rfl)⟩
    · rw [List.append_nil]
      exact run_append_owned_none w B _ _ _ i0 4 Tryz.underlying26 hi _ ps.length _ h.row
    · rw [List.append_nil, List.append_nil]; exact h
  · obtain ⟨v', w', h2, h3, h4, _, h5⟩ := run_append_own_at (P := Tryz.prog) w B 26 26 28 i0 (.agg #[.int .i64 0, .int .i64 0, .string ⟨#[]⟩, .slice none 0 0]) 4 56 Tryz.underlying26 hi hz0 hz1 hz2 rfl (by decide) v ps.length _ h.row ⟨g, 0, none⟩ qs.length c ds hq.len (by
      intro j u hj
      rw [addr_at, hl.cell j]
      exact hcell j u hj) hq.one_cell (by unfold maxLen; omega) (by omega) hB
    obtain ⟨p, c', rfl⟩ := own_slice h3
    have hk : Keeps (fun j => B ≤ j ∧ j < w.heap.size ∧ v.ownBlock = some j) w w' := (Keeps.refl _ w).grown h4 fun k e => .inl ⟨(h.row.lt k e).1, (h.row.lt k e).2, e⟩
    rw [← List.length_append] at h2 h3 h5
    refine ⟨p, c', w', h2, ⟨h3, ?_, ?_⟩, hk, h5⟩
    · rcases h5 with e | e
      · rw [e]; exact h.ne
      · rw [e]; intro e'; have := Option.some.inj e'; omega
    have hP := h.parts.app hq
    refine (hP.mono (Q := fun j => (B ≤ j ∧ j ≠ O ∧ v.ownBlock ≠ some j) ∧ j < w.heap.size) fun j hj hlt => ⟨hj, hlt⟩).keeps hk (fun j hj _ e => hj.1.2.2 e.2.2) |>.mono fun j hj _ => ⟨hj.1.1, hj.1.2.1, ?_⟩
    rcases h5 with e | e
    · rw [e]; exact hj.1.2.2
    · rw [e]; intro e'; have := Option.some.inj e'; omega
theorem Own.app {O B : Nat} {w : World} {v u : Value} {ps qs : List CT} {cs ds : List Value} (h : Own O B w v ps cs) (hB : B ≤ w.heap.size) (hO : O < w.heap.size) (hu : RowAt w 28 u qs.length ds) (hq : PartsAt (fun j => B ≤ j ∧ j ≠ O ∧ v.ownBlock ≠ some j) w ds qs) (hn : ps.length + qs.length ≤ 1000000000) :
    ∃ p c w', (dappOp #[26, 26] 26 #[v, u]).run Tryz.prog w = .ok (.slice p (ps ++ qs).length c) w' ∧ Own O B w' (.slice p (ps ++ qs).length c) (ps ++ qs) (cs ++ ds) ∧ Keeps (fun j => B ≤ j ∧ j < w.heap.size ∧ v.ownBlock = some j) w w' := by
  obtain ⟨p, c, w', h1, h2, h3, _⟩ := h.app_ hB hO hu hq hn
  exact ⟨p, c, w', h1, h2, h3⟩
theorem set4 (a b c d v0 v1 v2 v3 : Value) (rest : List Value) : ∀ cs : List Value, ((((cs ++ a :: b :: c :: d :: rest).set cs.length v0).set (cs.length + 1) v1).set (cs.length + 2) v2).set (cs.length + 3) v3 = cs ++ v0 :: v1 :: v2 :: v3 :: rest
  | [] => rfl
  | h :: t => by
    have := set4 a b c d v0 v1 v2 v3 rest t
    show h :: _ = h :: _
    exact congrArg _ this
/-- a part is laid into its place -/
theorem Own.put {O B q c9 : Nat} {w9 W : World} {acc : List CT} {cs zc : List Value} {z x : CT} {cur : Array Value} {v0 v1 v2 v3 : Value} (own9 : Own O B w9 (.slice (some ⟨q, 0, none⟩) (acc ++ [z]).length c9) (acc ++ [z]) (cs ++ zc)) (hz : zc.length = 4) (hcs : cs.length = acc.length * 4)
    (hq9 : Blk w9 q 28 cur) (hW : Blk W q 28 ((((cur.setIfInBounds (acc.length * 4) v0).setIfInBounds (acc.length * 4 + 1) v1).setIfInBounds (acc.length * 4 + 2) v2).setIfInBounds (acc.length * 4 + 3) v3))
    (hk : Keeps (fun j => j = q ∨ j = O) w9 W) (hx : CAt (fun j => B ≤ j ∧ j ≠ O ∧ j ≠ q) W [v0, v1, v2, v3] x) :
    Own O B W (.slice (some ⟨q, 0, none⟩) (acc ++ [x]).length c9) (acc ++ [x]) (cs ++ [v0, v1, v2, v3]) := by
  obtain ⟨hlen, hr⟩ := own9.row
  have hnn : (acc ++ [z]).length = acc.length + 1 := by simp
  have hnx : (acc ++ [x]).length = acc.length + 1 := by simp
  rcases hr with ⟨e, _⟩ | ⟨g, cap, cur', e, hg, hb, hn, hcap, hsz, htake⟩
  · cases e
  · obtain ⟨rfl, rfl⟩ : q = g ∧ c9 = cap := by injection e with e1 _ e3; exact ⟨congrArg Addr.block (Option.some.inj e1), e3⟩
    obtain rfl : cur' = cur := by
      have := hb.symm.trans hq9
      injection (Option.some.inj this)
    rw [hnn] at htake hn
    refine ⟨⟨by rw [hnx, List.length_append, hcs]; show acc.length * 4 + 4 = _; omega, .inr ⟨q, c9, _, rfl, hg, hW, by rw [hnx]; exact hn, hcap, by simpa using hsz, ?_⟩⟩, own9.ne, ?_⟩
    · rw [hnx]
      match zc, hz with
      | [a, b, c, d], _ =>
        have hcur : cur'.toList = cs ++ a :: b :: c :: d :: cur'.toList.drop ((acc.length + 1) * 4) := by
          have := List.take_append_drop ((acc.length + 1) * 4) cur'.toList
          rw [htake] at this
          exact this.symm.trans (by simp)
        have : (((((cur'.setIfInBounds (acc.length * 4) v0).setIfInBounds (acc.length * 4 + 1) v1).setIfInBounds (acc.length * 4 + 2) v2).setIfInBounds (acc.length * 4 + 3) v3)).toList = cs ++ v0 :: v1 :: v2 :: v3 :: cur'.toList.drop ((acc.length + 1) * 4) := by
          simp only [Array.toList_setIfInBounds]
          conv => lhs; rw [hcur]
          rw [← hcs]
          exact set4 _ _ _ _ _ _ _ _ _ _
        rw [this]
        have e2 : cs ++ v0 :: v1 :: v2 :: v3 :: cur'.toList.drop ((acc.length + 1) * 4) = (cs ++ [v0, v1, v2, v3]) ++ cur'.toList.drop ((acc.length + 1) * 4) := by simp
        rw [e2, List.take_left' (by rw [List.length_append, hcs]; show acc.length * 4 + 4 = _; omega)]
    · have hp : PartsAt (fun j => B ≤ j ∧ j ≠ O ∧ j ≠ q) W cs acc := by
        refine ⟨hcs, fun i p hi => ?_⟩
        have h1 := own9.parts.part i p (by rw [List.getElem?_append_left (by have := List.getElem?_eq_some_iff.1 hi; exact this.1)]; exact hi)
        have hil : i < acc.length := (List.getElem?_eq_some_iff.1 hi).1
        rw [List.drop_append_of_le_length (by omega), List.take_append_of_le_length (by rw [List.length_drop]; omega)] at h1
        exact (h1.mono (Q := fun j => B ≤ j ∧ j ≠ O ∧ j ≠ q) fun j hj _ => ⟨hj.1, hj.2.1, fun e => hj.2.2 (by rw [e]; rfl)⟩).keeps hk fun j hj _ e => by rcases e with e | e; exact hj.2.2 e; exact hj.2.1 e
      have := hp.app hx.one
      exact ⟨this.len, fun i p hi => (this.part i p hi).mono fun j hj _ => ⟨hj.1, hj.2.1, fun e => hj.2.2 (Option.some.inj e).symm⟩⟩
end Go.Proofs.YtdfgbkilaepolaaGreatDoor
namespace Go.Proofs.YtdfgbkilaepolaaGreatDoor
open Go.RowKit
attribute [local go_sem ↓] dapp_op
def gNotR (H : Toks → Res) (l : Toks) : Res := if isT l notL then .error 0 else H l
set_option maxHeartbeats 4000000 in
set_option maxRecDepth 100000 in
theorem rnot_calls (H : Toks → Res) (g gs : Nat) (L : Toks) (hU : SaidG 71 H g gs L) : SaidG 46 (gNotR H) g gs L := by
  intro w l c r h hT
  have hgl := h.lt
  have hsl := h.slt
  have hno : isT l notL = false := by
    unfold gNotR at hT
    cases hi : isT l notL with
    | false => rfl
    | true => rw [hi, if_pos rfl] at hT; cases hT
  have hH : H l = .ok (c, r) := by
    unfold gNotR at hT
    rw [hno, if_neg (by decide)] at hT; exact hT
  have hA1 := (Below.refl w.heap.size w).alloc (Nat.le_refl _) (.cells condZ 28)
  have hB := Blk.new w 28 condZ
  have hz0 := alloc_size w (.cells condZ 28)
  have h1 := h.later hA1
  have k1 := (Keeps.refl (fun j => j = g) w).alloc (.cells condZ 28)
  obtain ⟨w1, e1⟩ : ∃ w1, w.alloc (.cells condZ 28) = w1 := ⟨_, rfl⟩
  unfold condZ at e1
  have e1' : w.alloc (.cells condZ 28) = w1 := e1
  rw [e1'] at hA1 hB hz0 h1 k1
  have T := Lib.hid (rtake_no ⟨#[110, 111, 116]⟩ h1 (by decide) hno)
  have h1' := Lib.hid h1
  have hB' := Lib.hid hB
  have k1' := Lib.hid k1
  have hz0' := Lib.hid hz0
  have hU' := Lib.hid hU
  have hH' := Lib.hid hH
  clear hU h hT hno hH hA1 hB hz0 h1 k1 e1'
  go_enter Tryz.func46, Tryz.ntmps46
  go_wp2_with fail
  refine wp_loop_rounds 1 ?_
  rw [rounds_succ]
  go_wp2_with fail
  refine T.out.mono ?_
  rintro e w2 ⟨rfl, hb2⟩
  have h2 := h1'.out.later hb2
  have hB2 := hB'.out.below hb2 hB'.out.lt
  have k2 := k1'.out.step (Keeps.of_below (S := fun _ => False) hb2) fun _ e => e.elim
  have hw2 : w.heap.size < w2.heap.size := hB2.lt
  have D := Lib.hid (hU'.out _ l c r h2 hH'.out)
  have hB2' := Lib.hid hB2
  have k2' := Lib.hid k2
  clear hb2 h2 hB2 k2 T h1' hB' k1' e1
  go_wp2_with fail
  refine D.out.mono ?_
  rintro e w3 ⟨cs, rfl, hC3, hR3, k3⟩
  obtain ⟨Q3, p3, n3, c3, rfl⟩ := hC3.open_
  have hC3 := hC3.mono (Q := fun j => w.heap.size < j) fun j hj _ => Nat.lt_of_lt_of_le hw2 hj
  have hB3 := hB2'.out.keeps k3 (Nat.ne_of_gt hgl)
  have k3 := k2'.out.trans k3
  have hA4 := (Below.refl w3.heap.size w3).alloc (Nat.le_refl _) (.cells #[.int .i64 c.kind, .int .i64 c.num, .string Q3, .slice p3 n3 c3] 28)
  have b4 := Blk.new w3 28 #[.int .i64 c.kind, .int .i64 c.num, .string Q3, .slice p3 n3 c3]
  obtain ⟨w4, e4⟩ : ∃ w4, w3.alloc (.cells #[.int .i64 c.kind, .int .i64 c.num, .string Q3, .slice p3 n3 c3] 28) = w4 := ⟨_, rfl⟩
  rw [e4] at hA4 b4
  have hB4 := hB3.below hA4 hB3.lt
  have k4 := Lib.hid (k3.step (Keeps.of_below (S := fun _ => False) hA4) fun _ e => e.elim)
  have hR4 := Lib.hid (hR3.later hA4)
  have hC4 := Lib.hid (hC3.later hA4)
  have z4 := hB4.cell
  have zf := hB4.frozen
  have b4c := b4.cell
  have hB4' := Lib.hid hB4
  unfold condZ at z4
  clear hC3 hR3 hB3 k3 hA4 b4 hB4 D hB2' k2'
  go_wp2_with fail
  refine wp_loop_rounds 1 ?_
  rw [rounds_succ]
  go_wp2_with fail
  obtain ⟨W, eW, hBW, hRW, hKW⟩ := rput_cond rfl hB4'.out hR4.out (Nat.ne_of_lt hgl) (Nat.ne_of_lt hsl) (.int .i64 c.kind) (.int .i64 c.num) (.string Q3) (.slice p3 n3 c3)
  rw [eW]
  have c5 := hBW.cell
  refine bodyPost_ret (v := .agg #[.int .i64 c.kind, .int .i64 c.num, .string Q3, .slice p3 n3 c3]) (by simp [results, Tryz.results46, go_sem, c5]) rfl ?_
  exact ⟨_, rfl, (hC4.out.keeps hKW fun j hj _ e => by omega).mono fun j hj _ => Nat.le_of_lt hj, hRW, k4.out.step hKW (fun j e => .inr (by omega))⟩
/-- the four cells of one part -/
theorem CAt.cells_at {P : Nat → Prop} {w : World} {g i : Nat} {ds : List Value} {ps : List CT} {q : CT} (hcell : ∀ (i : Nat) (u : Value), ds[i]? = some u → w.cell? ⟨g, i, none⟩ = some u) (hps : PartsAt P w ds ps) (hq : ps[i]? = some q) :
    ∃ (a : ByteArray) (p : Option Addr) (n c : Nat), CAt P w [.int .i64 q.kind, .int .i64 q.num, .string a, .slice p n c] q ∧ w.cell? ⟨g, i * 4, none⟩ = some (.int .i64 q.kind) ∧ w.cell? ⟨g, i * 4 + 1, none⟩ = some (.int .i64 q.num) ∧ w.cell? ⟨g, i * 4 + 2, none⟩ = some (.string a) ∧ w.cell? ⟨g, i * 4 + 3, none⟩ = some (.slice p n c) := by
  have h := hps.part i q hq
  obtain ⟨a, p, n, c, e⟩ := h.open_
  rw [e] at h
  have hi := (List.getElem?_eq_some_iff.1 hq).1
  have hu : ∀ j u, j < 4 → [Value.int .i64 q.kind, .int .i64 q.num, .string a, .slice p n c][j]? = some u → w.cell? ⟨g, i * 4 + j, none⟩ = some u := fun j u hj hu => by
    rw [← e, List.getElem?_take, if_pos hj, List.getElem?_drop] at hu
    exact hcell _ u hu
  exact ⟨a, p, n, c, h, hu 0 _ (by decide) rfl, hu 1 _ (by decide) rfl, hu 2 _ (by decide) rfl, hu 3 _ (by decide) rfl⟩
theorem take_one {α : Type} {l : List α} {k : Nat} {x : α} (hx : l[k]? = some x) : l.take (k + 1) = l.take k ++ [x] := by
  obtain ⟨e1, e2⟩ := List.getElem?_eq_some_iff.1 hx
  rw [List.take_succ_eq_append_getElem e1, e2]
def groupR (kind : Int) (ps : List CT) : CT := match ps with | [x] => x | _ => .node kind 0 [] ps
set_option maxHeartbeats 4000000 in
set_option maxRecDepth 100000 in
theorem rgroup_calls (kind : Int) (ps : List CT) (B0 : Nat) (v : Value) (ds : List Value) (w : World) (hB0 : B0 ≤ w.heap.size) (hrow : RowAt w 28 v ps.length ds) (hps : PartsAt (fun j => B0 ≤ j) w ds ps) (hk : ∀ x ∈ ps, x.kind ≠ kind) (h1 : 1 ≤ ps.length) (h2 : ps.length ≤ 1000) :
    Calls Tryz.prog 25 #[.int .i64 kind, v] w fun e w' => ∃ cs, e = .returned (.agg cs.toArray) ∧ CAt (fun j => B0 ≤ j) w' cs (groupR kind ps) ∧ Below w.heap.size w w' := by
  obtain ⟨gr, cp, rfl, hcp, hgl, hcell⟩ := hrow.cell (by omega)
  have hB := Blk.new w 28 condZ
  have hA1 := (Below.refl w.heap.size w).alloc (Nat.le_refl _) (.cells condZ 28)
  have hcell1 : ∀ (W : World), Below w.heap.size w W → ∀ (i : Nat) (u : Value), ds[i]? = some u → W.cell? ⟨gr, i, none⟩ = some u := fun W hb i u hu => by rw [hb.cell (p := ⟨gr, i, none⟩) hgl]; exact hcell i u hu
  obtain ⟨w1, e1⟩ : ∃ w1, w.alloc (.cells condZ 28) = w1 := ⟨_, rfl⟩
  have e1' : w.alloc (.cells #[.int .i64 0, .int .i64 0, .string ⟨#[]⟩, .slice none 0 0] 28) = w1 := e1
  rw [e1] at hB hA1
  obtain ⟨R, eR⟩ : ∃ R, w.heap.size = R := ⟨_, rfl⟩
  rw [eR] at hB hgl hB0
  obtain ⟨N, hN⟩ : ∃ N, ps.length = N := ⟨_, rfl⟩
  rw [hN] at h1 h2 hcp ⊢
  have hN' := Lib.hid hN
  have eR' := Lib.hid eR
  have hB' := Lib.hid hB
  have hA1' := Lib.hid hA1
  have hcell' := Lib.hid hcell1
  have hps' := Lib.hid hps
  have hk' := Lib.hid hk
  clear hrow hcell hB hA1 hcell1 hps hk hN e1
  go_enter Tryz.func25, Tryz.ntmps25
  go_wp2_with fail
  clear e1'
  go_loopw [5, 10] (fun pv iv wr => ∃ (k : Nat) (p : Option Addr) (c : Nat) (cs : List Value), iv = .int .i64 k ∧ k ≤ N ∧ pv = .slice p k c ∧ Own R B0 wr (.slice p k c) (ps.take k) cs ∧ Below w.heap.size w wr ∧ Blk wr R 28 condZ ∧ (∀ j, (Value.slice p k c).ownBlock = some j → R < j)) (fun _ iv _ => N - (intOf iv).toNat)
  case atStart => exact ⟨0, none, 0, [], rfl, Nat.zero_le _, rfl, Own.nil _ _ _, hA1'.out, hB'.out, fun j e => by cases e⟩
  case round =>
    clear hA1' hB'
    obtain ⟨k, p, c, cs, rfl, hkN, rfl, hown, hb, hR, hob⟩ := hrel
    by_cases hlt : k < N
    · obtain ⟨x, hx⟩ : ∃ x, ps[k]? = some x := ⟨_, List.getElem?_eq_getElem (by rw [hN'.out]; exact hlt)⟩
      obtain ⟨a, px, nx, cx, hxc, x0, x1, x2, x3⟩ := CAt.cells_at (hcell'.out wr hb) (hps'.out.later hb) hx
      have hxk := hk'.out x (List.mem_of_getElem? hx)
      have hkf : (x.kind == kind) = false := beq_false_of_ne hxk
      -- the box, the row of one
      have hX := Blk.new wr 28 #[.int .i64 x.kind, .int .i64 x.num, .string a, .slice px nx cx]
      have hAx := (Below.refl wr.heap.size wr).alloc (Nat.le_refl _) (.cells #[.int .i64 x.kind, .int .i64 x.num, .string a, .slice px nx cx] 28)
      have hz3 := alloc_size wr (.cells #[.int .i64 x.kind, .int .i64 x.num, .string a, .slice px nx cx] 28)
      obtain ⟨w3, e3⟩ : ∃ w3, wr.alloc (.cells #[.int .i64 x.kind, .int .i64 x.num, .string a, .slice px nx cx] 28) = w3 := ⟨_, rfl⟩
      rw [e3] at hX hAx hz3
      have hY := Blk.new w3 28 #[.int .i64 x.kind, .int .i64 x.num, .string a, .slice px nx cx]
      have hAy := (Below.refl w3.heap.size w3).alloc (Nat.le_refl _) (.cells #[.int .i64 x.kind, .int .i64 x.num, .string a, .slice px nx cx] 28)
      have hz4 := alloc_size w3 (.cells #[.int .i64 x.kind, .int .i64 x.num, .string a, .slice px nx cx] 28)
      obtain ⟨w4, e4⟩ : ∃ w4, w3.alloc (.cells #[.int .i64 x.kind, .int .i64 x.num, .string a, .slice px nx cx] 28) = w4 := ⟨_, rfl⟩
      rw [e4] at hY hAy hz4
      have hAxy := hAx.trans (hAy.mono hAx.size)
      have hb4 := hb.trans (hAxy.mono hb.size)
      have hRl := hR.lt
      have hown4 := hown.keeps (Keeps.of_below (S := fun _ => False) hAxy) fun _ _ _ _ => id
      have hR4 := hR.below hAxy hR.lt
      have hx4 : CAt (fun j => B0 ≤ j ∧ j ≠ R ∧ (Value.slice p k c).ownBlock ≠ some j) w4 [.int .i64 x.kind, .int .i64 x.num, .string a, .slice px nx cx] x := by
        have hw := hps'.out.part k x hx
        have hw2 : CAt (fun j => B0 ≤ j ∧ j < R) w ((ds.drop (k * 4)).take 4) x := hw.mono fun j hj hl => ⟨hj, by rw [← eR'.out]; exact hl⟩
        have hw3 := hw2.later hb4
        have eq : (ds.drop (k * 4)).take 4 = [.int .i64 x.kind, .int .i64 x.num, .string a, .slice px nx cx] := by
          obtain ⟨a2, p2, n2, c2, e2⟩ := hw.open_
          have hlen := hps'.out.len
          have hcells := hcell'.out wr hb
          rw [e2]
          have hu : ∀ j u, j < 4 → [Value.int .i64 x.kind, .int .i64 x.num, .string a2, .slice p2 n2 c2][j]? = some u → wr.cell? ⟨gr, k * 4 + j, none⟩ = some u := fun j u hj hu => by
            rw [← e2, List.getElem?_take, if_pos hj, List.getElem?_drop] at hu
            exact hcells _ u hu
          have q2 := hu 2 _ (by decide) rfl
          have q3 := hu 3 _ (by decide) rfl
          rw [x2] at q2
          rw [x3] at q3
          rw [Option.some.inj q2, Option.some.inj q3]
        rw [eq] at hw3
        exact hw3.mono fun j hj _ => ⟨hj.1, by omega, fun e => by have := hob j e; omega⟩
      have hlk : (ps.take k).length = k := by rw [List.length_take, hN'.out]; omega
      obtain ⟨p9, c9, w9, e9, own9, k9, hob9⟩ := hown4.app_ (u := .slice (some ⟨w3.heap.size, 0, none⟩) 1 1) (qs := [x]) (by omega) (by omega) (.inr ⟨_, _, _, rfl, Nat.le_refl _, hY, fun i u hi => by simpa using hi⟩) hx4.one (by rw [hlk]; show k + 1 ≤ _; omega)
      have hl1 : (ps.take k ++ [x]).length = k + 1 := by rw [List.length_append, hlk]; rfl
      rw [hl1] at e9 own9 hob9
      rw [hz3] at e9
      rw [← take_one hx] at own9
      have hb9 := hb4.trans (k9.below (fun j _ e => by have := hob j e.2.2; rw [eR'.out]; omega) hb4.size)
      have hR9 := hR4.keeps k9 (fun e => by have := hob R e.2.2; omega)
      have own9' := Lib.hid own9
      have hb9' := Lib.hid hb9
      have hR9' := Lib.hid hR9
      have hob9' : Hid (∀ j, (Value.slice p9 (k + 1) c9).ownBlock = some j → R < j) := Lib.hid fun j hj => by
        rcases hob9 with e | e
        · rw [e] at hj; exact hob j hj
        · rw [e] at hj
          have := Option.some.inj hj
          omega
      have xc := hX.cell
      clear hx hxc hxk hX hAx hY hAy hAxy hb4 hown4 hR4 hx4 hlk own9 k9 hob9 hl1 hb9 hR9 hown hb hR hob
      go_wp2_with fail
      go_roundw
      case rel => exact ⟨k + 1, p9, c9, _, by go_num, by omega, rfl, own9'.out, hb9'.out, hR9'.out, hob9'.out⟩
      case measure => simp [intOf]; omega
    · obtain rfl : k = N := by omega
      have htk : ps.take k = ps := List.take_of_length_le (by rw [hN'.out]; exact Nat.le_refl _)
      rw [htk] at hown
      have z4 := hR.cell
      have zf := hR.frozen
      have hR' := Lib.hid hR
      have hb' := Lib.hid hb
      have hown' := Lib.hid hown
      have hob' := Lib.hid hob
      unfold condZ at z4
      clear hR hb hown hob htk
      by_cases hone : k = 1
      · subst hone
        obtain ⟨x, hx⟩ : ∃ x, ps = [x] := by
          have := hN'.out
          match ps, this with
          | [x], _ => exact ⟨x, rfl⟩
        obtain ⟨a, px, nx, cx, hxc, x0, x1, x2, x3⟩ := CAt.cells_at (i := 0) (q := x) (hcell'.out wr hb'.out) (hps'.out.later hb'.out) (by rw [hx]; rfl)
        rw [Nat.zero_mul] at x0
        rw [Nat.zero_mul, Nat.zero_add] at x1 x2 x3
        have hxc' := Lib.hid hxc
        have hx' : Hid (groupR kind ps = x) := Lib.hid (by rw [hx]; rfl)
        clear hxc hx
        go_wp2_with fail
        have hk2 : Keeps (fun j => j = R) wr ((((wr.setCell ⟨R, 0, none⟩ (.int .i64 x.kind)).setCell ⟨R, 1, none⟩ (.int .i64 x.num)).setCell ⟨R, 2, none⟩ (.string a)).setCell ⟨R, 3, none⟩ (.slice px nx cx)) :=
          ((((Keeps.refl (fun j => j = R) wr).setCell (p := ⟨R, 0, none⟩) (.inl rfl) _).setCell (p := ⟨R, 1, none⟩) (.inl rfl) _).setCell (p := ⟨R, 2, none⟩) (.inl rfl) _).setCell (p := ⟨R, 3, none⟩) (.inl rfl) _
        have hBW : Blk ((((wr.setCell ⟨R, 0, none⟩ (.int .i64 x.kind)).setCell ⟨R, 1, none⟩ (.int .i64 x.num)).setCell ⟨R, 2, none⟩ (.string a)).setCell ⟨R, 3, none⟩ (.slice px nx cx)) R 28 #[.int .i64 x.kind, .int .i64 x.num, .string a, .slice px nx cx] := (((hR'.out.set_ 0 _).set_ 1 _).set_ 2 _).set_ 3 _
        generalize (((wr.setCell ⟨R, 0, none⟩ (.int .i64 x.kind)).setCell ⟨R, 1, none⟩ (.int .i64 x.num)).setCell ⟨R, 2, none⟩ (.string a)).setCell ⟨R, 3, none⟩ (.slice px nx cx) = W at *
        have c5 := hBW.cell
        refine bodyPost_ret (v := .agg #[.int .i64 x.kind, .int .i64 x.num, .string a, .slice px nx cx]) (by simp [results, Tryz.results25, go_sem, c5]) rfl ?_
        rw [hx'.out]
        have hxw : CAt (fun j => B0 ≤ j ∧ j ≠ R) wr [.int .i64 x.kind, .int .i64 x.num, .string a, .slice px nx cx] x := by
          have hin := (hown'.out.parts.part 0 x (by
            have := hx'.out
            have hl := hN'.out
            match ps, hl, this with
            | [y], _, e => exact congrArg some e))
          obtain ⟨a2, p2, n2, c2, e2⟩ := hin.open_
          have hcs := hps'.out.part 0 x (by
            have := hx'.out
            have hl := hN'.out
            match ps, hl, this with
            | [y], _, e => exact congrArg some e)
          have hw2 : CAt (fun j => B0 ≤ j ∧ j < R) w ((ds.drop (0 * 4)).take 4) x := hcs.mono fun j hj hl => ⟨hj, by rw [← eR'.out]; exact hl⟩
          have hw3 := hw2.later hb'.out
          obtain ⟨a3, p3, n3, c3, e3⟩ := hw3.open_
          have hu : ∀ j u, j < 4 → [Value.int .i64 x.kind, .int .i64 x.num, .string a3, .slice p3 n3 c3][j]? = some u → wr.cell? ⟨gr, j, none⟩ = some u := fun j u hj hu => by
            rw [← e3, List.getElem?_take, if_pos hj, List.getElem?_drop, Nat.zero_mul, Nat.zero_add] at hu
            exact hcell'.out wr hb'.out _ u hu
          have q2 := hu 2 _ (by decide) rfl
          have q3 := hu 3 _ (by decide) rfl
          rw [x2] at q2
          rw [x3] at q3
          rw [e3, ← Option.some.inj q2, ← Option.some.inj q3] at hw3
          exact hw3.mono fun j hj _ => ⟨hj.1, by omega⟩
        exact ⟨_, rfl, (hxw.keeps hk2 fun j hj _ e => hj.2 e).mono fun j hj _ => hj.1, Keeps.below_step hb'.out hb'.out.size hk2 fun j e => by rw [e, eR'.out]; exact Nat.le_refl _⟩
      · have hne : ((k : Int) == 1) = false := beq_false_of_ne (by omega)
        have hgrp : Hid (groupR kind ps = .node kind 0 [] ps) := Lib.hid (by
          have hl := hN'.out
          match ps, hl with
          | [], _ => rfl
          | [y], hl => exact absurd hl.symm hone
          | _ :: _ :: _, _ => rfl)
        clear hone
        go_wp2_with fail
        have hk2 : Keeps (fun j => j = R) wr ((((wr.setCell ⟨R, 0, none⟩ (.int .i64 kind)).setCell ⟨R, 1, none⟩ (.int .i64 0)).setCell ⟨R, 2, none⟩ (.string ⟨#[]⟩)).setCell ⟨R, 3, none⟩ (.slice p k c)) :=
          ((((Keeps.refl (fun j => j = R) wr).setCell (p := ⟨R, 0, none⟩) (.inl rfl) _).setCell (p := ⟨R, 1, none⟩) (.inl rfl) _).setCell (p := ⟨R, 2, none⟩) (.inl rfl) _).setCell (p := ⟨R, 3, none⟩) (.inl rfl) _
        have hBW : Blk ((((wr.setCell ⟨R, 0, none⟩ (.int .i64 kind)).setCell ⟨R, 1, none⟩ (.int .i64 0)).setCell ⟨R, 2, none⟩ (.string ⟨#[]⟩)).setCell ⟨R, 3, none⟩ (.slice p k c)) R 28 #[.int .i64 kind, .int .i64 0, .string ⟨#[]⟩, .slice p k c] := (((hR'.out.set_ 0 _).set_ 1 _).set_ 2 _).set_ 3 _
        generalize (((wr.setCell ⟨R, 0, none⟩ (.int .i64 kind)).setCell ⟨R, 1, none⟩ (.int .i64 0)).setCell ⟨R, 2, none⟩ (.string ⟨#[]⟩)).setCell ⟨R, 3, none⟩ (.slice p k c) = W at *
        have c5 := hBW.cell
        refine bodyPost_ret (v := .agg #[.int .i64 kind, .int .i64 0, .string ⟨#[]⟩, .slice p k c]) (by simp [results, Tryz.results25, go_sem, c5]) rfl ?_
        rw [hgrp.out]
        have ownW := hown'.out.keeps hk2 (fun j _ hj _ e => hj e)
        have hlp : (Value.slice p k c) = .slice p ps.length c := by rw [hN'.out]
        refine ⟨_, rfl, ?_, Keeps.below_step hb'.out hb'.out.size hk2 fun j e => by rw [e, eR'.out]; exact Nat.le_refl _⟩
        refine CAt.mk (s := []) (cs := cs) (RowAt.of_own ownW.row) (fun q hq => ?_) ownW.parts.len fun i y hi => (ownW.parts.part i y hi).mono fun j hj _ => hj.1
        have := hob'.out q hq
        omega
end Go.Proofs.YtdfgbkilaepolaaGreatDoor
namespace Go.Proofs.YtdfgbkilaepolaaGreatDoor
open Go.RowKit
attribute [local go_sem ↓] dapp_op
def allR (N : Toks → Res) (l : Toks) : Res := match N l with
  | .error e => .error e
  | .ok (c, m) => if isT m andL then .error 0 else if c.kind = 7 then .error 0 else .ok (c, m)
def condR (A : Toks → Res) (l : Toks) : Res := match A l with
  | .error e => .error e
  | .ok (c, m) => if c.kind = 8 then .error 0 else if isT m orL then (match A m.tail with
      | .error e => .error e
      | .ok (d, q) => if d.kind = 8 then .error 0 else if isT q orL then .error 0 else .ok (.node 8 0 [] [c, d], q))
    else .ok (c, m)
set_option maxHeartbeats 4000000 in
set_option maxRecDepth 100000 in
theorem rall_calls (N : Toks → Res) (g gs : Nat) (L : Toks) (hU : SaidG 46 N g gs L) : SaidG 23 (allR N) g gs L := by
  intro w l c r h hT
  have hgl := h.lt
  have hsl := h.slt
  obtain ⟨hH, hno, hk7⟩ : N l = .ok (c, r) ∧ isT r andL = false ∧ c.kind ≠ 7 := by
    have hT : (match N l with | .error e => .error e | .ok (c, m) => if isT m andL then .error 0 else if c.kind = 7 then .error 0 else .ok (c, m) : Res) = .ok (c, r) := hT
    cases hu : N l with
    | error e => rw [hu] at hT; cases hT
    | ok am =>
      obtain ⟨x, y⟩ := am
      rw [hu] at hT
      have hT : (if isT y andL then .error 0 else if x.kind = 7 then .error 0 else .ok (x, y) : Res) = .ok (c, r) := hT
      by_cases h1 : isT y andL = true
      · rw [if_pos h1] at hT; cases hT
      · rw [if_neg h1] at hT
        by_cases h2 : x.kind = 7
        · rw [if_pos h2] at hT; cases hT
        · rw [if_neg h2] at hT
          injection hT with hT
          injection hT with e1 e2
          subst e1 e2
          exact ⟨rfl, by simpa using h1, h2⟩
  have hA1 := (Below.refl w.heap.size w).alloc (Nat.le_refl _) (.cells condZ 28)
  have hB := Blk.new w 28 condZ
  have hz0 := alloc_size w (.cells condZ 28)
  have h1 := h.later hA1
  have k1 := (Keeps.refl (fun j => j = g) w).alloc (.cells condZ 28)
  obtain ⟨w1, e1⟩ : ∃ w1, w.alloc (.cells condZ 28) = w1 := ⟨_, rfl⟩
  have e1' : w.alloc (.cells #[.int .i64 0, .int .i64 0, .string ⟨#[]⟩, .slice none 0 0] 28) = w1 := e1
  rw [e1] at hA1 hB hz0 h1 k1
  have D := Lib.hid (hU _ l c r h1 hH)
  have hB' := Lib.hid hB
  have k1' := Lib.hid k1
  have hz0' := Lib.hid hz0
  clear hU h hT hH hA1 hB hz0 h1 k1 e1
  go_enter Tryz.func23, Tryz.ntmps23
  go_wp2_with fail
  refine D.out.mono ?_
  rintro e w2 ⟨cs, rfl, hC2, hR2, k2⟩
  obtain ⟨Q2, p2, n2, c2, rfl⟩ := hC2.open_
  have hC2 := hC2.mono (Q := fun j => w.heap.size + 1 ≤ j) fun j hj _ => by rw [hz0'.out] at hj; exact hj
  have hB2 := hB'.out.keeps k2 (Nat.ne_of_gt hgl)
  have k2 := k1'.out.trans k2
  have hw2 : w.heap.size < w2.heap.size := hB2.lt
  have hA3 := (Below.refl w2.heap.size w2).alloc (Nat.le_refl _) (.cells #[.int .i64 c.kind, .int .i64 c.num, .string Q2, .slice p2 n2 c2] 28)
  have b3 := Blk.new w2 28 #[.int .i64 c.kind, .int .i64 c.num, .string Q2, .slice p2 n2 c2]
  obtain ⟨w3, e3⟩ : ∃ w3, w2.alloc (.cells #[.int .i64 c.kind, .int .i64 c.num, .string Q2, .slice p2 n2 c2] 28) = w3 := ⟨_, rfl⟩
  rw [e3] at hA3 b3
  have hB3 := hB2.below hA3 hB2.lt
  have k3 := k2.step (Keeps.of_below (S := fun _ => False) hA3) fun _ e => e.elim
  have hR3 := hR2.later hA3
  have hC3 := hC2.later hA3
  have T := Lib.hid (rtake_no ⟨#[97, 110, 100]⟩ hR3 (by decide) hno)
  have row3 : RowAt w3 28 (.slice (some ⟨w2.heap.size, 0, none⟩) 1 1) 1 [.int .i64 c.kind, .int .i64 c.num, .string Q2, .slice p2 n2 c2] := .inr ⟨_, _, _, rfl, Nat.le_refl _, b3, fun i u hi => by simpa using hi⟩
  have hB3' := Lib.hid hB3
  have k3' := Lib.hid k3
  have hR3' := Lib.hid hR3
  have hC3' := Lib.hid hC3
  have row3' := Lib.hid row3
  clear hC2 hB2 k2 hR2 hA3 b3 hB3 k3 hR3 hC3 row3 D hB' k1'
  go_wp2_with fail
  refine wp_loop_rounds 1 ?_
  rw [rounds_succ]
  go_wp2_with fail
  refine T.out.mono ?_
  rintro e w4 ⟨rfl, hb4⟩
  have hB4 := hB3'.out.below hb4 hB3'.out.lt
  have k4 := k3'.out.step (Keeps.of_below (S := fun _ => False) hb4) fun _ e => e.elim
  have hR4 := hR3'.out.later hb4
  have G := Lib.hid (rgroup_calls 7 [c] (w.heap.size + 1) _ _ w4 (by have := hB4.lt; omega) (row3'.out.later hb4) (hC3'.out.later hb4).one (fun x hx => by rw [List.mem_singleton.1 hx]; exact hk7) (Nat.le_refl 1) (show 1 ≤ 1000 by decide))
  have hB4' := Lib.hid hB4
  have k4' := Lib.hid k4
  have hR4' := Lib.hid hR4
  clear hb4 hB4 k4 hR4 T e3
  go_wp2_with fail
  refine G.out.mono ?_
  rintro e w5 ⟨cs5, rfl, hC5, hb5⟩
  obtain ⟨Q5, p5, n5, c5, rfl⟩ := hC5.open_
  have hB5 := hB4'.out.below hb5 hB4'.out.lt
  have k5 := Lib.hid (k4'.out.step (Keeps.of_below (S := fun _ => False) hb5) fun _ e => e.elim)
  have hR5 := Lib.hid (hR4'.out.later hb5)
  have hC5' := Lib.hid hC5
  have z4 := hB5.cell
  have zf := hB5.frozen
  have hB5' := Lib.hid hB5
  unfold condZ at z4
  clear hC5 hB5 hb5 G hB4' k4' hR4'
  have hg7 : groupR 7 [c] = c := rfl
  rw [hg7] at hC5' ⊢
  clear hg7
  go_wp2_with fail
  obtain ⟨W, eW, hBW, hRW, hKW⟩ := rput_cond rfl hB5'.out hR5.out (Nat.ne_of_lt hgl) (Nat.ne_of_lt hsl) (.int .i64 c.kind) (.int .i64 c.num) (.string Q5) (.slice p5 n5 c5)
  rw [eW]
  have c6 := hBW.cell
  refine bodyPost_ret (v := .agg #[.int .i64 c.kind, .int .i64 c.num, .string Q5, .slice p5 n5 c5]) (by simp [results, Tryz.results23, go_sem, c6]) rfl ?_
  exact ⟨_, rfl, (hC5'.out.keeps hKW fun j hj _ e => by omega).mono fun j hj _ => by omega, hRW, k5.out.step hKW (fun j e => .inr (by omega))⟩
theorem condR_is {A : Toks → Res} {l r : Toks} {c : CT} (hT : condR A l = .ok (c, r)) : (A l = .ok (c, r) ∧ isT r orL = false ∧ c.kind ≠ 8) ∨ (∃ a m b, A l = .ok (a, m) ∧ isT m orL = true ∧ a.kind ≠ 8 ∧ A m.tail = .ok (b, r) ∧ b.kind ≠ 8 ∧ isT r orL = false ∧ c = .node 8 0 [] [a, b]) := by
  unfold condR at hT
  cases hu : A l with
  | error e => rw [hu] at hT; cases hT
  | ok am =>
    obtain ⟨x, y⟩ := am
    rw [hu] at hT
    have hT : (if x.kind = 8 then .error 0 else if isT y orL then (match A y.tail with
      | .error e => .error e
      | .ok (d, q) => if d.kind = 8 then .error 0 else if isT q orL then .error 0 else .ok (.node 8 0 [] [x, d], q)) else .ok (x, y) : Res) = .ok (c, r) := hT
    by_cases h8 : x.kind = 8
    · rw [if_pos h8] at hT; cases hT
    rw [if_neg h8] at hT
    by_cases h1 : isT y orL = true
    · rw [if_pos h1] at hT
      cases hv : A y.tail with
      | error e => rw [hv] at hT; cases hT
      | ok bm =>
        obtain ⟨d, q⟩ := bm
        rw [hv] at hT
        have hT : (if d.kind = 8 then .error 0 else if isT q orL then .error 0 else .ok (.node 8 0 [] [x, d], q) : Res) = .ok (c, r) := hT
        by_cases h9 : d.kind = 8
        · rw [if_pos h9] at hT; cases hT
        rw [if_neg h9] at hT
        by_cases h2 : isT q orL = true
        · rw [if_pos h2] at hT; cases hT
        rw [if_neg h2] at hT
        injection hT with hT
        injection hT with e1 e2
        subst e1 e2
        exact .inr ⟨x, y, d, rfl, h1, h8, hv, h9, by simpa using h2, rfl⟩
    · rw [if_neg h1] at hT
      injection hT with hT
      injection hT with e1 e2
      subst e1 e2
      exact .inl ⟨rfl, by simpa using h1, h8⟩
set_option maxHeartbeats 8000000 in
set_option maxRecDepth 100000 in
theorem rcond_calls (A : Toks → Res) (g gs : Nat) (L : Toks) (hU : SaidG 23 A g gs L) : SaidG 13 (condR A) g gs L := by
  intro w l c r h hT
  have hgl := h.lt
  have hsl := h.slt
  have hA1 := (Below.refl w.heap.size w).alloc (Nat.le_refl _) (.cells condZ 28)
  have hB := Blk.new w 28 condZ
  have hz0 := alloc_size w (.cells condZ 28)
  have h1 := h.later hA1
  have k1 := (Keeps.refl (fun j => j = g) w).alloc (.cells condZ 28)
  obtain ⟨w1, e1⟩ : ∃ w1, w.alloc (.cells condZ 28) = w1 := ⟨_, rfl⟩
  have e1' : w.alloc (.cells #[.int .i64 0, .int .i64 0, .string ⟨#[]⟩, .slice none 0 0] 28) = w1 := e1
  rw [e1] at hA1 hB hz0 h1 k1
  have hB' := Lib.hid hB
  have k1' := Lib.hid k1
  have hz0' := Lib.hid hz0
  have h1' := Lib.hid h1
  have hU' := Lib.hid hU
  have hT' := Lib.hid (condR_is hT)
  obtain ⟨R, eR⟩ : ∃ R, w.heap.size = R := ⟨_, rfl⟩
  rw [eR] at hB' hz0'
  have eR' := Lib.hid eR
  clear hU h hT hA1 hB hz0 h1 k1 e1
  obtain ⟨a, m, hH⟩ : ∃ a m, A l = .ok (a, m) := by
    rcases hT'.out with ⟨h, _⟩ | ⟨a, m, _, h, _⟩
    · exact ⟨_, _, h⟩
    · exact ⟨_, _, h⟩
  have D := Lib.hid (hU'.out _ l a m h1'.out hH)
  have hH' := Lib.hid hH
  clear hH h1'
  go_enter Tryz.func13, Tryz.ntmps13
  go_wp2_with fail
  refine D.out.mono ?_
  rintro e w2 ⟨cs, rfl, hC2, hR2, k2⟩
  obtain ⟨Q2, p2, n2, c2, rfl⟩ := hC2.open_
  have hC2 := hC2.mono (Q := fun j => R + 1 ≤ j ∧ j ≠ w2.heap.size) fun j hj hl => ⟨by rw [hz0'.out] at hj; exact hj, Nat.ne_of_lt hl⟩
  have hgR : g ≠ R := by omega
  have hB2 := hB'.out.keeps k2 (Ne.symm hgR)
  have k2 := k1'.out.trans k2
  have hw2 : R < w2.heap.size := hB2.lt
  have hA3 := (Below.refl w2.heap.size w2).alloc (Nat.le_refl _) (.cells #[.int .i64 a.kind, .int .i64 a.num, .string Q2, .slice p2 n2 c2] 28)
  have b3 := Blk.new w2 28 #[.int .i64 a.kind, .int .i64 a.num, .string Q2, .slice p2 n2 c2]
  obtain ⟨w3, e3⟩ : ∃ w3, w2.alloc (.cells #[.int .i64 a.kind, .int .i64 a.num, .string Q2, .slice p2 n2 c2] 28) = w3 := ⟨_, rfl⟩
  obtain ⟨G, eG⟩ : ∃ G, w2.heap.size = G := ⟨_, rfl⟩
  rw [e3] at hA3 b3
  rw [eG] at b3 hw2 hC2
  have hB3 := hB2.below hA3 hB2.lt
  have k3 := k2.step (Keeps.of_below (S := fun _ => False) hA3) fun _ e => e.elim
  have hR3 := hR2.later hA3
  have hC3 := hC2.later (by rw [← eG] at *; exact hA3)
  have own3 : Own R (R + 1) w3 (.slice (some ⟨G, 0, none⟩) 1 1) [a] [.int .i64 a.kind, .int .i64 a.num, .string Q2, .slice p2 n2 c2] :=
    Own.new (ps := [a]) b3 (by omega) (by omega) ((hC3.mono (Q := fun j => R + 1 ≤ j ∧ j ≠ R ∧ j ≠ G) fun j hj _ => ⟨hj.1, by omega, hj.2⟩).one) (show 1 ≤ maxLen by decide)
  have hB3' := Lib.hid hB3
  have k3' := Lib.hid k3
  have hR3' := Lib.hid hR3
  have own3' := Lib.hid own3
  clear hC2 hB2 k2 hR2 hA3 b3 hB3 k3 hR3 hC3 own3 D hB' k1'
  go_wp2_with fail
  clear e3 eG
  rcases hT'.out with ⟨hA, hno, hk8⟩ | ⟨a', m', b, hA, hor, ha8, hAb, hb8, hno, hcb⟩
  · -- no "or"
    obtain ⟨rfl, rfl⟩ : a = c ∧ m = r := by
      rw [hH'.out] at hA
      injection hA with hA
      injection hA with h1 h2
      exact ⟨h1, h2⟩
    have T := Lib.hid (rtake_no ⟨#[111, 114]⟩ hR3'.out (by decide) hno)
    clear hA hno
    refine wp_loop_rounds 1 ?_
    rw [rounds_succ]
    go_wp2_with fail
    refine T.out.mono ?_
    rintro e w4 ⟨rfl, hb4⟩
    have hB4 := hB3'.out.below hb4 hB3'.out.lt
    have k4 := k3'.out.step (Keeps.of_below (S := fun _ => False) hb4) fun _ e => e.elim
    have hR4 := hR3'.out.later hb4
    have own4 := own3'.out.keeps (Keeps.of_below (S := fun _ => False) hb4) fun _ _ _ _ => id
    have Gr := Lib.hid (rgroup_calls 8 [a] (R + 1) _ _ w4 (by have := hB4.lt; omega) (RowAt.of_own own4.row) (own4.parts.mono fun j hj _ => hj.1) (fun x hx => by rw [List.mem_singleton.1 hx]; exact hk8) (Nat.le_refl 1) (show 1 ≤ 1000 by decide))
    have hB4' := Lib.hid hB4
    have k4' := Lib.hid k4
    have hR4' := Lib.hid hR4
    clear hb4 hB4 k4 hR4 own4 T
    go_wp2_with fail
    refine Gr.out.mono ?_
    rintro e w5 ⟨cs5, rfl, hC5, hb5⟩
    obtain ⟨Q5, p5, n5, c5, rfl⟩ := hC5.open_
    have hB5 := hB4'.out.below hb5 hB4'.out.lt
    have k5 := Lib.hid (k4'.out.step (Keeps.of_below (S := fun _ => False) hb5) fun _ e => e.elim)
    have hR5 := Lib.hid (hR4'.out.later hb5)
    have hC5' := Lib.hid hC5
    have z4 := hB5.cell
    have zf := hB5.frozen
    have hB5' := Lib.hid hB5
    unfold condZ at z4
    clear hC5 hB5 hb5 Gr hB4' k4' hR4'
    have hg7 : groupR 8 [a] = a := rfl
    rw [hg7] at hC5' ⊢
    clear hg7
    go_wp2_with fail
    obtain ⟨W, eW, hBW, hRW, hKW⟩ := rput_cond rfl hB5'.out hR5.out hgR (by omega) (.int .i64 a.kind) (.int .i64 a.num) (.string Q5) (.slice p5 n5 c5)
    rw [eW]
    have c6 := hBW.cell
    refine bodyPost_ret (v := .agg #[.int .i64 a.kind, .int .i64 a.num, .string Q5, .slice p5 n5 c5]) (by simp [results, Tryz.results13, go_sem, c6]) rfl ?_
    exact ⟨_, rfl, (hC5'.out.keeps hKW fun j hj _ e => by omega).mono fun j hj _ => by omega, hRW, k5.out.step hKW (fun j e => .inr (by omega))⟩
  · -- one "or"
    obtain ⟨rfl, rfl⟩ : a = a' ∧ m = m' := by
      rw [hH'.out] at hA
      injection hA with hA
      injection hA with h1 h2
      exact ⟨h1, h2⟩
    have T := Lib.hid (rtake_yes ⟨#[111, 114]⟩ hR3'.out (by decide) hor)
    have hAb' := Lib.hid hAb
    have hno' := Lib.hid hno
    have hcb' := Lib.hid hcb
    clear hA hor hAb hno hcb
    refine wp_loop_rounds 2 ?_
    rw [rounds_succ]
    go_wp2_with fail
    refine T.out.mono ?_
    rintro e w4 ⟨rfl, hR4, k4⟩
    have hB4 := hB3'.out.keeps k4 (Ne.symm hgR)
    have own4 := Lib.hid (own3'.out.keeps k4 fun j hj _ _ e => by omega)
    have k4 := Lib.hid (k3'.out.trans k4)
    have D4 := Lib.hid (hU'.out _ m.tail b r hR4 hAb'.out)
    have hl4 : R < w4.heap.size := hB4.lt
    have hG4 : G < w4.heap.size := (own4.out.row.lt G rfl).2
    have hB4' := Lib.hid hB4
    clear hR4 hB4 T
    go_wp2_with fail
    refine D4.out.mono ?_
    rintro e w5 ⟨cs5, rfl, hC5, hR5, k5⟩
    obtain ⟨Q5, p5, n5, c5, rfl⟩ := hC5.open_
    have hB5 := hB4'.out.keeps k5 (Ne.symm hgR)
    have own5 := own4.out.keeps k5 fun j hj _ _ e => by omega
    have k5 := k4.out.trans k5
    have hl5 : R < w5.heap.size := hB5.lt
    -- the row of one
    have hY := Blk.new w5 28 #[.int .i64 b.kind, .int .i64 b.num, .string Q5, .slice p5 n5 c5]
    have hAy := (Below.refl w5.heap.size w5).alloc (Nat.le_refl _) (.cells #[.int .i64 b.kind, .int .i64 b.num, .string Q5, .slice p5 n5 c5] 28)
    obtain ⟨w6, e6⟩ : ∃ w6, w5.alloc (.cells #[.int .i64 b.kind, .int .i64 b.num, .string Q5, .slice p5 n5 c5] 28) = w6 := ⟨_, rfl⟩
    rw [e6] at hY hAy
    have hB6 := hB5.below hAy hB5.lt
    have own6 := own5.keeps (Keeps.of_below (S := fun _ => False) hAy) fun _ _ _ _ => id
    have k6 := k5.step (Keeps.of_below (S := fun _ => False) hAy) fun _ e => e.elim
    have hR6 := hR5.later hAy
    have hC6 : CAt (fun j => R + 1 ≤ j ∧ j ≠ R ∧ (Value.slice (some ⟨G, 0, none⟩) 1 1).ownBlock ≠ some j) w6 [.int .i64 b.kind, .int .i64 b.num, .string Q5, .slice p5 n5 c5] b :=
      (hC5.later hAy).mono fun j hj _ => ⟨by omega, by omega, fun e => by have e2 : G = j := Option.some.inj e; omega⟩
    have hl6 := hB6.lt
    obtain ⟨p9, c9, w9, e9, own9, k9, hob9⟩ := own6.app_ (u := .slice (some ⟨w5.heap.size, 0, none⟩) 1 1) (qs := [b]) (by omega) hl6 (.inr ⟨_, _, _, rfl, Nat.le_refl _, hY, fun i u hi => by simpa using hi⟩) hC6.one (show 1 + 1 ≤ 1000000000 by decide)
    have hB9 := hB6.keeps k9 (fun e => by omega)
    have k9b : Keeps (fun j => j = g) w w9 := k6.step k9 fun j hj => .inr (by omega)
    have hgG : ∀ j, (R + 1 ≤ j ∧ j < w6.heap.size ∧ (Value.slice (some ⟨G, 0, none⟩) 1 1).ownBlock = some j) → j ≠ g ∧ j ≠ gs := fun j hj => by omega
    have hR9 := hR6.keeps k9 (fun e => (hgG g e).1 rfl) (fun e => (hgG gs e).2 rfl)
    have T9 := Lib.hid (rtake_no ⟨#[111, 114]⟩ hR9 (by decide) hno'.out)
    have e9 : (dappOp #[26, 26] 26 #[.slice (some ⟨G, 0, none⟩) 1 1, .slice (some ⟨w5.heap.size, 0, none⟩) 1 1]).run Tryz.prog w6 = .ok (.slice p9 2 c9) w9 := e9
    have own9 : Own R (R + 1) w9 (.slice p9 2 c9) [a, b] _ := own9
    have hB9' := Lib.hid hB9
    have own9' := Lib.hid own9
    have k9' := Lib.hid k9b
    have hR9' := Lib.hid hR9
    clear hC5 hR5 hB5 own5 k5 hY hAy hB6 own6 k6 hR6 hC6 own9 k9 hob9 hB9 k9b hgG hR9 D4 hl6
    go_wp2_with fail
    rw [rounds_succ]
    go_wp2_with fail
    refine T9.out.mono ?_
    rintro e w10 ⟨rfl, hb10⟩
    have hB10 := hB9'.out.below hb10 hB9'.out.lt
    have k10 := k9'.out.step (Keeps.of_below (S := fun _ => False) hb10) fun _ e => e.elim
    have hR10 := hR9'.out.later hb10
    have own10 := own9'.out.keeps (Keeps.of_below (S := fun _ => False) hb10) fun _ _ _ _ => id
    have Gr := Lib.hid (rgroup_calls 8 [a, b] (R + 1) _ _ w10 (by have := hB10.lt; omega) (RowAt.of_own own10.row) (own10.parts.mono fun j hj _ => hj.1) (fun x hx => by
      rcases List.mem_cons.1 hx with rfl | hx
      · exact ha8
      · rw [List.mem_singleton.1 hx]; exact hb8) (show 1 ≤ 2 by decide) (show 2 ≤ 1000 by decide))
    have hB10' := Lib.hid hB10
    have k10' := Lib.hid k10
    have hR10' := Lib.hid hR10
    clear hb10 hB10 k10 hR10 own10 T9 e6 e9
    go_wp2_with fail
    refine Gr.out.mono ?_
    rintro e w11 ⟨cs11, rfl, hC11, hb11⟩
    obtain ⟨Q11, p11, n11, c11, rfl⟩ := hC11.open_
    have hB11 := hB10'.out.below hb11 hB10'.out.lt
    have k11 := Lib.hid (k10'.out.step (Keeps.of_below (S := fun _ => False) hb11) fun _ e => e.elim)
    have hR11 := Lib.hid (hR10'.out.later hb11)
    have hC11' := Lib.hid hC11
    have z4 := hB11.cell
    have zf := hB11.frozen
    have hB11' := Lib.hid hB11
    unfold condZ at z4
    have hg7 : Hid (groupR 8 [a, b] = c) := Lib.hid (by rw [hcb'.out]; rfl)
    obtain ⟨gk, hgk⟩ : ∃ gk, groupR 8 [a, b] = gk := ⟨_, rfl⟩
    rw [hgk] at hC11' hg7 ⊢
    clear hC11 hB11 hb11 Gr hB10' k10' hR10' hgk
    go_wp2_with fail
    obtain ⟨W, eW, hBW, hRW, hKW⟩ := rput_cond rfl hB11'.out hR11.out hgR (by omega) (.int .i64 gk.kind) (.int .i64 gk.num) (.string Q11) (.slice p11 n11 c11)
    rw [eW]
    have c6 := hBW.cell
    refine bodyPost_ret (v := .agg #[.int .i64 gk.kind, .int .i64 gk.num, .string Q11, .slice p11 n11 c11]) (by simp [results, Tryz.results13, go_sem, c6]) rfl ?_
    rw [← hg7.out]
    exact ⟨_, rfl, (hC11'.out.keeps hKW fun j hj _ e => by omega).mono fun j hj _ => by omega, hRW, k11.out.step hKW (fun j e => .inr (by omega))⟩
end Go.Proofs.YtdfgbkilaepolaaGreatDoor
