/- Conditions put behind conditions. -/
import Derived.Test.YtfhdecdlkmibmaaDoorCA8
namespace Go.Proofs.YtfhdecdlkmibmaaDoor
open Go.RowKit
theorem info_cond : (Tryd.prog.info? 25).map (fun i => (i.zero, i.size, i.bytes)) = some (some (.agg #[.int .i64 0, .int .i64 0, .string ⟨#[]⟩, .slice none 0 0]), 4, 56) := by kernel_rfl
theorem info_parts {P : Program} {t : TypeId} {z : Value} {n b : Nat} (h : (P.info? t).map (fun i => (i.zero, i.size, i.bytes)) = some (some z, n, b)) : ∃ i, P.info? t = some i ∧ i.zero = some z ∧ i.size = n ∧ i.bytes = b := by
  cases hi : P.info? t with
  | none => rw [hi] at h; cases h
  | some i =>
    rw [hi] at h
    have := Option.some.inj h
    exact ⟨i, rfl, congrArg (·.1) this, congrArg (·.2.1) this, congrArg (·.2.2) this⟩
section
variable {P : Nat → Prop} {w : World} {cs ds : List Value} {r : CT} {ps : List CT}
theorem CAt.one_cell (h : CAt P w cs r) : ∀ u ∈ cs, u.oneCell' = true := by
  obtain ⟨Q, p, n, c, rfl⟩ := h.open_
  intro u hu
  simp at hu
  rcases hu with rfl | rfl | rfl | rfl <;> rfl
theorem PartsAt.one_cell (h : PartsAt P w cs ps) : ∀ u ∈ cs, u.oneCell' = true := by
  intro u hu
  obtain ⟨j, hj, hju⟩ := List.mem_iff_getElem.1 hu
  have hlt : j / 4 < ps.length := by have := h.len; omega
  have h1 := h.part (j / 4) ps[j / 4] (List.getElem?_eq_getElem hlt)
  refine h1.one_cell u ?_
  rw [List.mem_iff_getElem?]
  refine ⟨j % 4, ?_⟩
  rw [List.getElem?_take_of_lt (Nat.mod_lt _ (by decide)), List.getElem?_drop, show j / 4 * 4 + j % 4 = j by omega, List.getElem?_eq_getElem hj, hju]
end
/-- parts that a walk gathers: their row is its own; no part lies in it, nor in block O, which holds the slice -/
structure Own (O B : Nat) (w : World) (v : Value) (ps : List CT) (cs : List Value) : Prop where
  row : w.ownsRow B 25 4 v ps.length cs
  ne : v.ownBlock ≠ some O
  parts : PartsAt (fun j => B ≤ j ∧ j ≠ O ∧ v.ownBlock ≠ some j) w cs ps
theorem Own.nil (O B : Nat) (w : World) : Own O B w (.slice none 0 0) [] [] := ⟨World.ownsRow_nil _ _ _ _, by simp [Value.ownBlock], .nil⟩
theorem Own.keeps {O B : Nat} {w w' : World} {v : Value} {ps : List CT} {cs : List Value} {S : Nat → Prop} (h : Own O B w v ps cs) (hk : Keeps S w w') (hs : ∀ j, B ≤ j → j ≠ O → j < w.heap.size → ¬ S j) : Own O B w' v ps cs :=
  ⟨own_keeps h.row hk fun j hj => hs j (h.row.lt j hj).1 (fun e => h.ne (e ▸ hj)) (h.row.lt j hj).2, h.ne, h.parts.keeps hk fun j hj hl => hs j hj.1 hj.2.1 hl⟩
theorem Own.new {O B : Nat} {w : World} {ps : List CT} {cs : List Value} {g : Nat} (hb : Blk w g 25 cs.toArray) (hB : B ≤ g) (hO : g ≠ O) (hp : PartsAt (fun j => B ≤ j ∧ j ≠ O ∧ j ≠ g) w cs ps) (hn : ps.length ≤ maxLen) : Own O B w (.slice (some ⟨g, 0, none⟩) ps.length ps.length) ps cs := by
  have hl := hp.len
  refine ⟨⟨hl, .inr ⟨g, ps.length, cs.toArray, rfl, hB, hb, Nat.le_refl _, hn, by simpa using hl, ?_⟩⟩, ?_, ?_⟩
  · show cs.take (ps.length * 4) = cs
    rw [← hl, List.take_length]
  · intro e; exact hO (Option.some.inj e)
  · exact ⟨hp.len, fun i p hi => (hp.part i p hi).mono fun j hj _ => ⟨hj.1, hj.2.1, fun e => hj.2.2 (Option.some.inj e).symm⟩⟩
theorem Own.app_ {O B : Nat} {w : World} {v u : Value} {ps qs : List CT} {cs ds : List Value} (h : Own O B w v ps cs) (hB : B ≤ w.heap.size) (hO : O < w.heap.size) (hu : RowAt w 25 u qs.length ds) (hq : PartsAt (fun j => B ≤ j ∧ j ≠ O ∧ v.ownBlock ≠ some j) w ds qs) (hn : ps.length + qs.length ≤ 1000000000) :
    ∃ p c w', (dappOp #[23, 23] 23 #[v, u]).run Tryd.prog w = .ok (.slice p (ps ++ qs).length c) w' ∧ Own O B w' (.slice p (ps ++ qs).length c) (ps ++ qs) (cs ++ ds) ∧ Keeps (fun j => B ≤ j ∧ j < w.heap.size ∧ v.ownBlock = some j) w w' ∧ ((Value.slice p (ps ++ qs).length c).ownBlock = v.ownBlock ∨ (Value.slice p (ps ++ qs).length c).ownBlock = some w.heap.size) := by
  obtain ⟨i0, hi, hz0, hz1, hz2⟩ := info_parts info_cond
  rcases hu with ⟨rfl, h0⟩ | ⟨g, c, cur, rfl, hc, hl, hcell⟩
  · obtain rfl : qs = [] := List.eq_nil_of_length_eq_zero h0
    obtain rfl : ds = [] := List.eq_nil_of_length_eq_zero (by rw [hq.len]; rfl)
    obtain ⟨p, c, rfl⟩ := own_slice h.row
    refine ⟨p, c, w, ?_, ?_, Keeps.refl _ _, .inl (by cases p <;> rfl)⟩
    · rw [List.append_nil]
      exact run_append_owned_none w B _ _ _ i0 4 Tryd.underlying23 hi _ ps.length _ h.row
    · rw [List.append_nil, List.append_nil]; exact h
  · obtain ⟨v', w', h2, h3, h4, _, h5⟩ := run_append_own_at (P := Tryd.prog) w B 23 23 25 i0 (.agg #[.int .i64 0, .int .i64 0, .string ⟨#[]⟩, .slice none 0 0]) 4 56 Tryd.underlying23 hi hz0 hz1 hz2 rfl (by decide) v ps.length _ h.row ⟨g, 0, none⟩ qs.length c ds hq.len (by
      intro j u hj
      rw [addr_at, hl.cell j]
      exact hcell j u hj) hq.one_cell (by unfold maxLen; omega) (by omega) hB
    obtain ⟨p, c', rfl⟩ := own_slice h3
    have hk : Keeps (fun j => B ≤ j ∧ j < w.heap.size ∧ v.ownBlock = some j) w w' := (Keeps.refl _ w).grown h4 fun k e => .inl ⟨(h.row.lt k e).1, (h.row.lt k e).2, e⟩
    rw [← List.length_append] at h2 h3 h5
    refine ⟨p, c', w', h2, ⟨h3, ?_, ?_⟩, hk, h5⟩
    · rcases h5 with e | e
      · rw [e]; exact h.ne
      · rw [e]; intro e'; have := Option.some.inj e'; omega
    have hP := h.parts.app hq
    refine (hP.mono (Q := fun j => (B ≤ j ∧ j ≠ O ∧ v.ownBlock ≠ some j) ∧ j < w.heap.size) fun j hj hlt => ⟨hj, hlt⟩).keeps hk (fun j hj _ e => hj.1.2.2 e.2.2) |>.mono fun j hj _ => ⟨hj.1.1, hj.1.2.1, ?_⟩
    rcases h5 with e | e
    · rw [e]; exact hj.1.2.2
    · rw [e]; intro e'; have := Option.some.inj e'; omega
theorem Own.app {O B : Nat} {w : World} {v u : Value} {ps qs : List CT} {cs ds : List Value} (h : Own O B w v ps cs) (hB : B ≤ w.heap.size) (hO : O < w.heap.size) (hu : RowAt w 25 u qs.length ds) (hq : PartsAt (fun j => B ≤ j ∧ j ≠ O ∧ v.ownBlock ≠ some j) w ds qs) (hn : ps.length + qs.length ≤ 1000000000) :
    ∃ p c w', (dappOp #[23, 23] 23 #[v, u]).run Tryd.prog w = .ok (.slice p (ps ++ qs).length c) w' ∧ Own O B w' (.slice p (ps ++ qs).length c) (ps ++ qs) (cs ++ ds) ∧ Keeps (fun j => B ≤ j ∧ j < w.heap.size ∧ v.ownBlock = some j) w w' := by
  obtain ⟨p, c, w', h1, h2, h3, _⟩ := h.app_ hB hO hu hq hn
  exact ⟨p, c, w', h1, h2, h3⟩
theorem set4 (a b c d v0 v1 v2 v3 : Value) (rest : List Value) : ∀ cs : List Value, ((((cs ++ a :: b :: c :: d :: rest).set cs.length v0).set (cs.length + 1) v1).set (cs.length + 2) v2).set (cs.length + 3) v3 = cs ++ v0 :: v1 :: v2 :: v3 :: rest
  | [] => rfl
  | h :: t => by
    have := set4 a b c d v0 v1 v2 v3 rest t
    show h :: _ = h :: _
    exact congrArg _ this
/-- a part is laid into its place -/
theorem Own.put {O B q c9 : Nat} {w9 W : World} {acc : List CT} {cs zc : List Value} {z x : CT} {cur : Array Value} {v0 v1 v2 v3 : Value} (own9 : Own O B w9 (.slice (some ⟨q, 0, none⟩) (acc ++ [z]).length c9) (acc ++ [z]) (cs ++ zc)) (hz : zc.length = 4) (hcs : cs.length = acc.length * 4)
    (hq9 : Blk w9 q 25 cur) (hW : Blk W q 25 ((((cur.setIfInBounds (acc.length * 4) v0).setIfInBounds (acc.length * 4 + 1) v1).setIfInBounds (acc.length * 4 + 2) v2).setIfInBounds (acc.length * 4 + 3) v3))
    (hk : Keeps (fun j => j = q ∨ j = O) w9 W) (hx : CAt (fun j => B ≤ j ∧ j ≠ O ∧ j ≠ q) W [v0, v1, v2, v3] x) :
    Own O B W (.slice (some ⟨q, 0, none⟩) (acc ++ [x]).length c9) (acc ++ [x]) (cs ++ [v0, v1, v2, v3]) := by
  obtain ⟨hlen, hr⟩ := own9.row
  have hnn : (acc ++ [z]).length = acc.length + 1 := by simp
  have hnx : (acc ++ [x]).length = acc.length + 1 := by simp
  rcases hr with ⟨e, _⟩ | ⟨g, cap, cur', e, hg, hb, hn, hcap, hsz, htake⟩
  · cases e
  · obtain ⟨rfl, rfl⟩ : q = g ∧ c9 = cap := by injection e with e1 _ e3; exact ⟨congrArg Addr.block (Option.some.inj e1), e3⟩
    obtain rfl : cur' = cur := by
      have := hb.symm.trans hq9
      injection (Option.some.inj this)
    rw [hnn] at htake hn
    refine ⟨⟨by rw [hnx, List.length_append, hcs]; show acc.length * 4 + 4 = _; omega, .inr ⟨q, c9, _, rfl, hg, hW, by rw [hnx]; exact hn, hcap, by simpa using hsz, ?_⟩⟩, own9.ne, ?_⟩
    · rw [hnx]
      match zc, hz with
      | [a, b, c, d], _ =>
        have hcur : cur'.toList = cs ++ a :: b :: c :: d :: cur'.toList.drop ((acc.length + 1) * 4) := by
          have := List.take_append_drop ((acc.length + 1) * 4) cur'.toList
          rw [htake] at this
          exact this.symm.trans (by simp)
        have : (((((cur'.setIfInBounds (acc.length * 4) v0).setIfInBounds (acc.length * 4 + 1) v1).setIfInBounds (acc.length * 4 + 2) v2).setIfInBounds (acc.length * 4 + 3) v3)).toList = cs ++ v0 :: v1 :: v2 :: v3 :: cur'.toList.drop ((acc.length + 1) * 4) := by
          simp only [Array.toList_setIfInBounds]
          conv => lhs; rw [hcur]
          rw [← hcs]
          exact set4 _ _ _ _ _ _ _ _ _ _
        rw [this]
        have e2 : cs ++ v0 :: v1 :: v2 :: v3 :: cur'.toList.drop ((acc.length + 1) * 4) = (cs ++ [v0, v1, v2, v3]) ++ cur'.toList.drop ((acc.length + 1) * 4) := by simp
        rw [e2, List.take_left' (by rw [List.length_append, hcs]; show acc.length * 4 + 4 = _; omega)]
    · have hp : PartsAt (fun j => B ≤ j ∧ j ≠ O ∧ j ≠ q) W cs acc := by
        refine ⟨hcs, fun i p hi => ?_⟩
        have h1 := own9.parts.part i p (by rw [List.getElem?_append_left (by have := List.getElem?_eq_some_iff.1 hi; exact this.1)]; exact hi)
        have hil : i < acc.length := (List.getElem?_eq_some_iff.1 hi).1
        rw [List.drop_append_of_le_length (by omega), List.take_append_of_le_length (by rw [List.length_drop]; omega)] at h1
        exact (h1.mono (Q := fun j => B ≤ j ∧ j ≠ O ∧ j ≠ q) fun j hj _ => ⟨hj.1, hj.2.1, fun e => hj.2.2 (by rw [e]; rfl)⟩).keeps hk fun j hj _ e => by rcases e with e | e; exact hj.2.2 e; exact hj.2.1 e
      have := hp.app hx.one
      exact ⟨this.len, fun i p hi => (this.part i p hi).mono fun j hj _ => ⟨hj.1, hj.2.1, fun e => hj.2.2 (Option.some.inj e).symm⟩⟩
end Go.Proofs.YtfhdecdlkmibmaaDoor
