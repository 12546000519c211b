/- A set of tuples: what putting one in leaves in memory. -/
import Derived.Test.YtaikedlkkjnffaaGreatDoorUS1
import Derived.Test.YtaikedlkkjnffaaGreatDoorUQ2
namespace Go.Proofs.YtaikedlkkjnffaaGreatDoor
open Go.RowKit
/-- a slice of a slice, kept shut -/
def dsl (t : TypeId) (x : Value) (lo hi mx : Option Value) : Sem Value := Instr.sliceAt t x lo hi mx
theorem dsl_op (t : TypeId) (x : Value) (lo hi mx : Option Value) : Instr.sliceAt t x lo hi mx = dsl t x lo hi mx := rfl
theorem TOwn.mono {B B' : Nat} {w : World} {v : Value} {l : List Tup} (h : TOwn B w v l) (hb : B' ≤ B) : TOwn B' w v l := by
  obtain ⟨h1, h2 | ⟨g, cap, cur, h2, h3, hr⟩⟩ := h
  · exact ⟨h1, .inl h2⟩
  · exact ⟨h1, .inr ⟨g, cap, cur, h2, Nat.le_trans hb h3, hr⟩⟩
theorem add_blk {a : Addr} {j : Nat} : (a.add j).block = a.block := by unfold Addr.add; split <;> rfl
/-- what can be appended, from Wd on: m tuples -/
def CanT (Wd : World) (x : Value) (m : Nat) (news : List Tup) : Prop := ∀ W, Below Wd.heap.size Wd W → ∀ v l, l.length ≤ 400 → TOwn Wd.heap.size W v l → ∃ p c w', (dappOp #[22, 22] 22 #[v, x]).run Tryz.prog W = .ok (.slice p (l.length + m) c) w' ∧ TOwn Wd.heap.size w' (.slice p (l.length + m) c) (l ++ news) ∧ Keeps (fun j => v.ownBlock = some j) W w'
theorem canT_nil {Wd : World} : CanT Wd (.slice none 0 0) 0 [] := by
  intro W _ v l hl ho
  obtain ⟨i0, hi, hz0, hz1, hz2⟩ := info_partsT info_tup
  obtain ⟨p, c, rfl⟩ := ho.slice
  refine ⟨p, c, W, ?_, by rw [List.append_nil]; exact ho, Keeps.refl _ _⟩
  exact run_append_owned_none W Wd.heap.size _ _ _ i0 6 Tryz.underlying22 hi _ l.length _ ho
theorem canT_row {Wd : World} {a : Addr} {m c : Nat} {news : List Tup} (hm : news.length = m) (hm2 : m ≤ 400) (ha : m = 0 ∨ a.block < Wd.heap.size) (hc : ∀ j u, (tcells news)[j]? = some u → Wd.cell? (a.add j) = some u) : CanT Wd (.slice (some a) m c) m news := by
  intro W hW v l hl ho
  obtain ⟨i0, hi, hz0, hz1, hz2⟩ := info_partsT info_tup
  obtain ⟨v', w', h2, h3, h4, _, h5⟩ := run_append_own_at (P := Tryz.prog) W Wd.heap.size 22 22 60 i0 (.agg zeroT) 6 96 Tryz.underlying22 hi hz0 hz1 hz2 rfl (by decide) v l.length _ ho a m c (tcells news) (by rw [tcells_len, hm]) (by
    intro j u hj
    rcases ha with ha | ha
    · have : news = [] := List.eq_nil_of_length_eq_zero (by omega)
      rw [this] at hj; simp [tcells] at hj
    · rw [← hc j u hj]
      exact hW.cell (by rw [add_blk]; exact ha)) (tcells_one_cell _) (by unfold maxLen; omega) (by omega) hW.size
  obtain ⟨p, c', rfl⟩ := own_slice h3
  refine ⟨p, c', w', h2, ?_, (Keeps.refl _ W).grown h4 fun k e => .inl e⟩
  rw [← tcells_app] at h3
  unfold TOwn
  rw [List.length_append, hm]
  exact h3
theorem add_zero' (a : Addr) : a.add 0 = a := by unfold Addr.add; rw [if_pos rfl]
theorem low_run (p : Option Addr) (n c i : Nat) (hi : i ≤ c) (W : World) : (dsl 22 (.slice p n c) none (some (.int .i64 i)) none).run Tryz.prog W = .ok (.slice p i c) W := by
  have h1 : (0 : Int) ≤ (i : Int) := by omega
  unfold dsl
  simp [Instr.sliceAt, Instr.slice, Instr.sliceBounds, Instr.sliceBound, run_underlying Tryz.underlying22, Tryz.sizeOf60, go_sem, h1, hi]
theorem high_run (p : Option Addr) (n c i : Nat) (hi : i ≤ n) (W : World) : (dsl 22 (.slice p n c) (some (.int .i64 i)) none none).run Tryz.prog W = .ok (.slice (if c = i then p else p.map (·.add (i * 6))) (n - i) (c - i)) W := by
  have h1 : (0 : Int) ≤ (i : Int) := by omega
  unfold dsl
  simp [Instr.sliceAt, Instr.slice, Instr.sliceBounds, Instr.sliceBound, run_underlying Tryz.underlying22, Tryz.sizeOf60, go_sem, h1, hi]
theorem canT_low {B : Nat} {Wd : World} {p : Option Addr} {c i : Nat} {out : List Tup} (h : TOwn B Wd (.slice p out.length c) out) (hi : i ≤ out.length) (hl : out.length ≤ 400) : CanT Wd (.slice p i c) i (out.take i) := by
  by_cases h0 : out.length = 0
  · obtain rfl : out = [] := List.eq_nil_of_length_eq_zero h0
    obtain rfl : i = 0 := by simpa using hi
    cases p with
    | none =>
      obtain ⟨_, ⟨e, _⟩ | ⟨g, cap, cur, e, _⟩⟩ := h
      · injection e with _ _ e; subst e; exact canT_nil
      · cases e
    | some a => exact canT_row rfl (by omega) (.inl rfl) (fun j u hj => by simp [tcells] at hj)
  · obtain ⟨g, c', hv, _, _, hg, hcell⟩ := h.cells (by omega)
    obtain ⟨rfl, rfl⟩ : p = some ⟨g, 0, none⟩ ∧ c = c' := by injection hv with h1 _ h3; exact ⟨h1, h3⟩
    have hd : (out.take i).length = i := by rw [List.length_take]; omega
    refine canT_row hd (by omega) (.inr hg) (fun j u hj => ?_)
    have hj6 := (List.getElem?_eq_some_iff.1 hj).1
    rw [tcells_len, hd] at hj6
    have hk : j / 6 < out.length := by omega
    have hx : out[j / 6]? = some out[j / 6] := List.getElem?_eq_getElem hk
    have hx2 : (out.take i)[j / 6]? = some out[j / 6] := by rw [List.getElem?_take, if_pos (by omega)]; exact hx
    have e1 := tcells_at (out.take i) (j / 6) (j % 6) _ hx2 (Nat.mod_lt _ (by omega))
    have e2 := hcell (j / 6) (j % 6) _ hx (Nat.mod_lt _ (by omega))
    rw [show j / 6 * 6 + j % 6 = j by omega] at e1 e2
    rw [addr_at, e2, ← e1]
    exact hj
theorem canT_high {B : Nat} {Wd : World} {p : Option Addr} {c i : Nat} {out : List Tup} (h : TOwn B Wd (.slice p out.length c) out) (hi : i ≤ out.length) (hl : out.length ≤ 400) : CanT Wd (.slice (if c = i then p else p.map (·.add (i * 6))) (out.length - i) (c - i)) (out.length - i) (out.drop i) := by
  have hd : (out.drop i).length = out.length - i := List.length_drop
  by_cases h0 : out.length - i = 0
  · have hn : out.drop i = [] := List.eq_nil_of_length_eq_zero (by omega)
    rw [h0, hn]
    cases p with
    | none =>
      obtain ⟨_, ⟨e, e2⟩ | ⟨g, cap, cur, e, _⟩⟩ := h
      · injection e with _ _ e
        subst e
        obtain rfl : i = 0 := by omega
        exact canT_nil
      · cases e
    | some a =>
      split
      · exact canT_row rfl (by omega) (.inl rfl) (fun j u hj => by simp [tcells] at hj)
      · exact canT_row rfl (by omega) (.inl rfl) (fun j u hj => by simp [tcells] at hj)
  · obtain ⟨g, c', hv, hnc, _, hg, hcell⟩ := h.cells (by omega)
    obtain ⟨rfl, rfl⟩ : p = some ⟨g, 0, none⟩ ∧ c = c' := by injection hv with h1 _ h3; exact ⟨h1, h3⟩
    rw [if_neg (by omega)]
    show CanT Wd (.slice (some ((⟨g, 0, none⟩ : Addr).add (i * 6))) _ _) _ _
    rw [addr_at]
    refine canT_row hd (by omega) (.inr hg) (fun j u hj => ?_)
    have hj6 := (List.getElem?_eq_some_iff.1 hj).1
    rw [tcells_len, hd] at hj6
    have hk : i + j / 6 < out.length := by omega
    have hx : out[i + j / 6]? = some out[i + j / 6] := List.getElem?_eq_getElem hk
    have hx2 : (out.drop i)[j / 6]? = some out[i + j / 6] := by rw [List.getElem?_drop]; exact hx
    have e1 := tcells_at (out.drop i) (j / 6) (j % 6) _ hx2 (Nat.mod_lt _ (by omega))
    have e2 := hcell (i + j / 6) (j % 6) _ hx (Nat.mod_lt _ (by omega))
    rw [show j / 6 * 6 + j % 6 = j by omega] at e1
    have e3 : (⟨g, i * 6, none⟩ : Addr).add j = ⟨g, (i + j / 6) * 6 + j % 6, none⟩ := by
      unfold Addr.add
      split
      · rename_i h0; subst h0; simp
      · simp; omega
    rw [e3, e2, ← e1]
    exact hj
/-- what is left of three appends -/
structure Three (Wd W1 W2 : World) (v0 x1 x3 : Value) (o i m : Nat) (n1 n3 : List Tup) (t : Tup) (p1 : Option Addr) (c1 : Nat) (w1 : World) (p2 : Option Addr) (c2 : Nat) (w2 : World) (p3 : Option Addr) (c3 : Nat) (w3 : World) : Prop where
  r1 : (dappOp #[22, 22] 22 #[v0, x1]).run Tryz.prog W1 = .ok (.slice p1 i c1) w1
  r2 : (dappOp #[22, 22] 22 #[.slice p1 i c1, .slice (some ⟨o, 0, none⟩) 1 1]).run Tryz.prog W2 = .ok (.slice p2 (i + 1) c2) w2
  r3 : (dappOp #[22, 22] 22 #[.slice p2 (i + 1) c2, x3]).run Tryz.prog w2 = .ok (.slice p3 (i + 1 + m) c3) w3
  b1 : Below Wd.heap.size Wd w1
  b2 : Below Wd.heap.size Wd w2
  b3 : Below Wd.heap.size Wd w3
  own : TOwn Wd.heap.size w3 (.slice p3 (i + 1 + m) c3) (n1 ++ t :: n3)
theorem CanT.go {Wd : World} {x : Value} {m : Nat} {news : List Tup} (h : CanT Wd x m news) {W : World} (hW : Below Wd.heap.size Wd W) {v : Value} {l : List Tup} (hl : l.length ≤ 400) (ho : TOwn Wd.heap.size W v l) : ∃ p c w', (dappOp #[22, 22] 22 #[v, x]).run Tryz.prog W = .ok (.slice p (l.length + m) c) w' ∧ TOwn Wd.heap.size w' (.slice p (l.length + m) c) (l ++ news) ∧ Keeps (fun j => v.ownBlock = some j) W w' ∧ Below Wd.heap.size Wd w' := by
  obtain ⟨p, c, w', h1, h2, h3⟩ := h W hW v l hl ho
  exact ⟨p, c, w', h1, h2, h3, Keeps.below_step hW hW.size h3 fun j e => (ho.lt j e).1⟩
theorem three_one {Wd W1 : World} {v0 x1 x3 : Value} {o i m : Nat} {n1 n3 : List Tup} {t : Tup} (hi : n1.length = i) (hi2 : i ≤ 150) (h0 : Below Wd.heap.size Wd W1) (ho : TOwn Wd.heap.size W1 v0 []) (c1 : CanT Wd x1 i n1) (c3 : CanT Wd x3 m n3)
    (hb : Blk W1 o 60 #[.string t.a, .string t.b, .string t.c, .string t.d, .string t.e, .string t.f]) (hne : v0.ownBlock ≠ some o) : ∃ p1 k1 w1 p2 k2 w2 p3 k3 w3, Three Wd W1 w1 v0 x1 x3 o i m n1 n3 t p1 k1 w1 p2 k2 w2 p3 k3 w3 := by
  obtain ⟨p1, k1, w1, r1, o1, q1, b1⟩ := c1.go h0 (by simp) ho
  rw [show ([] : List Tup).length + i = i by simp] at r1 o1
  rw [List.nil_append] at o1
  have hb1 := hb.keeps q1 hne
  obtain ⟨p2, k2, w2, r2, o2, q2⟩ := o1.app (t := t) b1.size hb1 (by omega)
  rw [hi] at r2 o2
  have b2 := Keeps.below_step b1 b1.size q2 fun j e => (o1.lt j e).1
  obtain ⟨p3, k3, w3, r3, o3, q3, b3⟩ := c3.go b2 (by simp; omega) o2
  rw [show (n1 ++ [t]).length + m = i + 1 + m by simp [hi]] at r3 o3
  rw [List.append_assoc] at o3
  exact ⟨p1, k1, w1, p2, k2, w2, p3, k3, w3, r1, r2, r3, b1, b2, b3, o3⟩
theorem three_late {Wd W1 : World} {v0 x1 x3 : Value} {i m : Nat} {n1 n3 : List Tup} {t : Tup} (hi : n1.length = i) (hi2 : i ≤ 150) (h0 : Below Wd.heap.size Wd W1) (ho : TOwn Wd.heap.size W1 v0 []) (c1 : CanT Wd x1 i n1) (c3 : CanT Wd x3 m n3) :
    ∃ p1 k1 w1 p2 k2 w2 p3 k3 w3, Three Wd W1 (w1.alloc (.cells #[.string t.a, .string t.b, .string t.c, .string t.d, .string t.e, .string t.f] 60)) v0 x1 x3 w1.heap.size i m n1 n3 t p1 k1 w1 p2 k2 w2 p3 k3 w3 := by
  obtain ⟨p1, k1, w1, r1, o1, q1, b1⟩ := c1.go h0 (by simp) ho
  rw [show ([] : List Tup).length + i = i by simp] at r1 o1
  rw [List.nil_append] at o1
  have bA := b1.alloc b1.size (.cells #[.string t.a, .string t.b, .string t.c, .string t.d, .string t.e, .string t.f] 60)
  have oA := o1.later ((Below.refl w1.heap.size w1).alloc (Nat.le_refl _) (.cells #[.string t.a, .string t.b, .string t.c, .string t.d, .string t.e, .string t.f] 60))
  obtain ⟨p2, k2, w2, r2, o2, q2⟩ := oA.app (t := t) bA.size (Blk.new w1 60 #[.string t.a, .string t.b, .string t.c, .string t.d, .string t.e, .string t.f]) (by omega)
  rw [hi] at r2 o2
  have b2 := Keeps.below_step bA bA.size q2 fun j e => (oA.lt j e).1
  obtain ⟨p3, k3, w3, r3, o3, q3, b3⟩ := c3.go b2 (by simp; omega) o2
  rw [show (n1 ++ [t]).length + m = i + 1 + m by simp [hi]] at r3 o3
  rw [List.append_assoc] at o3
  exact ⟨p1, k1, w1, p2, k2, w2, p3, k3, w3, r1, r2, r3, b1, b2, b3, o3⟩
end Go.Proofs.YtaikedlkkjnffaaGreatDoor
