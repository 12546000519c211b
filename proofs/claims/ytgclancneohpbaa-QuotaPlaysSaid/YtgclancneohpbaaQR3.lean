/- The document's quota: what putting a client in leaves in memory. -/
import Derived.Test.YtgclancneohpbaaQR2
import Derived.Maps.AppendAt
import Derived.Deep.RegionHeld3
namespace Go.Proofs.Ytgclancneohpbaa
open Go.RowKit
theorem info_cl : (Try.prog.info? 40).map (fun i => (i.zero, i.size, i.bytes)) = some (some (.agg #[.string ⟨#[]⟩, .int .u64 0]), 2, 24) := by kernel_rfl
/-- what an append leaves: the value, where it lies -/
structure App (w : World) (base : Nat) (v : Value) (n : Nat) (xs : List Value) (x : Value) (m : Nat) (news : List Value) (v' : Value) (w' : World) : Prop where
  run : (Builtin.append_ #[36, 36] 36 #[v, x]).run Try.prog w = .ok v' w'
  own : w'.ownsRow base 40 2 v' (n + m) (xs ++ news)
  grow : w.grownBy w' v.ownBlock
  lies : v'.ownBlock = v.ownBlock ∨ v'.ownBlock = some w.heap.size
theorem app_some {w : World} {base n : Nat} {v : Value} {xs : List Value} (h : w.ownsRow base 40 2 v n xs) (a : Addr) (m c : Nat) (news : List Value) (hl : news.length = m * 2) (hnews : ∀ j u, news[j]? = some u → w.cell? (a.add j) = some u) (h1 : ∀ u ∈ news, u.oneCell' = true) (hn : n ≤ 1000) (hm : m ≤ 1000) (hb : base ≤ w.heap.size) :
    ∃ v' w', App w base v n xs (.slice (some a) m c) m news v' w' := by
  obtain ⟨i0, hi, hz0, hz1, hz2⟩ := info_parts info_cl
  obtain ⟨v', w', h2, h3, h4, _, h5⟩ := run_append_own_at (P := Try.prog) w base 36 36 40 i0 (.agg #[.string ⟨#[]⟩, .int .u64 0]) 2 24 Try.underlying36 hi hz0 hz1 hz2 rfl (by decide) v n xs h a m c news hl hnews h1 (by unfold maxLen; omega) (by omega) hb
  exact ⟨v', w', h2, h3, h4, h5⟩
theorem app_nil {w : World} {base n : Nat} {v : Value} {xs : List Value} (h : w.ownsRow base 40 2 v n xs) (hn : n ≤ 1000) :
    App w base v n xs (.slice none 0 0) 0 [] v w := by
  refine ⟨?_, by simpa using h, ⟨rfl, rfl, rfl, Nat.le_refl _, fun _ _ _ => rfl⟩, .inl rfl⟩
  obtain ⟨i0, hi, hz0, hz1, hz2⟩ := info_parts info_cl
  obtain ⟨_, ⟨rfl, rfl⟩ | ⟨g, cap, cur, rfl, _, hh, hnc, hcm, hcs, ht⟩⟩ := h
  · simp [Builtin.append_, run_underlying Try.underlying36, sizeOf, typeInfo, hi, Builtin.lenOf, Builtin.firstCells]
  · simp [Builtin.append_, run_underlying Try.underlying36, sizeOf, typeInfo, hi, Builtin.lenOf, Builtin.firstCells, loadCells, hnc, storeCells]
theorem App.below {w w' : World} {base n m : Nat} {v x v' : Value} {xs news : List Value} (h : App w base v n xs x m news v' w') (ho : w.ownsRow base 40 2 v n xs) (hb : base ≤ w.heap.size) : Below base w w' :=
  (Keeps.refl (fun k => v.ownBlock = some k) w |>.grown h.grow (fun k e => .inl (by rw [e]))).below (fun k _ e => (ho.lt k e).1) hb
/-- what can be appended, from Wd on -/
def Can (Wd : World) (x : Value) (m : Nat) (news : List Value) : Prop := ∀ W, Below Wd.heap.size Wd W → ∀ v n xs, n ≤ 400 → W.ownsRow Wd.heap.size 40 2 v n xs → ∃ v' w', App W Wd.heap.size v n xs x m news v' w'
theorem can_nil (Wd : World) : Can Wd (.slice none 0 0) 0 [] := fun W _ v n xs hn ho => ⟨v, W, app_nil ho (by omega)⟩
theorem rcells_one (cs : List (ByteArray × Nat)) : ∀ u ∈ rcells cs, u.oneCell' = true := by
  intro u hu
  unfold rcells at hu
  obtain ⟨c, _, hc⟩ := List.mem_flatMap.1 hu
  simp at hc
  rcases hc with rfl | rfl <;> rfl
theorem rcells_drop (cs : List (ByteArray × Nat)) : ∀ i, rcells (cs.drop i) = (rcells cs).drop (i * 2) := by
  induction cs with
  | nil => intro i; simp [rcells]
  | cons c cs ih =>
    intro i
    cases i with
    | zero => rfl
    | succ i =>
      have e : rcells (c :: cs) = .string c.1 :: .int .u64 c.2 :: rcells cs := rfl
      rw [List.drop_succ_cons, ih i, e, show (i + 1) * 2 = i * 2 + 1 + 1 by omega, List.drop_succ_cons, List.drop_succ_cons]
theorem can_row {Wd : World} {B b n cap : Nat} {cs : List (ByteArray × Nat)} (h : Wd.ownsRow B 40 2 (.slice (some ⟨b, 0, none⟩) n cap) n (rcells cs)) (i m c : Nat) (hm : m ≤ 200) (him : i + m ≤ n) (hl : cs.length = n) : Can Wd (.slice (some ⟨b, i * 2, none⟩) m c) m (rcells ((cs.drop i).take m)) := by
  intro W hW v k xs hk ho
  have hb : b < Wd.heap.size := (h.lt b rfl).2
  refine app_some ho ⟨b, i * 2, none⟩ m c _ ?_ ?_ (rcells_one _) (by omega) (by omega) hW.size
  · rw [rcells_length, List.length_take, List.length_drop]; omega
  · intro j u hj
    have hjl := (List.getElem?_eq_some_iff.1 hj).1
    rw [rcells_length, List.length_take, List.length_drop] at hjl
    have e : (⟨b, i * 2, none⟩ : Addr).add j = ⟨b, i * 2 + j, none⟩ := by
      unfold Addr.add
      split
      · rename_i h0; subst h0; rfl
      · rfl
    rw [e, hW.cell (p := ⟨b, i * 2 + j, none⟩) hb, h.cellAt (i * 2 + j) (by omega)]
    have e2 : (rcells ((cs.drop i).take m))[j]? = (rcells cs)[i * 2 + j]? := by
      have e3 : rcells (cs.drop i) = rcells ((cs.drop i).take m) ++ rcells ((cs.drop i).drop m) := by
        conv => lhs; rw [← List.take_append_drop m (cs.drop i)]
        unfold rcells
        rw [List.flatMap_append]
      have e4 : (rcells (cs.drop i))[j]? = (rcells ((cs.drop i).take m))[j]? := by
        rw [e3, List.getElem?_append_left (by rw [rcells_length, List.length_take, List.length_drop]; omega)]
      rw [← e4, rcells_drop, List.getElem?_drop]
    rw [← e2]
    exact hj
theorem can_one {W : World} {base : Nat} {v : Value} {n : Nat} {xs : List Value} (hb : base ≤ W.heap.size) (ho : W.ownsRow base 40 2 v n xs) (hn : n ≤ 400) {o : Nat} {s : ByteArray} {k : Nat} (h : Blk W o 40 #[.string s, .int .u64 k]) : ∃ v' w', App W base v n xs (.slice (some ⟨o, 0, none⟩) 1 1) 1 [.string s, .int .u64 k] v' w' := by
  refine app_some ho ⟨o, 0, none⟩ 1 1 _ rfl ?_ ?_ (by omega) (by omega) hb
  · intro j u hj
    have e : (⟨o, 0, none⟩ : Addr).add j = ⟨o, j, none⟩ := by
      unfold Addr.add
      split
      · rename_i h0; subst h0; rfl
      · simp
    rw [e, h.cell j, ← hj]
    simp
  · intro u hu
    simp at hu
    rcases hu with rfl | rfl <;> rfl
/-- what is left of three appends -/
structure Three (Wd W1 : World) (v0 x1 x3 : Value) (o i m : Nat) (s : ByteArray) (k : Nat) (n1 n3 : List Value) (v1 v2 v3 : Value) (w1 W2 w2 w3 : World) : Prop where
  r1 : (Builtin.append_ #[36, 36] 36 #[v0, x1]).run Try.prog W1 = .ok v1 w1
  r2 : (Builtin.append_ #[36, 36] 36 #[v1, .slice (some ⟨o, 0, none⟩) 1 1]).run Try.prog W2 = .ok v2 w2
  r3 : (Builtin.append_ #[36, 36] 36 #[v2, x3]).run Try.prog w2 = .ok v3 w3
  b1 : Below Wd.heap.size Wd w1
  b2 : Below Wd.heap.size Wd w2
  b3 : Below Wd.heap.size Wd w3
  own : w3.ownsRow Wd.heap.size 40 2 v3 (i + 1 + m) (n1 ++ [.string s, .int .u64 k] ++ n3)
theorem three_one {Wd W1 : World} {v0 x1 x3 : Value} {o i m k : Nat} {s : ByteArray} {n1 n3 : List Value} (hi : i ≤ 150) (h0 : Below Wd.heap.size Wd W1) (ho : W1.ownsRow Wd.heap.size 40 2 v0 0 []) (c1 : Can Wd x1 i n1) (c3 : Can Wd x3 m n3)
    (hb : Blk W1 o 40 #[.string s, .int .u64 k]) (hne : v0.ownBlock ≠ some o) : ∃ v1 v2 v3 w1 w2 w3, Three Wd W1 v0 x1 x3 o i m s k n1 n3 v1 v2 v3 w1 w1 w2 w3 := by
  obtain ⟨v1, w1, a1⟩ := c1 W1 h0 v0 0 [] (by omega) ho
  have b1 := h0.trans (a1.below ho h0.size)
  have o1 := a1.own
  rw [Nat.zero_add, List.nil_append] at o1
  have hb1 := hb.grown a1.grow (fun e => hne e.symm)
  obtain ⟨v2, w2, a2⟩ := can_one b1.size o1 (by omega) hb1
  have b2 := b1.trans (a2.below o1 b1.size)
  have o2 := a2.own
  obtain ⟨v3, w3, a3⟩ := c3 w2 b2 v2 _ _ (by omega) o2
  exact ⟨v1, v2, v3, w1, w2, w3, a1.run, a2.run, a3.run, b1, b2, b2.trans (a3.below o2 b2.size), a3.own⟩
theorem three_late {Wd W1 : World} {v0 x1 x3 : Value} {i m k : Nat} {s : ByteArray} {n1 n3 : List Value} (hi : i ≤ 150) (h0 : Below Wd.heap.size Wd W1) (ho : W1.ownsRow Wd.heap.size 40 2 v0 0 []) (c1 : Can Wd x1 i n1) (c3 : Can Wd x3 m n3) :
    ∃ v1 v2 v3 w1 w2 w3, Three Wd W1 v0 x1 x3 w1.heap.size i m s k n1 n3 v1 v2 v3 w1 (w1.alloc (.cells #[.string s, .int .u64 k] 40)) w2 w3 := by
  obtain ⟨v1, w1, a1⟩ := c1 W1 h0 v0 0 [] (by omega) ho
  have b1 := h0.trans (a1.below ho h0.size)
  have o1 := a1.own
  rw [Nat.zero_add, List.nil_append] at o1
  have bA := b1.alloc b1.size (.cells #[.string s, .int .u64 k] 40)
  have oA := o1.alloc (.cells #[.string s, .int .u64 k] 40)
  obtain ⟨v2, w2, a2⟩ := can_one bA.size oA (by omega) (Blk.new w1 40 #[.string s, .int .u64 k])
  have b2 := bA.trans (a2.below oA bA.size)
  have o2 := a2.own
  obtain ⟨v3, w3, a3⟩ := c3 w2 b2 v2 _ _ (by omega) o2
  exact ⟨v1, v2, v3, w1, w2, w3, a1.run, a2.run, a3.run, b1, b2, b2.trans (a3.below o2 b2.size), a3.own⟩
/-- an append at a step of a statement that draws its order, by its equation -/
theorem step_app {ops : Array Oper} {o : Oper} {a : Act} {w : World} {K : Act → World → Prop} {Q : Exit → Act → World → Prop} {E : Prop} {v x v' : Value} {w' : World}
    (hr : (Builtin.append_ #[36, 36] 36 #[v, x]).run Try.prog w = .ok v' w') (hgd : o.guard = none) (s y : Operand) (ho : o.op = .call { callee := .builtin .append, args := #[s, y], argTypes := #[36, 36] }) (hty : o.type = 36)
    (hs : a.eval s = v) (hx : a.eval y = x) (h : K (a.put o.dst v') w') :
    if Region.wanted o (yielded ops a.tmps) = true then Oper.wp Try.prog o a w K Q else E := by
  have hw : Region.wanted o (yielded ops a.tmps) = true := by simp [Region.wanted, hgd]
  rw [if_pos hw]
  unfold Oper.wp execOp
  simp only [ho, resolve, invoke, builtin, Sem.run_bind, Sem.run_pure, Result.andThen_ok, List.map_toArray, List.map_cons, List.map_nil, hs, hx, hty, hr]
  exact h
theorem step_eq {ops : Array Oper} {o : Oper} {a : Act} {w : World} {K : Act → World → Prop} {Q : Exit → Act → World → Prop} {E : Prop} {v x v' : Value} {w' : World}
    (hr : (Builtin.append_ #[36, 36] 36 #[v, x]).run Try.prog w = .ok v' w') (hc : o.guard = none ∧ ∃ s y, o.op = .call { callee := .builtin .append, args := #[s, y], argTypes := #[36, 36] } ∧ o.type = 36 ∧ a.eval s = v ∧ a.eval y = x)
    (h : K (a.put o.dst v') w') :
    if Region.wanted o (yielded ops a.tmps) = true then Oper.wp Try.prog o a w K Q else E := by
  obtain ⟨hgd, s, y, ho, hty, hs, hx⟩ := hc
  exact step_app hr hgd s y ho hty hs hx h
/-- an append, kept shut -/
def appOp (tys : Array TypeId) (ty : TypeId) (args : Array Value) : Sem Value := Builtin.append_ tys ty args
theorem app_op (tys : Array TypeId) (ty : TypeId) (args : Array Value) : Builtin.append_ tys ty args = appOp tys ty args := rfl
theorem can_zero {Wd : World} (a : Addr) (c : Nat) : Can Wd (.slice (some a) 0 c) 0 [] := fun W hW v k xs hk ho =>
  app_some ho a 0 c [] rfl (fun j u hj => by simp at hj) (fun u hu => by simp at hu) (by omega) (by omega) hW.size
theorem rcells_put (cs : List (ByteArray × Nat)) (i : Nat) (s : ByteArray) (k : Nat) : rcells (cs.take i) ++ [.string s, .int .u64 k] ++ rcells (cs.drop i) = rcells (cs.take i ++ (s, k) :: cs.drop i) := by
  unfold rcells
  rw [List.flatMap_append, List.flatMap_cons, List.append_assoc]
theorem own_mono {w : World} {base base' : Nat} {e : TypeId} {size : Nat} {v : Value} {n : Nat} {xs : List Value} (h : w.ownsRow base e size v n xs) (hb : base' ≤ base) : w.ownsRow base' e size v n xs := by
  obtain ⟨h1, h2 | ⟨g, cap, cur, h2, h3, hr⟩⟩ := h
  · exact ⟨h1, .inl h2⟩
  · exact ⟨h1, .inr ⟨g, cap, cur, h2, Nat.le_trans hb h3, hr⟩⟩
/-- what is left behind the last store -/
theorem at_end {w wr w3 : World} {B g n cap i : Nat} {v v3 : Value} {r : RQ} {s : ByteArray} (hR : Rat wr B g v r) (hB : Below w.heap.size w wr) (hBw : B ≤ w.heap.size) (hg : g < w.heap.size) (hi : i ≤ r.cs.length) (hb : Below wr.heap.size wr w3) (hn : n = i + 1 + (r.cs.length - i))
    (ho : w3.ownsRow wr.heap.size 40 2 v3 n (rcells (r.cs.take i) ++ [.string s, .int .u64 cap] ++ rcells (r.cs.drop i))) :
    Rat (w3.setCell ⟨g, 3, none⟩ v3) B g v3 { r with cs := r.cs.take i ++ (s, cap) :: r.cs.drop i } ∧ Keeps (fun k => k = g) w (w3.setCell ⟨g, 3, none⟩ v3) ∧ ∀ k, v3.ownBlock = some k → w.heap.size ≤ k := by
  have hz := hB.size
  have hlt : ∀ k, v3.ownBlock = some k → wr.heap.size ≤ k := fun k hk => (ho.lt k hk).1
  have hne : v3.ownBlock ≠ some g := fun e => by have := hlt g e; omega
  rw [rcells_put] at ho
  refine ⟨⟨(hR.keeps (S := fun _ => False) (.of_below hb) id (fun _ _ => id)).blk.set_ 3 _, ?_⟩, ((Keeps.of_below (S := fun k => k = g) (hB.trans (hb.mono hz))).setCell (p := ⟨g, 3, none⟩) (.inl rfl) _), fun k hk => by have := hlt k hk; omega⟩
  have h2 := ownsRow_setCell_other (own_mono ho (by omega : B ≤ wr.heap.size)) hne (a := ⟨g, 3, none⟩) v3
  have hl : (r.cs.take i ++ (s, cap) :: r.cs.drop i).length = n := by rw [List.length_append, List.length_take, List.length_cons, List.length_drop]; omega
  show World.ownsRow _ _ _ _ _ (r.cs.take i ++ (s, cap) :: r.cs.drop i).length _
  rw [hl]
  exact h2
theorem at_len (cs : List (ByteArray × Nat)) (s : ByteArray) (k : Nat) {i : Nat} (hi : i ≤ cs.length) : (cs.take i ++ (s, k) :: cs.drop i).length ≤ cs.length + 1 := by
  rw [List.length_append, List.length_take, List.length_cons, List.length_drop]; omega
theorem at_mem (cs : List (ByteArray × Nat)) (s : ByteArray) (k : Nat) (i : Nat) : ∀ d ∈ cs.take i ++ (s, k) :: cs.drop i, d ∈ cs ∨ d.2 = k := by
  intro d hd
  rcases List.mem_append.1 hd with hd | hd
  · exact .inl (List.mem_of_mem_take hd)
  · rcases List.mem_cons.1 hd with rfl | hd
    · exact .inr rfl
    · exact .inl (List.mem_of_mem_drop hd)
end Go.Proofs.Ytgclancneohpbaa
