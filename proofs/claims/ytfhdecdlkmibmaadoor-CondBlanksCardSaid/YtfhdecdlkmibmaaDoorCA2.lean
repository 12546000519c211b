/- Walks: conditions: a pair, a not. -/
import Derived.Test.YtfhdecdlkmibmaaDoorProg
import Derived.Test.YtfhdecdlkmibmaaDoorCM1
import Derived.WalkLawsBesides
import Derived.Outline
namespace Go.Proofs.YtfhdecdlkmibmaaDoor
open Go.RowKit
theorem alloc_size (w : World) (o : Obj) : (w.alloc o).heap.size = w.heap.size + 1 := by unfold World.alloc; simp
/-- parts that have just been laid behind one another -/
theorem CAt.row {P : Nat → Prop} {w W : World} {q : Nat} {cs : List Value} {ps : List CT} (hb : Blk W q 25 cs.toArray) (hq : w.heap.size ≤ q) (hps : PartsAt P w cs ps) (hk : Keeps (fun _ => False) w W) (k n : Int) (s : List UInt8) : CAt (fun j => P j ∨ w.heap.size ≤ j) W [.int .i64 k, .int .i64 n, strV s, .slice (some ⟨q, 0, none⟩) ps.length ps.length] (.node k n s ps) := by
  refine .mk (cs := cs) (.inr ⟨q, ps.length, cs.toArray, rfl, Nat.le_refl _, hb, ?_⟩) (fun g hg => ?_) hps.len fun i p hi => ?_
  · intro i u h; simpa using h
  · right
    have : q = g := by simpa [Value.ownBlock] using hg
    omega
  · exact ((hps.part i p hi).keeps hk fun _ _ _ => id).mono fun j hj _ => .inl hj
theorem pair_calls (P : Nat → Prop) (k : Int) (a b : CT) (ca cb : List Value) (w : World) (ha : CAt P w ca a) (hb : CAt P w cb b) :
    Calls Tryd.prog 51 #[.int .i64 k, .agg ca.toArray, .agg cb.toArray] w fun e w' => ∃ cs, e = .returned (.agg cs.toArray) ∧ CAt (fun j => P j ∨ w.heap.size ≤ j) w' cs (pairC k a b) ∧ Below w.heap.size w w' := by
  have hps : PartsAt P w (ca ++ cb) [a, b] := PartsAt.app ha.one hb.one
  have hps' := Lib.hid hps
  clear hps
  obtain ⟨pa, na, xa, rfl, hna⟩ := ha.form
  obtain ⟨pb, nb, xb, rfl, hnb⟩ := hb.form
  clear ha hb
  unfold strV at *
  go_enter Tryd.func51, Tryd.ntmps51
  go_wp2_with fail
  subst hna hnb
  generalize hA : Obj.cells #[Value.int .i64 a.kind, .int .i64 a.num, .string ⟨a.str.toArray⟩, .slice pa a.parts.length xa] 25 = A
  generalize hB : Obj.cells #[Value.int .i64 b.kind, .int .i64 b.num, .string ⟨b.str.toArray⟩, .slice pb b.parts.length xb] 25 = B
  have hk : Keeps (fun _ => False) w ((w.alloc A).alloc B) := ((Keeps.refl _ w).alloc A).alloc B
  have hsz : ((w.alloc A).alloc B).heap.size = w.heap.size + 1 + 1 := by rw [alloc_size, alloc_size]
  generalize (w.alloc A).alloc B = W2 at *
  have hr := Blk.new W2 25 #[.int .i64 k, .int .i64 0, .string ⟨#[]⟩, .slice (some ⟨w.heap.size + 1 + 1 + 1, 0, none⟩) 2 2]
  have hk3 := hk.alloc (.cells #[.int .i64 k, .int .i64 0, .string ⟨#[]⟩, .slice (some ⟨w.heap.size + 1 + 1 + 1, 0, none⟩) 2 2] 25)
  have hsz3 := alloc_size W2 (.cells #[.int .i64 k, .int .i64 0, .string ⟨#[]⟩, .slice (some ⟨w.heap.size + 1 + 1 + 1, 0, none⟩) 2 2] 25)
  rw [hsz] at hr hsz3
  generalize W2.alloc (.cells #[.int .i64 k, .int .i64 0, .string ⟨#[]⟩, .slice (some ⟨w.heap.size + 1 + 1 + 1, 0, none⟩) 2 2] 25) = W3 at *
  have hD := Blk.new W3 25 #[Value.int .i64 a.kind, .int .i64 a.num, .string ⟨a.str.toArray⟩, .slice pa a.parts.length xa, .int .i64 b.kind, .int .i64 b.num, .string ⟨b.str.toArray⟩, .slice pb b.parts.length xb]
  have hr4 := hr.alloc (.cells #[Value.int .i64 a.kind, .int .i64 a.num, .string ⟨a.str.toArray⟩, .slice pa a.parts.length xa, .int .i64 b.kind, .int .i64 b.num, .string ⟨b.str.toArray⟩, .slice pb b.parts.length xb] 25)
  have hk4 := hk3.alloc (.cells #[Value.int .i64 a.kind, .int .i64 a.num, .string ⟨a.str.toArray⟩, .slice pa a.parts.length xa, .int .i64 b.kind, .int .i64 b.num, .string ⟨b.str.toArray⟩, .slice pb b.parts.length xb] 25)
  rw [hsz3] at hD
  generalize W3.alloc (.cells #[Value.int .i64 a.kind, .int .i64 a.num, .string ⟨a.str.toArray⟩, .slice pa a.parts.length xa, .int .i64 b.kind, .int .i64 b.num, .string ⟨b.str.toArray⟩, .slice pb b.parts.length xb] 25) = W4 at *
  have c5 := hr4.cell
  refine bodyPost_ret (v := .agg #[.int .i64 k, .int .i64 0, .string ⟨#[]⟩, .slice (some ⟨w.heap.size + 1 + 1 + 1, 0, none⟩) 2 2]) (by simp [results, Tryd.results51, go_sem, c5]) rfl ?_
  exact ⟨_, rfl, CAt.row (ps := [a, b]) hD (by omega) hps'.out hk4 k 0 [], hk4.below (fun _ _ e => e.elim) (Nat.le_refl _)⟩
theorem not_calls (P : Nat → Prop) (a : CT) (ca : List Value) (w : World) (ha : CAt P w ca a) :
    Calls Tryd.prog 42 #[.agg ca.toArray] w fun e w' => ∃ cs, e = .returned (.agg cs.toArray) ∧ CAt (fun j => P j ∨ w.heap.size ≤ j) w' cs (notC a) ∧ Below w.heap.size w w' := by
  have hps' := Lib.hid ha.one
  obtain ⟨pa, na, xa, rfl, hna⟩ := ha.form
  clear ha
  unfold strV at *
  go_enter Tryd.func42, Tryd.ntmps42
  go_wp2_with fail
  subst hna
  generalize hA : Obj.cells #[Value.int .i64 a.kind, .int .i64 a.num, .string ⟨a.str.toArray⟩, .slice pa a.parts.length xa] 25 = A
  have hk : Keeps (fun _ => False) w (w.alloc A) := (Keeps.refl _ w).alloc A
  have hsz : (w.alloc A).heap.size = w.heap.size + 1 := by rw [alloc_size]
  generalize hW : w.alloc A = W2 at *
  have hr := Blk.new W2 25 #[.int .i64 6, .int .i64 0, .string ⟨#[]⟩, .slice (some ⟨w.heap.size + 1 + 1, 0, none⟩) 1 1]
  have hk3 := hk.alloc (.cells #[.int .i64 6, .int .i64 0, .string ⟨#[]⟩, .slice (some ⟨w.heap.size + 1 + 1, 0, none⟩) 1 1] 25)
  have hsz3 := alloc_size W2 (.cells #[.int .i64 6, .int .i64 0, .string ⟨#[]⟩, .slice (some ⟨w.heap.size + 1 + 1, 0, none⟩) 1 1] 25)
  rw [hsz] at hr hsz3
  generalize W2.alloc (.cells #[.int .i64 6, .int .i64 0, .string ⟨#[]⟩, .slice (some ⟨w.heap.size + 1 + 1, 0, none⟩) 1 1] 25) = W3 at *
  have hD := Blk.new W3 25 #[Value.int .i64 a.kind, .int .i64 a.num, .string ⟨a.str.toArray⟩, .slice pa a.parts.length xa]
  rw [hA] at *
  have hr4 := hr.alloc A
  have hk4 := hk3.alloc A
  rw [hsz3] at hD
  generalize W3.alloc A = W4 at *
  have c5 := hr4.cell
  refine bodyPost_ret (v := .agg #[.int .i64 6, .int .i64 0, .string ⟨#[]⟩, .slice (some ⟨w.heap.size + 1 + 1, 0, none⟩) 1 1]) (by simp [results, Tryd.results42, go_sem, c5]) rfl ?_
  exact ⟨_, rfl, CAt.row (ps := [a]) hD (by omega) hps'.out hk4 6 0 [], hk4.below (fun _ _ e => e.elim) (Nat.le_refl _)⟩
end Go.Proofs.YtfhdecdlkmibmaaDoor
