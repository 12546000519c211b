/- Walks: conditions: a reader that is bad reads nothing more. -/
import Derived.Test.YtfhdecdlkmibmaaDoorCA9
namespace Go.Proofs.YtfhdecdlkmibmaaDoor
open Go.RowKit
/-- nothing was read, nothing comes back -/
def Idle (w : World) (g : Nat) (s : ByteArray) (l : Toks) (deep : Int) (e : Ending) (w' : World) : Prop :=
  ∃ cs, e = .returned (.agg cs.toArray) ∧ CAt (fun j => w.heap.size ≤ j) w' cs (leaf 0 0 []) ∧ Rd w' g s l deep true ∧ Keeps (fun j => j = g) w w'
set_option maxHeartbeats 1000000 in
theorem unit_idle {w : World} {g : Nat} {s : ByteArray} {l : Toks} {deep : Int} (h : Rd w g s l deep true) :
    Calls Tryd.prog 70 #[.pointer (some ⟨g, 0, none⟩)] w (Idle w g s l deep) := by
  have hgl := h.lt
  obtain ⟨gf, g5, g6⟩ := h.low
  have hR := Lib.hid (h.alloc (.cells condZ 25))
  have hK := Lib.hid ((Keeps.refl (fun j => j = g) w).alloc (.cells condZ 25))
  unfold condZ at hR hK
  clear h
  go_enter Tryd.func70, Tryd.ntmps70
  go_wp2_with fail
  refine bodyPost_ret (v := .agg #[.int .i64 0, .int .i64 0, .string ⟨#[]⟩, .slice none 0 0]) (by simp [results, Tryd.results70, go_sem]) rfl ?_
  exact ⟨_, rfl, CAt.leaf _ _ 0 0 [], hR.out, hK.out⟩
set_option maxHeartbeats 1000000 in
theorem times_idle {w : World} {g : Nat} {s : ByteArray} {l : Toks} {deep : Int} (h : Rd w g s l deep true) :
    Calls Tryd.prog 62 #[.pointer (some ⟨g, 0, none⟩)] w (Idle w g s l deep) := by
  have hgl := h.lt
  have h5 := h.b5
  have hB := Lib.hid (Blk.new w 25 condZ)
  have hz0' := Lib.hid (alloc_size w (.cells condZ 25))
  have h1 := Lib.hid (h.alloc (.cells condZ 25))
  have k1 := Lib.hid ((Keeps.refl (fun j => j = g) w).alloc (.cells condZ 25))
  clear h
  go_enter Tryd.func62, Tryd.ntmps62
  go_wp2_with fail
  refine (unit_idle h1.out).mono ?_
  rintro e w2 ⟨cs, rfl, hC, hR2, k2⟩
  have hB2 := Lib.hid (hB.out.keeps k2 (Nat.ne_of_gt hgl))
  have hK2 := Lib.hid (k1.out.trans k2)
  have hC2 := Lib.hid (hC.mono (Q := fun j => w.heap.size < j) fun j hj _ => by rw [hz0'.out] at hj; exact hj)
  have hR2' := Lib.hid hR2
  clear hC k2 hR2
  obtain ⟨Q, pp, nn, cc, rfl⟩ := hC2.out.open_
  have hA := hB2.out.lt
  have hV := Lib.hid (Var.new hC2.out hA)
  have hR3 := Lib.hid (hR2'.out.alloc (.cells #[.int .i64 (leaf 0 0 []).kind, .int .i64 (leaf 0 0 []).num, .string Q, .slice pp nn cc] 25))
  have hB3 := Lib.hid (hB2.out.alloc (.cells #[.int .i64 (leaf 0 0 []).kind, .int .i64 (leaf 0 0 []).num, .string Q, .slice pp nn cc] 25))
  have hK3 := Lib.hid (hK2.out.alloc (.cells #[.int .i64 (leaf 0 0 []).kind, .int .i64 (leaf 0 0 []).num, .string Q, .slice pp nn cc] 25))
  obtain ⟨w3, e3⟩ : ∃ w3, w2.alloc (.cells #[.int .i64 (leaf 0 0 []).kind, .int .i64 (leaf 0 0 []).num, .string Q, .slice pp nn cc] 25) = w3 := ⟨_, rfl⟩
  obtain ⟨A, eA⟩ : ∃ A, w2.heap.size = A := ⟨_, rfl⟩
  have hA2 : w.heap.size < A := by omega
  have hV : Hid (Var w A w3 (leaf 0 0 [])) := by
    rw [← e3, ← eA]; exact hV
  rw [e3] at hR3 hB3 hK3
  clear hB2 hK2 hC2 hR2' hB h1 k1 hA
  go_wp2_with fail
  clear e3 eA
  go_loopg [6] 0 (fun _ _ wr => w3 = wr)
  case atStart => rfl
  case round =>
    subst hrel
    obtain ⟨Q, pp, nn, cc, hV1, hV2⟩ := hV.out.open_
    have hV2' := Lib.hid hV2
    have a0 := Blk.cell hV1
    have af := Blk.frozen hV1
    have b0 := Blk.cell hB3.out
    have bf := Blk.frozen hB3.out
    unfold condZ at b0
    clear hV1 hV2
    have D := Lib.hid (take_no ⟨#[42]⟩ hR3.out (.inl rfl))
    go_wp2_with fail
    refine D.out.mono ?_
    rintro e w' ⟨rfl, rfl⟩
    clear D
    go_wp2_with fail
    obtain ⟨W, eW, hBW, hRW, hKW⟩ := put_cond rfl hB3.out hR3.out (Nat.ne_of_lt hgl) (Nat.ne_of_lt h5) (.int .i64 (leaf 0 0 []).kind) (.int .i64 (leaf 0 0 []).num) (.string Q) (.slice pp nn cc)
    rw [eW]
    have c5 := hBW.cell
    refine bodyPost_ret (v := .agg #[.int .i64 (leaf 0 0 []).kind, .int .i64 (leaf 0 0 []).num, .string Q, .slice pp nn cc]) (by simp [results, Tryd.results62, go_sem, c5]) rfl ?_
    exact ⟨_, rfl, (hV2'.out.keeps hKW fun j hj _ e => by omega).mono fun j hj _ => Nat.le_of_lt hj.1, hRW, hK3.out.step hKW (fun j e => .inr (by omega))⟩
set_option maxHeartbeats 1000000 in
theorem sum_idle {w : World} {g : Nat} {s : ByteArray} {l : Toks} {deep : Int} (h : Rd w g s l deep true) :
    Calls Tryd.prog 50 #[.pointer (some ⟨g, 0, none⟩)] w (Idle w g s l deep) := by
  have hgl := h.lt
  have h5 := h.b5
  have hB := Lib.hid (Blk.new w 25 condZ)
  have hz0' := Lib.hid (alloc_size w (.cells condZ 25))
  have h1 := Lib.hid (h.alloc (.cells condZ 25))
  have k1 := Lib.hid ((Keeps.refl (fun j => j = g) w).alloc (.cells condZ 25))
  clear h
  go_enter Tryd.func50, Tryd.ntmps50
  go_wp2_with fail
  refine (times_idle h1.out).mono ?_
  rintro e w2 ⟨cs, rfl, hC, hR2, k2⟩
  have hB2 := Lib.hid (hB.out.keeps k2 (Nat.ne_of_gt hgl))
  have hK2 := Lib.hid (k1.out.trans k2)
  have hC2 := Lib.hid (hC.mono (Q := fun j => w.heap.size < j) fun j hj _ => by rw [hz0'.out] at hj; exact hj)
  have hR2' := Lib.hid hR2
  clear hC k2 hR2
  obtain ⟨Q, pp, nn, cc, rfl⟩ := hC2.out.open_
  have hA := hB2.out.lt
  have hV := Lib.hid (Var.new hC2.out hA)
  have hR3 := Lib.hid (hR2'.out.alloc (.cells #[.int .i64 (leaf 0 0 []).kind, .int .i64 (leaf 0 0 []).num, .string Q, .slice pp nn cc] 25))
  have hB3 := Lib.hid (hB2.out.alloc (.cells #[.int .i64 (leaf 0 0 []).kind, .int .i64 (leaf 0 0 []).num, .string Q, .slice pp nn cc] 25))
  have hK3 := Lib.hid (hK2.out.alloc (.cells #[.int .i64 (leaf 0 0 []).kind, .int .i64 (leaf 0 0 []).num, .string Q, .slice pp nn cc] 25))
  obtain ⟨w3, e3⟩ : ∃ w3, w2.alloc (.cells #[.int .i64 (leaf 0 0 []).kind, .int .i64 (leaf 0 0 []).num, .string Q, .slice pp nn cc] 25) = w3 := ⟨_, rfl⟩
  obtain ⟨A, eA⟩ : ∃ A, w2.heap.size = A := ⟨_, rfl⟩
  have hA2 : w.heap.size < A := by omega
  have hV : Hid (Var w A w3 (leaf 0 0 [])) := by
    rw [← e3, ← eA]; exact hV
  rw [e3] at hR3 hB3 hK3
  clear hB2 hK2 hC2 hR2' hB h1 k1 hA
  go_wp2_with fail
  clear e3 eA
  go_loopg [6] 0 (fun _ _ wr => w3 = wr)
  case atStart => rfl
  case round =>
    subst hrel
    obtain ⟨Q, pp, nn, cc, hV1, hV2⟩ := hV.out.open_
    have hV2' := Lib.hid hV2
    have a0 := Blk.cell hV1
    have af := Blk.frozen hV1
    have b0 := Blk.cell hB3.out
    have bf := Blk.frozen hB3.out
    unfold condZ at b0
    clear hV1 hV2
    have D := Lib.hid (take_no ⟨#[43]⟩ hR3.out (.inl rfl))
    go_wp2_with fail
    refine D.out.mono ?_
    rintro e w' ⟨rfl, rfl⟩
    clear D
    have D := Lib.hid (take_no ⟨#[45]⟩ hR3.out (.inl rfl))
    go_wp2_with fail
    refine D.out.mono ?_
    rintro e w' ⟨rfl, rfl⟩
    clear D
    go_wp2_with fail
    obtain ⟨W, eW, hBW, hRW, hKW⟩ := put_cond rfl hB3.out hR3.out (Nat.ne_of_lt hgl) (Nat.ne_of_lt h5) (.int .i64 (leaf 0 0 []).kind) (.int .i64 (leaf 0 0 []).num) (.string Q) (.slice pp nn cc)
    rw [eW]
    have c5 := hBW.cell
    refine bodyPost_ret (v := .agg #[.int .i64 (leaf 0 0 []).kind, .int .i64 (leaf 0 0 []).num, .string Q, .slice pp nn cc]) (by simp [results, Tryd.results50, go_sem, c5]) rfl ?_
    exact ⟨_, rfl, (hV2'.out.keeps hKW fun j hj _ e => by omega).mono fun j hj _ => Nat.le_of_lt hj.1, hRW, hK3.out.step hKW (fun j e => .inr (by omega))⟩
end Go.Proofs.YtfhdecdlkmibmaaDoor
