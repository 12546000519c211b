/- Walk: conditions: not. -/
import Derived.Test.YtfhdecdlkmibmaaDoorCAr
namespace Go.Proofs.YtfhdecdlkmibmaaDoor
open Go.RowKit
theorem gNo_yes {H : Toks → Res} {n : Nat} {l : Toks} (h : isT l notL = true) : gNo H (n + 1) l = match gNo H n l.tail with
      | .error e => .error e
      | .ok (c, m) => .ok (notC c, m) := by
  conv => lhs; unfold gNo
  rw [if_pos h]
  cases gNo H n l.tail <;> rfl
theorem gNo_no {H : Toks → Res} {n : Nat} {l : Toks} (h : isT l notL = false) : gNo H n l = H l := by
  cases n with
  | zero => rfl
  | succ n =>
    conv => lhs; unfold gNo
    rw [if_neg (by rw [h]; decide)]
set_option maxHeartbeats 2000000 in
theorem no_calls {g : Nat} {s : ByteArray} {deep : Int} (H : Toks → Res)
    (hH : ∀ m w, Rd w g s m deep false → Calls Tryd.prog 43 #[.pointer (some ⟨g, 0, none⟩)] w (Told H w g s m deep)) :
    ∀ (n : Nat) (l : Toks) (w : World), l.length = n → Rd w g s l deep false → Calls Tryd.prog 33 #[.pointer (some ⟨g, 0, none⟩)] w (Told (gNo H n) w g s l deep) := by
  intro n
  induction n with
  | zero =>
    intro l w hl h
    obtain ⟨t, r, rfl⟩ := h.ex
    cases hl
  | succ n ih =>
    intro l w hl h
    have hgl := h.lt
    have h5 := h.b5
    have hB := Lib.hid (Blk.new w 25 condZ)
    have hz0' := Lib.hid (alloc_size w (.cells condZ 25))
    have h1 := Lib.hid (h.alloc (.cells condZ 25))
    have k1 := Lib.hid ((Keeps.refl (fun j => j = g) w).alloc (.cells condZ 25))
    have ih' := Lib.hid ih
    have hH' := Lib.hid hH
    have hl' := Lib.hid hl
    clear ih hH h hl
    obtain ⟨w1, e1⟩ : ∃ w1, w.alloc (.cells condZ 25) = w1 := ⟨_, rfl⟩
    rw [e1] at hB hz0' h1 k1
    unfold condZ at e1
    by_cases hx : isT l notL = true
    · have D := Lib.hid (take_yes ⟨#[110, 111, 116]⟩ h1.out hx)
      have hx' := Lib.hid hx
      clear hx
      go_enter Tryd.func33, Tryd.ntmps33
      go_wp2_with fail
      clear e1
      refine D.out.mono ?_
      rintro e w2 ⟨rfl, hR2, k2⟩
      have hB2 := Lib.hid (hB.out.keeps k2 (Nat.ne_of_gt hgl))
      have hK2 := Lib.hid (k1.out.trans k2)
      have hm := isT_len hx'.out
      have hlt : Hid (l.tail.length = n) := Lib.hid (by rw [List.length_tail, hl'.out]; rfl)
      have D2 := Lib.hid (ih'.out l.tail w2 hlt.out hR2)
      clear hR2 k2 D
      go_wp2_with fail
      refine D2.out.mono ?_
      rintro e w3 ⟨cs, c, m, d, b, rfl, hC, hR3, k3, hm1, hm2, hcase⟩
      have hB3 := Lib.hid (hB2.out.keeps k3 (Nat.ne_of_gt hgl))
      have hK3 := Lib.hid (hK2.out.trans k3)
      have hBl := hB2.out.lt
      have hC3 := hC.mono (Q := fun j => w.heap.size < j) fun j hj _ => by omega
      have D3 := Lib.hid (not_calls _ c cs w3 hC3)
      obtain ⟨Q, pp, nn, cc, rfl⟩ := hC3.open_
      have hR3' := Lib.hid hR3
      have hcase' := Lib.hid hcase
      clear hC hC3 hR3 k3 hcase D2
      go_wp2_with fail
      refine D3.out.mono ?_
      rintro e w4 ⟨cs4, rfl, hC4, hb4⟩
      have hz4 := hb4.size
      have hBl3 := hB3.out.lt
      have k4 := Keeps.of_below (S := fun _ => False) hb4
      have hB4 := Lib.hid (hB3.out.keeps k4 id)
      have hK4 := Lib.hid (hK3.out.step k4 fun _ e => e.elim)
      have hR4 := Lib.hid (hR3'.out.same k4)
      have hC4' := Lib.hid (hC4.mono (Q := fun j => w.heap.size < j) fun j hj _ => by rcases hj with h | h <;> omega)
      obtain ⟨Q4, p4, n4, c4, rfl⟩ := hC4.open_
      have b4 := Blk.cell hB4.out
      have bf4 := Blk.frozen hB4.out
      unfold condZ at b4
      clear hC4 hb4 k4 D3
      go_wp2_with fail
      obtain ⟨W, eW, hBW, hRW, hKW⟩ := put_cond rfl hB4.out hR4.out (Nat.ne_of_lt hgl) (Nat.ne_of_lt h5) (.int .i64 (notC c).kind) (.int .i64 (notC c).num) (.string Q4) (.slice p4 n4 c4)
      rw [eW]
      have c5 := hBW.cell
      refine bodyPost_ret (v := .agg #[.int .i64 (notC c).kind, .int .i64 (notC c).num, .string Q4, .slice p4 n4 c4]) (by simp [results, Tryd.results33, go_sem, c5]) rfl ?_
      refine ⟨_, notC c, m, d, b, rfl, (hC4'.out.keeps hKW fun j hj _ e => by omega).mono fun j hj _ => Nat.le_of_lt hj, hRW, hK4.out.step hKW (fun j e => .inr (by omega)), by omega, ?_, ?_⟩
      · show 1 + m.length ≤ _
        omega
      · rw [gNo_yes hx'.out]
        rcases hcase'.out with ⟨h1, h2, h3⟩ | ⟨h1, h2⟩
        · exact .inl ⟨h1, h2, by rw [h3]⟩
        · exact .inr ⟨h1, by rw [h2]⟩
    · have D := Lib.hid (take_no ⟨#[110, 111, 116]⟩ h1.out (.inr (Bool.eq_false_iff.2 hx)))
      have hx' := Lib.hid (Bool.eq_false_iff.2 hx)
      clear hx
      go_enter Tryd.func33, Tryd.ntmps33
      go_wp2_with fail
      clear e1
      refine D.out.mono ?_
      rintro e w' ⟨rfl, rfl⟩
      clear D
      go_wp2_with fail
      refine (hH'.out l w1 h1.out).mono ?_
      rintro e w3 ⟨cs, c, m, d, b, rfl, hC, hR3, k3, hm1, hm2, hcase⟩
      have hB3 := Lib.hid (hB.out.keeps k3 (Nat.ne_of_gt hgl))
      have hK3 := Lib.hid (k1.out.trans k3)
      have hC3 := Lib.hid (hC.mono (Q := fun j => w.heap.size < j) fun j hj _ => by rw [hz0'.out] at hj; exact hj)
      obtain ⟨Q, pp, nn, cc, rfl⟩ := hC.open_
      have hR3' := Lib.hid hR3
      have hcase' := Lib.hid hcase
      have b4 := Blk.cell hB3.out
      have bf4 := Blk.frozen hB3.out
      unfold condZ at b4
      clear hC hR3 k3 hcase
      go_wp2_with fail
      obtain ⟨W, eW, hBW, hRW, hKW⟩ := put_cond rfl hB3.out hR3'.out (Nat.ne_of_lt hgl) (Nat.ne_of_lt h5) (.int .i64 c.kind) (.int .i64 c.num) (.string Q) (.slice pp nn cc)
      rw [eW]
      have c5 := hBW.cell
      refine bodyPost_ret (v := .agg #[.int .i64 c.kind, .int .i64 c.num, .string Q, .slice pp nn cc]) (by simp [results, Tryd.results33, go_sem, c5]) rfl ?_
      refine ⟨_, c, m, d, b, rfl, (hC3.out.keeps hKW fun j hj _ e => by omega).mono fun j hj _ => Nat.le_of_lt hj, hRW, hK3.out.step hKW (fun j e => .inr (by omega)), hm1, hm2, ?_⟩
      rw [gNo_no hx'.out]; exact hcase'.out
end Go.Proofs.YtfhdecdlkmibmaaDoor
