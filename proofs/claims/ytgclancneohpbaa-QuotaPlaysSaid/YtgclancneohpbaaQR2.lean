/- Walk: the document's quota: tick. -/
import Derived.Test.YtgclancneohpbaaQR1
import Derived.OneCell
namespace Go.Proofs.Ytgclancneohpbaa
open Go.RowKit
theorem own_shape {w : World} {base size n : Nat} {e : TypeId} {v : Value} {xs : List Value} (h : w.ownsRow base e size v n xs) : ∃ a c, v = .slice a n c := by
  obtain ⟨_, ⟨rfl, rfl⟩ | ⟨g, cap, cur, rfl, _⟩⟩ := h
  · exact ⟨none, 0, rfl⟩
  · exact ⟨_, _, rfl⟩
theorem own_some {w : World} {base size n c : Nat} {e : TypeId} {a : Option Addr} {xs : List Value} (h : w.ownsRow base e size (.slice a n c) n xs) (hn : 0 < n) : ∃ g, a = some ⟨g, 0, none⟩ := by
  obtain ⟨_, ⟨_, rfl⟩ | ⟨g, cap, cur, h1, _⟩⟩ := h
  · omega
  · simp at h1; exact ⟨g, h1.1⟩
structure Rok (r : RQ) : Prop where
  rate : r.rate ≤ 4294967296
  most : r.most ≤ 4294967296
  now : r.now < 18446744073709551616
  each : ∀ c ∈ r.cs, c.2 ≤ r.most
  len : r.cs.length ≤ 100
theorem Rok.upto {r : RQ} (h : Rok r) {t : Nat} (ht : t < 18446744073709551616) (k : Nat) : Rok (r.upto t k) :=
  ⟨h.rate, h.most, ht, fun c hc => by
    rw [upto_cs] at hc
    rcases List.mem_append.1 hc with hc | hc
    · obtain ⟨d, _, rfl⟩ := List.mem_map.1 hc
      exact Nat.min_le_left _ _
    · exact h.each c (List.mem_of_mem_drop hc), by rw [upto_len]; exact h.len⟩
theorem Rok.tick {r : RQ} (h : Rok r) {t : Nat} (ht : t < 18446744073709551616) : Rok (r.tick t) := by
  by_cases hle : t ≤ r.now
  · unfold RQ.tick; rw [if_pos hle]; exact h
  · rw [← upto_all r t hle]; exact h.upto ht _
/-- a client's share is written -/
theorem Rat.store {w : World} {B g n cap b : Nat} {r : RQ} (h : Rat w B g (.slice (some ⟨b, 0, none⟩) n cap) r) {k : Nat} {c : ByteArray × Nat} (hc : r.cs[k]? = some c) (x : Int) (x' : Nat) (hx : x = (x' : Int)) :
    Rat (w.setCell ⟨b, k * 2 + 1, none⟩ (.int .u64 x)) B g (.slice (some ⟨b, 0, none⟩) n cap) { r with cs := r.cs.set k (c.1, x') } := by
  subst hx
  have hne : g ≠ b := fun e => h.ne (by rw [e]; rfl)
  have ho := h.own
  obtain ⟨h1, h2 | ⟨b', cap', cur, h3, hr⟩⟩ := ho
  · obtain ⟨h3, _⟩ := h2; cases h3
  · have e : n = r.cs.length := by simp at h3; exact h3.2.1
    subst e
    have hs := (h.own.stored (k * 2 + 1) (.int .u64 x')).1
    rw [rcells_set r.cs k c x' hc] at hs
    exact ⟨h.blk.far hne _, by show World.ownsRow _ _ _ _ _ (r.cs.set k (c.1, x')).length _; rw [List.length_set]; exact hs⟩
theorem upto_next (r : RQ) (t : Nat) {k : Nat} {c : ByteArray × Nat} (h : r.cs[k]? = some c) (x : Nat) (hx : x = min r.most (c.2 + r.more (t - r.now))) : ({ r.upto t k with cs := (r.upto t k).cs.set k (c.1, x) } : RQ) = r.upto t (k + 1) := by
  subst hx
  rw [upto_step r t h]
  rfl
theorem Rat.drew {w : World} {B g : Nat} {v : Value} {r : RQ} (h : Rat w B g v r) (n : Nat) : Rat (w.drewN n) B g v r := h.keeps (S := fun _ => False) ((Keeps.refl _ _).drewN n) id (fun _ _ => id)
set_option maxHeartbeats 4000000 in
set_option maxRecDepth 100000 in
theorem tick_calls (r : RQ) (B g t : Nat) (v : Value) (w : World) (hr : Rat w B g v r) (hk : Rok r) (ht : t < 18446744073709551616) :
    Calls Try.prog 42 #[.pointer (some ⟨g, 0, none⟩), .int .u64 t] w fun e w' => e = .returned (.tuple #[]) ∧ Rat w' B g v (r.tick t) ∧ Keeps (rset g v) w w' := by
  have hnow := hk.now
  have qc := hr.blk.cell
  have qf := hr.blk.frozen
  by_cases hle : t ≤ r.now
  · have e1 : r.tick t = r := by unfold RQ.tick; rw [if_pos hle]
    have e1' := Lib.hid e1
    clear e1
    go_enter Try.func42, Try.ntmps42
    go_wp2
    refine bodyPost_ret (results_none rfl _ _ _) rfl ?_
    rw [e1'.out]
    exact ⟨rfl, hr, Keeps.refl _ _⟩
  · have e1 := upto_all r t hle
    have e1' := Lib.hid e1
    have hk' := Lib.hid hk
    have hlen := hk.len
    have hrate := hk.rate
    have hmost := hk.most
    obtain ⟨W, eW, hW, kW⟩ : ∃ W, w.setCell ⟨g, 2, none⟩ (.int .u64 t) = W ∧ Rat W B g v (r.upto t 0) ∧ Keeps (rset g v) w W := by
      refine ⟨_, rfl, ⟨?_, ?_⟩, (Keeps.refl (rset g v) w).setCell (p := ⟨g, 2, none⟩) (.inl (.inl rfl)) _⟩
      · rw [upto_zero]; exact hr.blk.set_ 2 _
      · rw [upto_zero]
        exact ownsRow_setCell_other hr.own hr.ne _
    clear e1 hk
    go_enter Try.func42, Try.ntmps42
    obtain ⟨p, cap, rfl⟩ := own_shape hr.own
    have qW := hW.blk.cell
    go_wp2_with fail
    clear eW qc qf hr qW
    go_loopw [28] (fun i wr => ∃ k : Nat, k ≤ r.cs.length ∧ i = .int .i64 k ∧ Rat wr B g (.slice p r.cs.length cap) (r.upto t k) ∧ Keeps (rset g (.slice p r.cs.length cap)) w wr) (fun i _ => r.cs.length - (intOf i).toNat)
    case atStart => exact ⟨0, Nat.zero_le _, rfl, hW, kW⟩
    case round =>
      obtain ⟨k, hk, rfl, hR, hB⟩ := hrel
      clear hW kW
      by_cases hlt : k < r.cs.length
      · obtain ⟨c, hc⟩ : ∃ c, r.cs[k]? = some c := ⟨_, List.getElem?_eq_getElem (by omega)⟩
        have hc1 := upto_at r t hc
        have hcle := hk'.out.each c (List.mem_of_getElem? hc)
        have hown := hR.own
        rw [upto_len] at hown
        obtain ⟨b, rfl⟩ := own_some hown (by omega)
        obtain ⟨d0, d1⟩ := rcells_at _ k c hc1
        have a1 := (hown.cellAt (k * 2 + 1) (by omega)).trans d1
        have af := hown.frozenAt (k * 2 + 1)
        have qc := hR.blk.cell
        have hst : ∀ (n : Nat) (x : Int) (x' : Nat), x = (x' : Int) → x' = min r.most (c.2 + r.more (t - r.now)) → Rat (((wr.drewN n).setCell ⟨b, k * 2 + 1, none⟩ (.int .u64 x))) B g (.slice (some ⟨b, 0, none⟩) r.cs.length cap) (r.upto t (k + 1)) ∧ Keeps (rset g (.slice (some ⟨b, 0, none⟩) r.cs.length cap)) w ((wr.drewN n).setCell ⟨b, k * 2 + 1, none⟩ (.int .u64 x)) := fun n x x' hx hx' => by
          have h1 := (hR.drew n).store hc1 x x' hx
          rw [upto_next r t hc x' hx'] at h1
          exact ⟨h1, (hB.drewN n).setCell (p := ⟨b, k * 2 + 1, none⟩) (.inl (.inr rfl)) _⟩
        have hgb : g ≠ b := fun e => hR.ne (by rw [e]; rfl)
        have e1 : (r.upto t k).rate = r.rate := rfl
        have e2 : (r.upto t k).most = r.most := rfl
        rw [e1, e2] at qc
        have hst' := Lib.hid hst
        clear hst d0 d1 hc1 hown hc e1 e2
        have hM0 : r.rate = 0 → r.more (t - r.now) = 0 := fun h => by unfold RQ.more; rw [if_pos h]
        have hM1 : ¬ r.rate = 0 → t - r.now ≤ r.most / r.rate → r.more (t - r.now) = (t - r.now) * r.rate := fun h h2 => by unfold RQ.more; rw [if_neg h, if_pos h2]
        have hM2 : ¬ r.rate = 0 → ¬ t - r.now ≤ r.most / r.rate → r.more (t - r.now) = r.most := fun h h2 => by unfold RQ.more; rw [if_neg h, if_neg h2]
        generalize r.more (t - r.now) = M at *
        by_cases h0 : r.rate = 0
        · obtain rfl := hM0 h0
          have h0' : ((r.rate : Int) == 0) = true := by rw [beq_iff_eq]; omega
          clear hM0 hM1 hM2
          go_wp2_with fail
          go_region
          go_wp2
          have hs := hst'.out 0 (if c.2 < r.most then (c.2 : Int) else (r.most : Int)) (min r.most (c.2 + 0)) (by split <;> omega) rfl
          go_roundw
          case rel => exact ⟨k + 1, by omega, by go_num, hs.1.drew 1, hs.2.drewN 1⟩
          case measure => simp [intOf]; omega
        · have h0' : ((r.rate : Int) == 0) = false := by rw [beq_eq_false_iff_ne]; omega
          have hdiv : IntKind.u64.wrap ((r.most : Int) / (r.rate : Int)) = ((r.most / r.rate : Nat) : Int) := by
            have h1 : ((r.most / r.rate : Nat) : Int) = (r.most : Int) / (r.rate : Int) := by simp
            have h2 : r.most / r.rate ≤ r.most := Nat.div_le_self _ _
            rw [← h1, IntKind.wrap_u64]
            generalize r.most / r.rate = D at *
            clear h1
            omega
          by_cases hq : t - r.now ≤ r.most / r.rate
          · have hP : (t - r.now) * r.rate ≤ r.most := (Nat.le_div_iff_mul_le (by omega)).1 hq
            have hw : IntKind.u64.wrap (((t : Int) - (r.now : Int)) * (r.rate : Int)) = (((t - r.now) * r.rate : Nat) : Int) := by
              rw [show ((t : Int) - (r.now : Int)) = ((t - r.now : Nat) : Int) by omega, ← Int.natCast_mul, IntKind.wrap_u64]
              omega
            obtain rfl := hM1 h0 hq
            clear hM0 hM1 hM2
            generalize (t - r.now) * r.rate = P at *
            generalize r.most / r.rate = D at *
            have hq1 : (t : Int) - (r.now : Int) ≤ (D : Int) := by omega
            go_wp2_with fail
            go_quiet (fail)
            rename_i nq
            go_wp2_with fail
            go_region
            go_wp2
            have hs := hst'.out (nq + 1) (if (c.2 : Int) + (P : Int) < (r.most : Int) then (c.2 : Int) + (P : Int) else (r.most : Int)) (min r.most (c.2 + P)) (by split <;> omega) rfl
            go_roundw
            case rel => exact ⟨k + 1, by omega, by go_num, hs.1, hs.2⟩
            case measure => simp [intOf]; omega
          · obtain rfl := hM2 h0 hq
            clear hM0 hM1 hM2
            generalize r.most / r.rate = D at *
            have hq1 : ¬ (t : Int) - (r.now : Int) ≤ (D : Int) := by omega
            go_wp2_with fail
            go_quiet (fail)
            rename_i nq
            go_wp2_with fail
            go_region
            go_wp2
            have hs := hst'.out (nq + 1) (r.most : Int) (min r.most (c.2 + r.most)) (by omega) rfl
            go_roundw
            case rel => exact ⟨k + 1, by omega, by go_num, hs.1, hs.2⟩
            case measure => simp [intOf]; omega
      · obtain rfl : k = r.cs.length := by omega
        have hfin := hR
        rw [e1'.out] at hfin
        have hfin' := Lib.hid hfin
        clear hfin hR
        go_wp2
        go_end0
        exact ⟨rfl, hfin'.out, hB⟩
end Go.Proofs.Ytgclancneohpbaa
