/- The law QuotaBounds: the walk. -/
import Derived.Test.YtgclancneohpbaaQW6
import Derived.Test.YtgclancneohpbaaQAct
import Derived.Test.YtgclancneohpbaaQBnd
namespace Go.Proofs.Ytgclancneohpbaa
open Go.RowKit
set_option maxHeartbeats 4000000 in
set_option maxRecDepth 100000 in
theorem quotaBounds_calls (rate most : Nat) (l : List QAct) (p : Option Addr) (cap : Nat) (w : World) (hr1 : rate < 65536) (hm1 : most < 65536) (hl : l.length ≤ maxLen) (hh : holdsL w p 4 QAct.cells l) (hf : ∀ x ∈ l, x.fits) :
    Calls Try.prog 4 #[.int .u16 rate, .int .u16 most, .slice p l.length cap] w fun e w' => e = .returned (.bool true) ∧ Below w.heap.size w w' := by
  have hh' := Lib.hid hh
  have hF := fixed38_calls w
  go_enter Try.func4, Try.ntmps4
  go_wp2_with fail
  refine hF.mono ?_
  clear hF
  rintro e w1 ⟨rfl, B1⟩
  have hW := few38_calls l p cap w1 hl (hh.below (Nat.le_refl _) B1) hf
  have hW' := Lib.hid hW
  clear hh hW
  unfold maxLen at hl
  go_wp2_with fail
  refine hW'.out.mono ?_
  clear hW'
  rintro e w2 ⟨rfl, hb2⟩
  have B2 := B1.trans (hb2.mono B1.size)
  have z2 := B2.size
  clear B1 hb2
  cases hfew : qfew l
  · go_wp2
    go_ret
    exact ⟨rfl, B2⟩
  have h80 : l.length ≤ 80 := by
    unfold qfew at hfew
    rw [Bool.and_eq_true] at hfew
    exact of_decide_eq_true hfew.2
  have hN1 := qnew_calls rate most w2 (by omega) (by omega)
  go_wp2_with fail
  refine hN1.mono ?_
  clear hN1
  rintro e w3 ⟨rfl, q3, hb3, hz3⟩
  have B3 := B2.trans (hb3.mono z2)
  have e1 : (Qt.new rate most).rate = rate := by show min _ _ = _; omega
  have e2 : (Qt.new rate most).most = most := by show min _ _ = _; omega
  have I3 : BInv [97] (Qt.new rate most) 0 0 0 0 := .inl ⟨rfl, rfl, rfl, rfl, rfl, rfl⟩
  have hlt2 : w2.heap.size + 1 < w3.heap.size := by omega
  have hGB : w.heap.size ≤ w2.heap.size + 1 := by omega
  generalize w2.heap.size + 1 = G at *
  generalize hMM : w2.heap.size = M at *
  clear hMM hb3 B2
  generalize hlen : l.length = n at *
  have hlen' := Lib.hid hlen
  clear hlen
  go_wp2_with fail
  go_loopw [8, 9, 10, 27] (fun u8 u9 u10 i wr => ∃ (k m taken first now : Nat) (q : Qt), k ≤ n ∧ m ≤ k ∧ i = .int .i64 k ∧ u8 = .int .u64 taken ∧ u9 = .int .u64 first ∧ u10 = .int .u64 now ∧ Qat wr G M m q ∧ q.rate = rate ∧ q.most = most ∧ BInv [97] q k taken first now ∧ Below w.heap.size w wr) (fun _ _ _ i _ => n - (intOf i).toNat)
  case atStart => exact ⟨0, 0, 0, 0, 0, _, Nat.zero_le _, Nat.le_refl _, rfl, rfl, rfl, rfl, q3, e1, e2, I3, B3⟩
  case round =>
    obtain ⟨k, m, taken, first, now, q, hk, hmk, rfl, rfl, rfl, rfl, hq, er, em, hI, hB⟩ := hrel
    clear q3 e1 e2 I3 B3
    by_cases hlt : k < n
    · obtain ⟨x, hx⟩ : ∃ x, l[k]? = some x := ⟨_, List.getElem?_eq_getElem (by have := hlen'.out; omega)⟩
      obtain ⟨a, b, rfl, hab, hbb, q0, q1, q2, q3⟩ := qact_at hh'.out (Nat.le_refl _) hB hx
      have hft := hf x (List.mem_of_getElem? hx)
      have hz := hB.size
      clear hx
      obtain ⟨xa, xc, xn, xt⟩ := x
      obtain ⟨fc, fn, ft⟩ := hft
      simp only at fc fn ft q0 q1 q2 q3
      have hle := hI.now_le
      have hd : xt % 1000 < 1000 := Nat.mod_lt _ (by omega)
      have hn' : xn % 100000 < 100000 := Nat.mod_lt _ (by omega)
      have hA := take_calls q G M m ⟨#[97]⟩ (xn % 100000) (now + xt % 1000) (wr.alloc (.cells #[.bool xa, .string xc, .int .u64 xn, .int .u64 xt] 31)) (hq.keeps (S := fun _ => False) ((Keeps.refl _ _).alloc _) id id) (by unfold maxLen; omega) (by decide) (by omega)
      obtain ⟨I4, hub⟩ := hI.step (xn % 100000) (xt % 1000) (by omega) (by omega)
      have hfl := hI.first_le (xt % 1000)
      have hA2 : Calls Try.prog 18 #[.pointer (some ⟨G, 0, none⟩), .string ⟨#[97]⟩, .int .u64 ((xn : Int) % 100000), .int .u64 ((now : Int) + (xt : Int) % 1000)] (wr.alloc (.cells #[.bool xa, .string xc, .int .u64 xn, .int .u64 xt] 31)) fun e w' => e = .returned (.bool (q.enough [97] (xn % 100000) (now + xt % 1000))) ∧ Qat w' G M (m + 1) (q.take [97] (xn % 100000) (now + xt % 1000)) ∧ Keeps (two G M) (wr.alloc (.cells #[.bool xa, .string xc, .int .u64 xn, .int .u64 xt] 31)) w' := by
        have e1 : ((xn : Int) % 100000) = ((xn % 100000 : Nat) : Int) := by omega
        have e2 : ((now : Int) + (xt : Int) % 1000) = ((now + xt % 1000 : Nat) : Int) := by omega
        rw [e1, e2]
        exact hA
      have hA' := Lib.hid hA2
      have I4' := Lib.hid I4
      clear hA hA2 I4
      rcases Nat.eq_zero_or_pos k with rfl | hk0
      · have ef : bFirst 0 first (now + xt % 1000) = now + xt % 1000 := rfl
        rw [ef, Nat.sub_self, Nat.mul_zero, Nat.add_zero, em] at hub
        go_wp2_with fail
        refine hA'.out.mono ?_
        clear hA' q0 q1 q2 q3
        rintro e w4 ⟨rfl, q4, k4⟩
        have B4 := Keeps.below_step (hB.alloc hz (.cells #[.bool xa, .string xc, .int .u64 xn, .int .u64 xt] 31)) (by simp; omega) k4 (by rintro j (rfl | rfl) <;> assumption)
        clear k4 hB hq
        cases hE : q.enough [97] (xn % 100000) (now + xt % 1000)
        · have et : bTaken [97] q taken (xn % 100000) (now + xt % 1000) = taken := by unfold bTaken; rw [hE]; rfl
          rw [et] at hub
          have I5 := I4'.out
          rw [et, ef] at I5
          have I5' := Lib.hid I5
          clear I5 I4'
          go_wp2
          go_roundw
          case rel => exact ⟨0 + 1, m + 1, taken, (now + xt % 1000), now + xt % 1000, _, by omega, by omega, congrArg (Value.int .i64) (by omega), congrArg (Value.int .u64) (by omega), congrArg (Value.int .u64) (by omega), congrArg (Value.int .u64) (by omega), q4, er, em, I5'.out, B4⟩
          case measure => simp [intOf]; omega
        · have et : bTaken [97] q taken (xn % 100000) (now + xt % 1000) = taken + xn % 100000 := by unfold bTaken; rw [hE]; rfl
          rw [et] at hub
          have I5 := I4'.out
          rw [et, ef] at I5
          have I5' := Lib.hid I5
          clear I5 I4'
          go_wp2
          go_roundw
          case rel => exact ⟨0 + 1, m + 1, (taken + xn % 100000), (now + xt % 1000), now + xt % 1000, _, by omega, by omega, congrArg (Value.int .i64) (by omega), congrArg (Value.int .u64) (by omega), congrArg (Value.int .u64) (by omega), congrArg (Value.int .u64) (by omega), q4, er, em, I5'.out, B4⟩
          case measure => simp [intOf]; omega
      · have hk1 : ((k : Int) == 0) = false := by rw [beq_eq_false_iff_ne]; omega
        go_wp2_with fail
        refine hA'.out.mono ?_
        clear hA' q0 q1 q2 q3
        rintro e w4 ⟨rfl, q4, k4⟩
        have B4 := Keeps.below_step (hB.alloc hz (.cells #[.bool xa, .string xc, .int .u64 xn, .int .u64 xt] 31)) (by simp; omega) k4 (by rintro j (rfl | rfl) <;> assumption)
        clear k4 hB hq
        have ef : bFirst k first (now + xt % 1000) = first := if_neg (by omega)
        rw [ef] at hub hfl
        rw [er, em] at hub
        have hP : rate * (now + xt % 1000 - first) ≤ 65535 * 82000 := Nat.mul_le_mul (by omega) (by omega)
        have hw : IntKind.u64.wrap ((rate : Int) * ((now : Int) + (xt : Int) % 1000 - (first : Int))) = ((rate * (now + xt % 1000 - first) : Nat) : Int) := by
          rw [show ((now : Int) + (xt : Int) % 1000 - (first : Int)) = ((now + xt % 1000 - first : Nat) : Int) by omega, ← Int.natCast_mul, IntKind.wrap_u64]
          omega
        generalize rate * (now + xt % 1000 - first) = P at *
        cases hE : q.enough [97] (xn % 100000) (now + xt % 1000)
        · have et : bTaken [97] q taken (xn % 100000) (now + xt % 1000) = taken := by unfold bTaken; rw [hE]; rfl
          rw [et] at hub
          have I5 := I4'.out
          rw [et, ef] at I5
          have I5' := Lib.hid I5
          clear I5 I4'
          go_wp2
          go_roundw
          case rel => exact ⟨k + 1, m + 1, taken, first, now + xt % 1000, _, by omega, by omega, congrArg (Value.int .i64) (by omega), congrArg (Value.int .u64) (by omega), congrArg (Value.int .u64) (by omega), congrArg (Value.int .u64) (by omega), q4, er, em, I5'.out, B4⟩
          case measure => simp [intOf]; omega
        · have et : bTaken [97] q taken (xn % 100000) (now + xt % 1000) = taken + xn % 100000 := by unfold bTaken; rw [hE]; rfl
          rw [et] at hub
          have I5 := I4'.out
          rw [et, ef] at I5
          have I5' := Lib.hid I5
          clear I5 I4'
          go_wp2
          go_roundw
          case rel => exact ⟨k + 1, m + 1, (taken + xn % 100000), first, now + xt % 1000, _, by omega, by omega, congrArg (Value.int .i64) (by omega), congrArg (Value.int .u64) (by omega), congrArg (Value.int .u64) (by omega), congrArg (Value.int .u64) (by omega), q4, er, em, I5'.out, B4⟩
          case measure => simp [intOf]; omega
    · go_wp2
      go_ret
      exact ⟨rfl, hB⟩
end Go.Proofs.Ytgclancneohpbaa
