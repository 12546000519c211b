/- Walks: conditions: what right asks: a byte, a kind among parts. -/
import Derived.Test.YtfhdecdlkmibmaaDoorCBg
namespace Go.Proofs.YtfhdecdlkmibmaaDoor
open Go.RowKit
theorem quo2_calls (c : UInt8) (w : World) :
    Calls Tryd.prog 44 #[byteV c] w fun e w' => e = .returned (.bool (isQuo c)) ∧ w = w' := by
  unfold byteV
  have h8 := c.toNat_lt
  go_enter Tryd.func44, Tryd.ntmps44
  go_wp2
  all_goals (go_ret; refine ⟨ret_bool ?_, rfl⟩; rw [isQuo_int]; simp_all <;> (try (rw [Bool.eq_iff_iff]; simp)) <;> (try (intros; omega)))
theorem kindIs_calls (q : CT) (cs : List Value) (w : World) (K : Nat) (kind : Int) (hq : CV w cs q) (hK : w.cell? ⟨K, 0, none⟩ = some (.int .i64 kind)) (hKl : K < w.heap.size) :
    Calls Tryd.prog 47 #[.agg cs.toArray, .pointer (some ⟨K, 0, none⟩)] w fun e w' => e = .returned (.bool (q.kind == kind)) ∧ Below w.heap.size w w' := by
  obtain ⟨k, m, a, p, c, ds, rfl, hqf, _⟩ := hq.form
  have hk : q.kind = k := by rw [hqf]; rfl
  rw [hk]
  have hb := Lib.hid ((Below.refl w.heap.size w).alloc (Nat.le_refl _) (.cells #[.int .i64 k, .int .i64 m, .string a, .slice p q.parts.length c] 25))
  clear hqf hk hq
  go_enter Tryd.func47, Tryd.ntmps47
  go_wp2
  go_ret
  exact ⟨rfl, hb.out⟩
def IdxPost (b : Bool) (w : World) (e : Ending) (w' : World) : Prop := ∃ i : Int, e = .returned (.int .i64 i) ∧ (decide (0 ≤ i)) = b ∧ Below w.heap.size w w'
set_option maxHeartbeats 2000000 in
theorem kindIdx_calls (ps : List CT) (ds : List Value) (w : World) (K : Nat) (kind : Int) (p : Option Addr) (c : Nat) (hrow : RowV w (.slice p ps.length c) ps.length ds) (hp : ∀ (i : Nat) (q : CT), ps[i]? = some q → CV w ((ds.drop (i * 4)).take 4) q) (hK : w.cell? ⟨K, 0, none⟩ = some (.int .i64 kind)) (hKl : K < w.heap.size) :
    Calls Tryd.prog 57 #[.slice p ps.length c, .func (.func 47) #[] #[.pointer (some ⟨K, 0, none⟩)]] w (IdxPost (ps.any fun q => q.kind == kind) w) := by
  have hmax := hrow.1
  unfold maxLen at hmax
  have hrow' := Lib.hid hrow
  have hp' := Lib.hid hp
  have hK' := Lib.hid hK
  generalize hn : ps.length = n at *
  have hn' := Lib.hid hn
  clear hrow hp hn hK
  go_enter Tryd.func57, Tryd.ntmps57
  go_wp2_with fail
  go_loopw [8] (fun i wr => ∃ j : Nat, j ≤ n ∧ i = .int .i64 j ∧ (ps.take j).any (fun q => q.kind == kind) = false ∧ Below w.heap.size w wr) (fun i _ => n - (intOf i).toNat)
  case atStart => exact ⟨0, Nat.zero_le _, rfl, by simp, Below.refl _ _⟩
  case round =>
    obtain ⟨j, hj, rfl, hall, hB⟩ := hrel
    have hall' := Lib.hid hall
    have hB' := Lib.hid hB
    have hzB := hB.size
    clear hall
    by_cases hlt : j < n
    · have hjl : j < ps.length := by rw [hn'.out]; exact hlt
      obtain ⟨q, hqq⟩ : ∃ q, ps[j]? = some q := ⟨_, List.getElem?_eq_getElem hjl⟩
      obtain ⟨g, o, rfl, hc1, hcell⟩ := (hrow'.out.below hB).cell (by omega)
      obtain ⟨kq, mq, aq, pq, cq, Rq, -, lg, x0, x1, x2, x3⟩ := CV.part hcell hqq ((hp'.out j _ hqq).later hB)
      have P := kindIs_calls q _ wr K kind Rq (by rw [hB.cell (p := ⟨K, 0, none⟩) hKl]; exact hK'.out) (by omega)
      have P' := Lib.hid P
      have hqq' := Lib.hid hqq
      have htk : (ps.take (j + 1)).any (fun q => q.kind == kind) = (q.kind == kind) := by
        rw [List.take_add_one, hqq]
        simp [hall'.out]
      have htk' := Lib.hid htk
      clear hB P hcell Rq hqq htk hjl
      go_wp2_with fail
      refine P'.out.mono ?_
      rintro e w4 ⟨rfl, hb4⟩
      have B4 := Lib.hid (hB'.out.trans (hb4.mono hzB))
      clear hb4 x0 x1 x2 x3
      cases hkq : (q.kind == kind)
      · rw [hkq] at htk'
        clear hkq
        go_wp2_with fail
        go_roundw
        case rel => exact ⟨j + 1, by omega, by go_num, htk'.out, B4.out⟩
        case measure => simp [intOf]; omega
      · have hany : Hid (ps.any (fun q => q.kind == kind) = true) := Lib.hid (List.any_eq_true.2 ⟨q, List.mem_of_getElem? hqq'.out, hkq⟩)
        clear hkq
        go_wp2_with fail
        go_ret
        exact ⟨(j : Int), rfl, by rw [hany.out]; simp, B4.out⟩
    · obtain rfl : j = n := by omega
      have hany : Hid (ps.any (fun q => q.kind == kind) = false) := Lib.hid (by
        have := hall'.out
        rw [List.take_of_length_le (by rw [hn'.out]; exact Nat.le_refl _)] at this
        exact this)
      clear hB
      go_wp2_with fail
      go_ret
      exact ⟨-1, rfl, by rw [hany.out]; decide, hB'.out⟩
theorem kindHas_calls (ps : List CT) (ds : List Value) (w : World) (K : Nat) (kind : Int) (p : Option Addr) (c : Nat) (hrow : RowV w (.slice p ps.length c) ps.length ds) (hp : ∀ (i : Nat) (q : CT), ps[i]? = some q → CV w ((ds.drop (i * 4)).take 4) q) (hK : w.cell? ⟨K, 0, none⟩ = some (.int .i64 kind)) (hKl : K < w.heap.size) :
    Calls Tryd.prog 46 #[.slice p ps.length c, .func (.func 47) #[] #[.pointer (some ⟨K, 0, none⟩)]] w fun e w' => e = .returned (.bool (ps.any fun q => q.kind == kind)) ∧ Below w.heap.size w w' := by
  have P := Lib.hid (kindIdx_calls ps ds w K kind p c hrow hp hK hKl)
  clear hrow hp hK
  go_enter Tryd.func46, Tryd.ntmps46
  go_wp2_with fail
  refine P.out.mono ?_
  rintro e w4 ⟨i, rfl, hi, hb4⟩
  have hi' := Lib.hid hi
  have hb' := Lib.hid hb4
  clear hi hb4
  go_wp2_with fail
  go_ret
  exact ⟨ret_bool hi'.out, hb'.out⟩
end Go.Proofs.YtfhdecdlkmibmaaDoor
