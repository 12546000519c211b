/- Walk: conditions: Size. -/
import Derived.Test.YtfhdecdlkmibmaaDoorCBa
namespace Go.Proofs.YtfhdecdlkmibmaaDoor
open Go.RowKit
set_option maxHeartbeats 4000000 in
set_option maxRecDepth 100000 in
theorem size_step (r : CT) (hrec : ∀ q ∈ r.parts, ∀ (cs : List Value) (w : World), CV w cs q → Calls Tryd.prog 11 #[.agg cs.toArray] w fun e w' => e = .returned (.int .i64 q.size) ∧ Below w.heap.size w w')
    (hs : r.size ≤ 1000000000) (cs : List Value) (w : World) (hR : CV w cs r) : Calls Tryd.prog 11 #[.agg cs.toArray] w fun e w' => e = .returned (.int .i64 r.size) ∧ Below w.heap.size w w' := by
  obtain ⟨k, m, a, p, c, ds, rfl, hq, hrow, hlen, hp⟩ := hR.form
  have hsz := size_node r
  have hmax : r.parts.length ≤ 1000000000 := by
    have hl : ∀ ps : List CT, ps.length ≤ sizeLc ps := by
      intro ps
      induction ps with
      | nil => exact Nat.zero_le _
      | cons p ps ih =>
        rw [sizeL_cons, List.length_cons]
        have := size_node p
        omega
    have := hl r.parts
    omega
  have bx := Blk.new w 25 #[.int .i64 k, .int .i64 m, .string a, .slice p r.parts.length c]
  have hb := (Below.refl w.heap.size w).alloc (Nat.le_refl _) (.cells #[.int .i64 k, .int .i64 m, .string a, .slice p r.parts.length c] 25)
  obtain ⟨W, eW⟩ : ∃ W, w.alloc (.cells #[.int .i64 k, .int .i64 m, .string a, .slice p r.parts.length c] 25) = W := ⟨_, rfl⟩
  have hzW : W.heap.size = w.heap.size + 1 := by rw [← eW]; simp
  rw [eW] at bx hb
  have bxc := bx.cell
  rw [hsz] at hs ⊢
  have hrec' := Lib.hid hrec
  have hrow' := Lib.hid hrow
  have hp' := Lib.hid hp
  have hb' := Lib.hid hb
  generalize r.parts = ps at *
  generalize hn : ps.length = n at *
  have hn' := Lib.hid hn
  have hs' := Lib.hid hs
  have hzW' := Lib.hid hzW
  clear hrec hrow hp hb hn hq hlen bx hR hsz hs hzW
  go_enter Tryd.func11, Tryd.ntmps11
  go_wp2_with fail
  go_loopw [3, 9] (fun l i wr => ∃ (j : Nat), j ≤ n ∧ i = .int .i64 j ∧ l = .int .i64 ((1 + sizeLc (ps.take j) : Nat) : Int) ∧ Below w.heap.size w wr ∧ w.heap.size + 1 ≤ wr.heap.size) (fun _ i _ => n - (intOf i).toNat)
  case atStart => exact ⟨0, Nat.zero_le _, rfl, by rfl, hb'.out, by rw [hzW'.out]; exact Nat.le_refl _⟩
  case round =>
    obtain ⟨j, hj, rfl, rfl, hB, hsz⟩ := hrel
    obtain ⟨S, hS⟩ : ∃ S, S = 1 + sizeLc (ps.take j) := ⟨_, rfl⟩
    rw [← hS]
    have hS2 : S ≤ 1000000000 := by have := sizeL_le (ps := ps) j; have := hs'.out; omega
    have hS' := Lib.hid hS
    clear hS
    by_cases hlt : j < n
    · have hjl : j < ps.length := by rw [hn'.out]; exact hlt
      obtain ⟨q, hqq⟩ : ∃ q, ps[j]? = some q := ⟨_, List.getElem?_eq_getElem hjl⟩
      obtain ⟨g, o, rfl, hc1, hcell⟩ := (hrow'.out.below hB).cell (by omega)
      obtain ⟨kq, mq, aq, pq, cq, Rq, -, lg, x0, x1, x2, x3⟩ := CV.part hcell hqq ((hp'.out j _ hqq).later hB)
      have hqm := List.mem_of_getElem? hqq
      obtain ⟨w3, e3⟩ : ∃ w3, wr.alloc (.cells #[.int .i64 kq, .int .i64 mq, .string aq, .slice pq q.parts.length cq] 25) = w3 := ⟨_, rfl⟩
      have hb3 := (Below.refl wr.heap.size wr).alloc (Nat.le_refl _) (.cells #[.int .i64 kq, .int .i64 mq, .string aq, .slice pq q.parts.length cq] 25)
      have bq3 := Blk.new wr 25 #[.int .i64 kq, .int .i64 mq, .string aq, .slice pq q.parts.length cq]
      have hz3 : w3.heap.size = wr.heap.size + 1 := by rw [← e3]; simp
      rw [e3] at hb3 bq3
      have B3 := hB.trans (hb3.mono (by omega))
      have c3 := bq3.cell
      have R3 := Rq.later hb3
      have P := hrec'.out q hqm _ w3 R3
      have P' := Lib.hid P
      have B3' := Lib.hid B3
      have ht := sizeL_take hqq
      have hle := sizeL_le (ps := ps) (j + 1)
      have hT : Hid (S + q.size = 1 + sizeLc (ps.take (j + 1))) := Lib.hid (by rw [hS'.out, ht]; omega)
      have hq2 : S + q.size ≤ 1000000000 := by have := hs'.out; have := hT.out; omega
      clear P B3 hb3 bq3 hB Rq R3 hcell hjl hqq hqm ht hle
      go_wp2_with fail
      refine P'.out.mono ?_
      rintro e w4 ⟨rfl, hb4⟩
      have l4 := hb4.size
      have B4 := B3'.out.trans (hb4.mono (by omega))
      have B4' := Lib.hid B4
      generalize q.size = z at *
      clear B4 hb4 c3 x0 x1 x2 x3
      go_wp2_with fail
      go_roundw
      case rel => exact ⟨j + 1, by omega, by go_num, by rw [← hT.out]; go_num, B4'.out, by omega⟩
      case measure => simp [intOf]; omega
    · obtain rfl : j = n := by omega
      have hS3 : Hid (S = 1 + sizeLc ps) := Lib.hid (by rw [hS'.out, List.take_of_length_le (by rw [hn'.out]; exact Nat.le_refl _)])
      go_wp2_with fail
      go_ret
      exact ⟨by rw [← hS3.out]; rfl, hB⟩
theorem size_calls (r : CT) (hs : r.size ≤ 1000000000) (cs : List Value) (w : World) (hR : CV w cs r) : Calls Tryd.prog 11 #[.agg cs.toArray] w fun e w' => e = .returned (.int .i64 r.size) ∧ Below w.heap.size w w' :=
  size_step r (fun q hq cs w h => size_calls q (by
    have h1 := size_node r
    have hm : ∀ (ps : List CT) (p : CT), p ∈ ps → p.size ≤ sizeLc ps := by
      intro ps
      induction ps with
      | nil => intro p hp; cases hp
      | cons q ps ih =>
        intro p hp
        rw [sizeL_cons]
        rcases List.mem_cons.1 hp with rfl | hp
        · omega
        · have := ih p hp; omega
    have := hm _ _ hq
    omega) cs w h) hs cs w hR
termination_by SizeOf.sizeOf r
decreasing_by exact partc_lt hq
end Go.Proofs.YtfhdecdlkmibmaaDoor
