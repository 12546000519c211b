/- Walk: conditions: Size. Walks: the document's Size and Parse of conditions. Walks: weigh's order. Walks: which names stand in a condition: walk, Names. -/
import Derived.Test.YtdfgbkilaepolaaGreatDoorPO11
import Derived.Test.YtdfgbkilaepolaaGreatDoorPO08
import Derived.Test.YtdfgbkilaepolaaGreatDoorPO09
import Derived.Test.YtdfgbkilaepolaaGreatDoorPW03
import Derived.Deep.RegionHeld3
import Derived.WalkLawsBesides
import Derived.Test.YtdfgbkilaepolaaGreatDoorPW02
namespace Go.Proofs.YtdfgbkilaepolaaGreatDoor
open Go.RowKit
set_option maxHeartbeats 4000000 in
set_option maxRecDepth 100000 in
theorem size_step (r : CT) (hrec : ∀ q ∈ r.parts, ∀ (cs : List Value) (w : World), CV w cs q → Calls Tryz.prog 49 #[.agg cs.toArray] w fun e w' => e = .returned (.int .i64 q.size) ∧ Below w.heap.size w w')
    (hs : r.size ≤ 1000000000) (cs : List Value) (w : World) (hR : CV w cs r) : Calls Tryz.prog 49 #[.agg cs.toArray] w fun e w' => e = .returned (.int .i64 r.size) ∧ Below w.heap.size w w' := by
  obtain ⟨k, m, a, p, c, ds, rfl, hq, hrow, hlen, hp⟩ := hR.form
  have hsz := size_node r
  have hmax : r.parts.length ≤ 1000000000 := by
    have hl : ∀ ps : List CT, ps.length ≤ sizeLc ps := by
      intro ps
      induction ps with
      | nil => exact Nat.zero_le _
      | cons p ps ih =>
        rw [sizeL_cons, List.length_cons]
        have := size_node p
        omega
    have := hl r.parts
    omega
  have bx := Blk.new w 28 #[.int .i64 k, .int .i64 m, .string a, .slice p r.parts.length c]
  have hb := (Below.refl w.heap.size w).alloc (Nat.le_refl _) (.cells #[.int .i64 k, .int .i64 m, .string a, .slice p r.parts.length c] 28)
  obtain ⟨W, eW⟩ : ∃ W, w.alloc (.cells #[.int .i64 k, .int .i64 m, .string a, .slice p r.parts.length c] 28) = W := ⟨_, rfl⟩
  have hzW : W.heap.size = w.heap.size + 1 := by rw [← eW]; simp
  rw [eW] at bx hb
  have bxc := bx.cell
  rw [hsz] at hs ⊢
  have hrec' := Lib.hid hrec
  have hrow' := Lib.hid hrow
  have hp' := Lib.hid hp
  have hb' := Lib.hid hb
  generalize r.parts = ps at *
  generalize hn : ps.length = n at *
  have hn' := Lib.hid hn
  have hs' := Lib.hid hs
  have hzW' := Lib.hid hzW
  clear hrec hrow hp hb hn hq hlen bx hR hsz hs hzW
  go_enter Tryz.func49, Tryz.ntmps49
  go_wp2_with fail
  go_loopw [3, 9] (fun l i wr => ∃ (j : Nat), j ≤ n ∧ i = .int .i64 j ∧ l = .int .i64 ((1 + sizeLc (ps.take j) : Nat) : Int) ∧ Below w.heap.size w wr ∧ w.heap.size + 1 ≤ wr.heap.size) (fun _ i _ => n - (intOf i).toNat)
  case atStart => exact ⟨0, Nat.zero_le _, rfl, by rfl, hb'.out, by rw [hzW'.out]; exact Nat.le_refl _⟩
  case round =>
    obtain ⟨j, hj, rfl, rfl, hB, hsz⟩ := hrel
    obtain ⟨S, hS⟩ : ∃ S, S = 1 + sizeLc (ps.take j) := ⟨_, rfl⟩
    rw [← hS]
    have hS2 : S ≤ 1000000000 := by have := sizeL_le (ps := ps) j; have := hs'.out; omega
    have hS' := Lib.hid hS
    clear hS
    by_cases hlt : j < n
    · have hjl : j < ps.length := by rw [hn'.out]; exact hlt
      obtain ⟨q, hqq⟩ : ∃ q, ps[j]? = some q := ⟨_, List.getElem?_eq_getElem hjl⟩
      obtain ⟨g, o, rfl, hc1, hcell⟩ := (hrow'.out.below hB).cell (by omega)
      obtain ⟨kq, mq, aq, pq, cq, Rq, -, lg, x0, x1, x2, x3⟩ := CV.part hcell hqq ((hp'.out j _ hqq).later hB)
      have hqm := List.mem_of_getElem? hqq
      obtain ⟨w3, e3⟩ : ∃ w3, wr.alloc (.cells #[.int .i64 kq, .int .i64 mq, .string aq, .slice pq q.parts.length cq] 28) = w3 := ⟨_, rfl⟩
      have hb3 := (Below.refl wr.heap.size wr).alloc (Nat.le_refl _) (.cells #[.int .i64 kq, .int .i64 mq, .string aq, .slice pq q.parts.length cq] 28)
      have bq3 := Blk.new wr 28 #[.int .i64 kq, .int .i64 mq, .string aq, .slice pq q.parts.length cq]
      have hz3 : w3.heap.size = wr.heap.size + 1 := by rw [← e3]; simp
      rw [e3] at hb3 bq3
      have B3 := hB.trans (hb3.mono (by omega))
      have c3 := bq3.cell
      have R3 := Rq.later hb3
      have P := hrec'.out q hqm _ w3 R3
      have P' := Lib.hid P
      have B3' := Lib.hid B3
      have ht := sizeL_take hqq
      have hle := sizeL_le (ps := ps) (j + 1)
      have hT : Hid (S + q.size = 1 + sizeLc (ps.take (j + 1))) := Lib.hid (by rw [hS'.out, ht]; omega)
      have hq2 : S + q.size ≤ 1000000000 := by have := hs'.out; have := hT.out; omega
      clear P B3 hb3 bq3 hB Rq R3 hcell hjl hqq hqm ht hle
      go_wp2_with fail
      refine P'.out.mono ?_
      rintro e w4 ⟨rfl, hb4⟩
      have l4 := hb4.size
      have B4 := B3'.out.trans (hb4.mono (by omega))
      have B4' := Lib.hid B4
      generalize q.size = z at *
      clear B4 hb4 c3 x0 x1 x2 x3
      go_wp2_with fail
      go_roundw
      case rel => exact ⟨j + 1, by omega, by go_num, by rw [← hT.out]; go_num, B4'.out, by omega⟩
      case measure => simp [intOf]; omega
    · obtain rfl : j = n := by omega
      have hS3 : Hid (S = 1 + sizeLc ps) := Lib.hid (by rw [hS'.out, List.take_of_length_le (by rw [hn'.out]; exact Nat.le_refl _)])
      go_wp2_with fail
      go_ret
      exact ⟨by rw [← hS3.out]; rfl, hB⟩
theorem size_calls (r : CT) (hs : r.size ≤ 1000000000) (cs : List Value) (w : World) (hR : CV w cs r) : Calls Tryz.prog 49 #[.agg cs.toArray] w fun e w' => e = .returned (.int .i64 r.size) ∧ Below w.heap.size w w' :=
  size_step r (fun q hq cs w h => size_calls q (by
    have h1 := size_node r
    have hm : ∀ (ps : List CT) (p : CT), p ∈ ps → p.size ≤ sizeLc ps := by
      intro ps
      induction ps with
      | nil => intro p hp; cases hp
      | cons q ps ih =>
        intro p hp
        rw [sizeL_cons]
        rcases List.mem_cons.1 hp with rfl | hp
        · omega
        · have := ih p hp; omega
    have := hm _ _ hq
    omega) cs w h) hs cs w hR
termination_by SizeOf.sizeOf r
decreasing_by exact partc_lt hq
end Go.Proofs.YtdfgbkilaepolaaGreatDoor
namespace Go.Proofs.YtdfgbkilaepolaaGreatDoor
open Go.RowKit
set_option maxHeartbeats 4000000 in
set_option maxRecDepth 100000 in
theorem rsize_step (r : CT) (hrec : ∀ q ∈ r.parts, ∀ (cs : List Value) (w : World), CV w cs q → Calls Tryz.prog 14 #[.agg cs.toArray] w fun e w' => e = .returned (.int .i64 q.size) ∧ Below w.heap.size w w')
    (hs : r.size ≤ 1000000000) (cs : List Value) (w : World) (hR : CV w cs r) : Calls Tryz.prog 14 #[.agg cs.toArray] w fun e w' => e = .returned (.int .i64 r.size) ∧ Below w.heap.size w w' := by
  obtain ⟨k, m, a, p, c, ds, rfl, hq, hrow, hlen, hp⟩ := hR.form
  have hsz := size_node r
  have hmax : r.parts.length ≤ 1000000000 := by
    have hl : ∀ ps : List CT, ps.length ≤ sizeLc ps := by
      intro ps
      induction ps with
      | nil => exact Nat.zero_le _
      | cons p ps ih =>
        rw [sizeL_cons, List.length_cons]
        have := size_node p
        omega
    have := hl r.parts
    omega
  have bx := Blk.new w 28 #[.int .i64 k, .int .i64 m, .string a, .slice p r.parts.length c]
  have hb := (Below.refl w.heap.size w).alloc (Nat.le_refl _) (.cells #[.int .i64 k, .int .i64 m, .string a, .slice p r.parts.length c] 28)
  obtain ⟨W, eW⟩ : ∃ W, w.alloc (.cells #[.int .i64 k, .int .i64 m, .string a, .slice p r.parts.length c] 28) = W := ⟨_, rfl⟩
  have hzW : W.heap.size = w.heap.size + 1 := by rw [← eW]; simp
  rw [eW] at bx hb
  have bxc := bx.cell
  rw [hsz] at hs ⊢
  have hrec' := Lib.hid hrec
  have hrow' := Lib.hid hrow
  have hp' := Lib.hid hp
  have hb' := Lib.hid hb
  generalize r.parts = ps at *
  generalize hn : ps.length = n at *
  have hn' := Lib.hid hn
  have hs' := Lib.hid hs
  have hzW' := Lib.hid hzW
  clear hrec hrow hp hb hn hq hlen bx hR hsz hs hzW
  go_enter Tryz.func14, Tryz.ntmps14
  go_wp2_with fail
  go_loopw [3, 9] (fun l i wr => ∃ (j : Nat), j ≤ n ∧ i = .int .i64 j ∧ l = .int .i64 ((1 + sizeLc (ps.take j) : Nat) : Int) ∧ Below w.heap.size w wr ∧ w.heap.size + 1 ≤ wr.heap.size) (fun _ i _ => n - (intOf i).toNat)
  case atStart => exact ⟨0, Nat.zero_le _, rfl, by rfl, hb'.out, by rw [hzW'.out]; exact Nat.le_refl _⟩
  case round =>
    obtain ⟨j, hj, rfl, rfl, hB, hsz⟩ := hrel
    obtain ⟨S, hS⟩ : ∃ S, S = 1 + sizeLc (ps.take j) := ⟨_, rfl⟩
    rw [← hS]
    have hS2 : S ≤ 1000000000 := by have := sizeL_le (ps := ps) j; have := hs'.out; omega
    have hS' := Lib.hid hS
    clear hS
    by_cases hlt : j < n
    · have hjl : j < ps.length := by rw [hn'.out]; exact hlt
      obtain ⟨q, hqq⟩ : ∃ q, ps[j]? = some q := ⟨_, List.getElem?_eq_getElem hjl⟩
      obtain ⟨g, o, rfl, hc1, hcell⟩ := (hrow'.out.below hB).cell (by omega)
      obtain ⟨kq, mq, aq, pq, cq, Rq, -, lg, x0, x1, x2, x3⟩ := CV.part hcell hqq ((hp'.out j _ hqq).later hB)
      have hqm := List.mem_of_getElem? hqq
      obtain ⟨w3, e3⟩ : ∃ w3, wr.alloc (.cells #[.int .i64 kq, .int .i64 mq, .string aq, .slice pq q.parts.length cq] 28) = w3 := ⟨_, rfl⟩
      have hb3 := (Below.refl wr.heap.size wr).alloc (Nat.le_refl _) (.cells #[.int .i64 kq, .int .i64 mq, .string aq, .slice pq q.parts.length cq] 28)
      have bq3 := Blk.new wr 28 #[.int .i64 kq, .int .i64 mq, .string aq, .slice pq q.parts.length cq]
      have hz3 : w3.heap.size = wr.heap.size + 1 := by rw [← e3]; simp
      rw [e3] at hb3 bq3
      have B3 := hB.trans (hb3.mono (by omega))
      have c3 := bq3.cell
      have R3 := Rq.later hb3
      have P := hrec'.out q hqm _ w3 R3
      have P' := Lib.hid P
      have B3' := Lib.hid B3
      have ht := sizeL_take hqq
      have hle := sizeL_le (ps := ps) (j + 1)
      have hT : Hid (S + q.size = 1 + sizeLc (ps.take (j + 1))) := Lib.hid (by rw [hS'.out, ht]; omega)
      have hq2 : S + q.size ≤ 1000000000 := by have := hs'.out; have := hT.out; omega
      clear P B3 hb3 bq3 hB Rq R3 hcell hjl hqq hqm ht hle
      go_wp2_with fail
      refine P'.out.mono ?_
      rintro e w4 ⟨rfl, hb4⟩
      have l4 := hb4.size
      have B4 := B3'.out.trans (hb4.mono (by omega))
      have B4' := Lib.hid B4
      generalize q.size = z at *
      clear B4 hb4 c3 x0 x1 x2 x3
      go_wp2_with fail
      go_roundw
      case rel => exact ⟨j + 1, by omega, by go_num, by rw [← hT.out]; go_num, B4'.out, by omega⟩
      case measure => simp [intOf]; omega
    · obtain rfl : j = n := by omega
      have hS3 : Hid (S = 1 + sizeLc ps) := Lib.hid (by rw [hS'.out, List.take_of_length_le (by rw [hn'.out]; exact Nat.le_refl _)])
      go_wp2_with fail
      go_ret
      exact ⟨by rw [← hS3.out]; rfl, hB⟩
theorem rsize_calls (r : CT) (hs : r.size ≤ 1000000000) (cs : List Value) (w : World) (hR : CV w cs r) : Calls Tryz.prog 14 #[.agg cs.toArray] w fun e w' => e = .returned (.int .i64 r.size) ∧ Below w.heap.size w w' :=
  rsize_step r (fun q hq cs w h => rsize_calls q (by
    have h1 := size_node r
    have hm : ∀ (ps : List CT) (p : CT), p ∈ ps → p.size ≤ sizeLc ps := by
      intro ps
      induction ps with
      | nil => intro p hp; cases hp
      | cons q ps ih =>
        intro p hp
        rw [sizeL_cons]
        rcases List.mem_cons.1 hp with rfl | hp
        · omega
        · have := ih p hp; omega
    have := hm _ _ hq
    omega) cs w h) hs cs w hR
termination_by SizeOf.sizeOf r
decreasing_by exact partc_lt hq
theorem rg_of {w1 w2 w3 : World} {v : Value} {L : Toks} (ho : rkG.Own w1.heap.size w2 v L) (hn : 0 < L.length) (hwf : WfS L) (hb : Below w2.heap.size w2 w3) {g : Nat} (hg : g = w2.heap.size) (hB : Blk w3 g 47 #[v, .int .i64 0, .bool false, .int .i64 0]) : ∃ gs, RgL w3 g gs L L ∧ w1.heap.size ≤ gs := by
  obtain ⟨gs, cap, hv, hc, h1, h2, hcell⟩ := ho.cells hn
  have hcm : cap ≤ maxLen := by
    rcases ho.2 with ⟨e, _⟩ | ⟨g3, c3, cur, e, _, _, _, q2, _⟩
    · rw [hv] at e; cases e
    · rw [hv] at e
      injection e with _ _ e3
      rw [e3]; exact q2
  subst hv
  refine ⟨gs, ⟨0, rfl, ⟨⟨cap, hB, hc, hcm⟩, by omega, Nat.lt_of_lt_of_le h2 hb.size, fun k t ht j u hu => ?_, hwf, hn⟩⟩, h1⟩
  have hj := (List.getElem?_eq_some_iff.1 hu).1
  have hj4 : j < 4 := hj
  have := rkG_ok.cells_at L k j t ht hj4
  rw [hb.cell (p := ⟨gs, _, none⟩) h2]
  exact hcell _ u (this.trans hu)
set_option maxHeartbeats 8000000 in
set_option maxRecDepth 100000 in
theorem rparse_calls (s : ByteArray) (hs : s.size ≤ 4096) (L : Toks) (hS : ∀ w, Calls Tryz.prog 12 #[.string s] w (SgPost w L)) (hwf : WfS L) (hn : 0 < L.length) (G : Toks → Res) (hG : ∀ g gs, SaidG 13 G g gs L) (c : CT) (t : Tok) (hp : G L = .ok (c, [t])) (ht : t.pos = s.size) (hc : c.size ≤ 256) (w : World) :
    Calls Tryz.prog 7 #[.string s] w fun e w' => ∃ cs, e = .returned (.tuple #[.agg cs.toArray, .int .i64 0, .int .i64 0]) ∧ CAt (fun j => w.heap.size < j) w' cs c ∧ Below w.heap.size w w' := by
  have hi : ¬ (4096 : Int) < (s.size : Int) := by omega
  have hA1 := (Below.refl w.heap.size w).alloc (Nat.le_refl _) (.cells condZ 28)
  have hB := Blk.new w 28 condZ
  have hz0 := alloc_size w (.cells condZ 28)
  obtain ⟨w1, e1⟩ : ∃ w1, w.alloc (.cells condZ 28) = w1 := ⟨_, rfl⟩
  have e1' : w.alloc (.cells #[.int .i64 0, .int .i64 0, .string ⟨#[]⟩, .slice none 0 0] 28) = w1 := e1
  rw [e1] at hA1 hB hz0
  have D := Lib.hid (hS w1)
  have hB' := Lib.hid hB
  have hA1' := Lib.hid hA1
  have hz0' := Lib.hid hz0
  have hwf' := Lib.hid hwf
  have hn' := Lib.hid hn
  have hG' := Lib.hid hG
  have hp' := Lib.hid hp
  have ht' := Lib.hid ht
  have hc' := Lib.hid hc
  clear hS hwf hn hG hp ht hc hA1 hB hz0 e1
  go_enter Tryz.func7, Tryz.ntmps7
  go_wp2_with fail
  refine D.out.mono ?_
  rintro e w2 ⟨p2, c2, rfl, ho2, hb2⟩
  have hB2 := hB'.out.below hb2 hB'.out.lt
  have hb02 := hA1'.out.trans (hb2.mono hA1'.out.size)
  have hA3 := (Below.refl w2.heap.size w2).alloc (Nat.le_refl _) (.cells #[.slice p2 L.length c2, .int .i64 0, .bool false, .int .i64 0] 47)
  have b3 := Blk.new w2 47 #[.slice p2 L.length c2, .int .i64 0, .bool false, .int .i64 0]
  obtain ⟨w3, e3⟩ : ∃ w3, w2.alloc (.cells #[.slice p2 L.length c2, .int .i64 0, .bool false, .int .i64 0] 47) = w3 := ⟨_, rfl⟩
  rw [e3] at hA3 b3
  obtain ⟨g, eg⟩ : ∃ g, w2.heap.size = g := ⟨_, rfl⟩
  rw [eg] at b3
  obtain ⟨gs, hR3, hgs⟩ := rg_of ho2 hn'.out hwf'.out hA3 eg.symm b3
  have hB3 := hB2.below hA3 hB2.lt
  have hb03 := hb02.trans (hA3.mono hb02.size)
  have hgw : w.heap.size < g := by rw [← eg]; exact hB2.lt
  have hgsw : w.heap.size < gs := by have := hz0'.out; omega
  have C := Lib.hid (hG'.out g gs w3 L c [t] hR3 hp'.out)
  have hB3' := Lib.hid hB3
  have hb03' := Lib.hid hb03
  clear ho2 hb2 hB2 hb02 hA3 b3 hR3 hgs hB3 hb03 D hB' hA1'
  have hw3 : w.heap.size < w3.heap.size := hB3'.out.lt
  go_wp2_with fail
  refine C.out.mono ?_
  rintro e w4 ⟨cs, rfl, hC4, hR4, k4⟩
  obtain ⟨Q4, p4, n4, c4, rfl⟩ := hC4.open_
  have hC4 := hC4.mono (Q := fun j => w.heap.size < j) fun j hj _ => Nat.lt_of_lt_of_le hw3 hj
  have hB4 := hB3'.out.keeps k4 (Nat.ne_of_lt hgw)
  have hb04 := Keeps.below_step hb03'.out hb03'.out.size k4 (fun j e => by rw [e]; exact Nat.le_of_lt hgw)
  have hA5 := (Below.refl w4.heap.size w4).alloc (Nat.le_refl _) (.cells #[.int .i64 c.kind, .int .i64 c.num, .string Q4, .slice p4 n4 c4] 28)
  have b5 := Blk.new w4 28 #[.int .i64 c.kind, .int .i64 c.num, .string Q4, .slice p4 n4 c4]
  obtain ⟨w5, e5⟩ : ∃ w5, w4.alloc (.cells #[.int .i64 c.kind, .int .i64 c.num, .string Q4, .slice p4 n4 c4] 28) = w5 := ⟨_, rfl⟩
  rw [e5] at hA5 b5
  have hB5 := hB4.below hA5 hB4.lt
  have hb05 := hb04.trans (hA5.mono hb04.size)
  have hC5 := hC4.later hA5
  have hR5 := hR4.later hA5
  obtain ⟨q, hq, hRq⟩ := hR5
  obtain ⟨t', y, cap, ht2, hy, hc1, hc2, y0, y1, y2, y3, hRB⟩ := hRq.cells
  have hdr := hRq.drop ht2
  rw [← hq] at hdr
  injection hdr with h1 h2
  subst h1
  rw [ht'.out] at y1
  have lg := hRB.lt
  have lgs := hRq.lt
  have hat := hRq.at_
  have ati : (q : Int) < (L.length : Int) := by omega
  have at0 : (0 : Int) ≤ (q : Int) := by omega
  have hll : ¬ (s.size : Int) < (s.size : Int) := by omega
  have bc := hRB.cell
  have b5c := b5.cell
  have hlw : w.heap.size < w5.heap.size := hB5.lt
  have hB5' := Lib.hid hB5
  have hb05' := Lib.hid hb05
  have hC5' := Lib.hid hC5
  have b5' := Lib.hid b5
  unfold maxLen at hc2
  clear hC4 hB4 hb04 hA5 hB5 hb05 hC5 hR4 hq hRq h2 hRB k4 C ht2 hy y0 y2 y3 b5
  go_wp2_with fail
  go_quiet (fail)
  have hB6 := hB5'.out.drewN nq
  have hb6 := bdrewN hb05'.out nq
  have hC6 := hC5'.out.later (bdrewN (Below.refl _ _) nq)
  have b6 := b5'.out.drewN nq
  generalize w5.drewN nq = w6 at *
  have b6c := b6.cell
  have hsz := Lib.hid (rsize_calls c (by have := hc'.out; omega) _ w6 (CV.of hC6 (by have := hc'.out; omega)))
  have hcs : ¬ (256 : Int) < (c.size : Int) := by have := hc'.out; omega
  have hB6' := Lib.hid hB6
  have hb6' := Lib.hid hb6
  have hC6' := Lib.hid hC6
  have b6' := Lib.hid b6
  clear bc b5c y1 hB6 hb6 hC6 b6 e5 e3
  go_wp2_with fail
  refine hsz.out.mono ?_
  rintro e w7 ⟨rfl, hb7⟩
  have hB7 := hB6'.out.below hb7 hB6'.out.lt
  have hb07 := Lib.hid (hb6'.out.trans (hb7.mono hb6'.out.size))
  have hC7 := Lib.hid (hC6'.out.later hb7)
  have b7c := (b6'.out.below hb7 b6'.out.lt).cell
  have z4 := hB7.cell
  have zf := hB7.frozen
  have hB7' := Lib.hid hB7
  unfold condZ at z4
  clear hb7 hB7 hsz b6c hB6' hb6' hC6' b6'
  go_wp2_with fail
  have hk2 : Keeps (fun j => j = w.heap.size) w7 ((((w7.setCell ⟨w.heap.size, 0, none⟩ (.int .i64 c.kind)).setCell ⟨w.heap.size, 1, none⟩ (.int .i64 c.num)).setCell ⟨w.heap.size, 2, none⟩ (.string Q4)).setCell ⟨w.heap.size, 3, none⟩ (.slice p4 n4 c4)) :=
    ((((Keeps.refl (fun j => j = w.heap.size) w7).setCell (p := ⟨w.heap.size, 0, none⟩) (.inl rfl) _).setCell (p := ⟨w.heap.size, 1, none⟩) (.inl rfl) _).setCell (p := ⟨w.heap.size, 2, none⟩) (.inl rfl) _).setCell (p := ⟨w.heap.size, 3, none⟩) (.inl rfl) _
  have hBW : Blk ((((w7.setCell ⟨w.heap.size, 0, none⟩ (.int .i64 c.kind)).setCell ⟨w.heap.size, 1, none⟩ (.int .i64 c.num)).setCell ⟨w.heap.size, 2, none⟩ (.string Q4)).setCell ⟨w.heap.size, 3, none⟩ (.slice p4 n4 c4)) w.heap.size 28 #[.int .i64 c.kind, .int .i64 c.num, .string Q4, .slice p4 n4 c4] := (((hB7'.out.set_ 0 _).set_ 1 _).set_ 2 _).set_ 3 _
  generalize (((w7.setCell ⟨w.heap.size, 0, none⟩ (.int .i64 c.kind)).setCell ⟨w.heap.size, 1, none⟩ (.int .i64 c.num)).setCell ⟨w.heap.size, 2, none⟩ (.string Q4)).setCell ⟨w.heap.size, 3, none⟩ (.slice p4 n4 c4) = W at *
  have c5 := hBW.cell
  refine bodyPost_ret (v := .tuple #[.agg #[.int .i64 c.kind, .int .i64 c.num, .string Q4, .slice p4 n4 c4], .int .i64 0, .int .i64 0]) (by simp [results, Tryz.results7, go_sem, c5]) rfl ?_
  exact ⟨_, rfl, hC7.out.keeps hk2 fun j hj _ e => by omega, Keeps.below_step hb07.out hb07.out.size hk2 fun j e => by rw [e]; exact Nat.le_refl _⟩
end Go.Proofs.YtdfgbkilaepolaaGreatDoor
namespace Go.Proofs.YtdfgbkilaepolaaGreatDoor
open Go.RowKit Go.Maps
theorem isNaN_calls (a : ByteArray) (w : World) : Calls Tryz.prog 82 #[.string a] w fun e w' => e = .returned (.bool false) ∧ w = w' := by
  have h : (a.toList != a.toList) = false := by simp
  go_enter Tryz.func82, Tryz.ntmps82
  go_wp2_with fail
  go_ret
  exact ⟨rfl, rfl⟩
theorem compareS_calls (a b : ByteArray) (w : World) : Calls Tryz.prog 66 #[.string a, .string b] w fun e w' => e = .returned (.int .i64 (Lib.compareBytes a.data.toList b.data.toList)) ∧ w' = w := by
  have hA := isNaN_calls a
  have hB := isNaN_calls b
  rcases cb_three a.data.toList b.data.toList with h | h | h
  · have h1 : Op.bytesLess a.toList b.toList = false := less_n (by rw [h]; decide)
    have h2 : (a.toList == b.toList) = true := eq_y h
    rw [h]
    clear h
    go_enter Tryz.func66, Tryz.ntmps66
    go_wp2_with (go_at_call 82; refine (isNaN_calls _ _).mono ?_; rintro e w1 ⟨rfl, rfl⟩)
    go_ret
    exact ⟨rfl, rfl⟩
  · have h1 : Op.bytesLess a.toList b.toList = true := less_m h
    rw [h]
    clear h
    go_enter Tryz.func66, Tryz.ntmps66
    go_wp2_with (go_at_call 82; refine (isNaN_calls _ _).mono ?_; rintro e w1 ⟨rfl, rfl⟩)
    go_ret
    exact ⟨rfl, rfl⟩
  · have h1 : Op.bytesLess a.toList b.toList = false := less_n (by rw [h]; decide)
    have h2 : (a.toList == b.toList) = false := eq_n (by rw [h]; decide)
    rw [h]
    clear h
    go_enter Tryz.func66, Tryz.ntmps66
    go_wp2_with (go_at_call 82; refine (isNaN_calls _ _).mono ?_; rintro e w1 ⟨rfl, rfl⟩)
    go_ret
    exact ⟨rfl, rfl⟩
def orI (a b : Int) : Int := if a = 0 then b else a
theorem or_calls (a b : Int) (g : Nat) (w : World) (hc : ∀ i, w.cell? ⟨g, i, none⟩ = (#[.int .i64 a, .int .i64 b] : Array Value)[i]?) :
    Calls Tryz.prog 64 #[.slice (some ⟨g, 0, none⟩) 2 2] w fun e w' => e = .returned (.int .i64 (orI a b)) ∧ w' = w := by
  have c0 : w.cell? ⟨g, 0, none⟩ = some (.int .i64 a) := hc 0
  have c1 : w.cell? ⟨g, 1, none⟩ = some (.int .i64 b) := hc 1
  clear hc
  by_cases ha : a = 0
  · have e1 : (a != 0) = false := by simp [ha]
    have hv : orI a b = b := if_pos ha
    rw [hv]
    clear hv
    by_cases hb : b = 0
    · have e2 : (b != 0) = false := by simp [hb]
      have hb' := Lib.hid hb
      clear hb ha
      go_enter Tryz.func64, Tryz.ntmps64
      go_wp2_with fail
      refine wp_loop_rounds 3 ?_
      rw [rounds_succ]
      go_wp2_with fail
      rw [rounds_succ]
      go_wp2_with fail
      rw [rounds_succ]
      go_wp2_with fail
      go_ret
      exact ⟨ret_int hb'.out.symm, rfl⟩
    · have e2 : (b != 0) = true := by simpa using hb
      clear hb ha
      go_enter Tryz.func64, Tryz.ntmps64
      go_wp2_with fail
      refine wp_loop_rounds 2 ?_
      rw [rounds_succ]
      go_wp2_with fail
      rw [rounds_succ]
      go_wp2_with fail
      go_ret
      exact ⟨rfl, rfl⟩
  · have e1 : (a != 0) = true := by simpa using ha
    have hv : orI a b = a := if_neg ha
    rw [hv]
    clear hv ha
    go_enter Tryz.func64, Tryz.ntmps64
    go_wp2_with fail
    refine wp_loop_rounds 1 ?_
    rw [rounds_succ]
    go_wp2_with fail
    go_ret
    exact ⟨rfl, rfl⟩
theorem isNaNI_calls (a : Int) (w : World) : Calls Tryz.prog 81 #[.int .i64 a] w fun e w' => e = .returned (.bool false) ∧ w = w' := by
  go_enter Tryz.func81, Tryz.ntmps81
  go_wp2_with fail
  go_ret
  exact ⟨by simp, rfl⟩
def cmpI (a b : Int) : Int := if a < b then -1 else if b < a then 1 else 0
theorem compareI_calls (a b : Int) (w : World) : Calls Tryz.prog 65 #[.int .i64 a, .int .i64 b] w fun e w' => e = .returned (.int .i64 (cmpI a b)) ∧ w' = w := by
  by_cases h1 : a < b
  · have d1 : decide (a < b) = true := decide_eq_true h1
    have hv : cmpI a b = -1 := by unfold cmpI; rw [if_pos h1]
    rw [hv]
    clear hv
    go_enter Tryz.func65, Tryz.ntmps65
    go_wp2_with (go_at_call 81; refine (isNaNI_calls _ _).mono ?_; rintro e w1 ⟨rfl, rfl⟩)
    go_ret
    exact ⟨rfl, rfl⟩
  · have d1 : decide (a < b) = false := decide_eq_false h1
    by_cases h2 : b < a
    · have d2 : decide (b < a) = true := decide_eq_true h2
      have hv : cmpI a b = 1 := by unfold cmpI; rw [if_neg h1, if_pos h2]
      rw [hv]
      clear hv
      go_enter Tryz.func65, Tryz.ntmps65
      go_wp2_with (go_at_call 81; refine (isNaNI_calls _ _).mono ?_; rintro e w1 ⟨rfl, rfl⟩)
      go_ret
      exact ⟨rfl, rfl⟩
    · have d2 : decide (b < a) = false := decide_eq_false h2
      have hv : cmpI a b = 0 := by unfold cmpI; rw [if_neg h1, if_neg h2]
      rw [hv]
      clear hv
      go_enter Tryz.func65, Tryz.ntmps65
      go_wp2_with (go_at_call 81; refine (isNaNI_calls _ _).mono ?_; rintro e w1 ⟨rfl, rfl⟩)
      go_ret
      exact ⟨rfl, rfl⟩
theorem orderV_eq (x y : Vl) : orI (cmpI x.n y.n) (Lib.compareBytes x.s y.s) = orderV x y := by
  unfold orI cmpI orderV
  by_cases h1 : x.n < y.n
  · rw [if_pos h1, if_pos h1]; rfl
  · rw [if_neg h1, if_neg h1]
    by_cases h2 : y.n < x.n
    · rw [if_pos h2, if_pos h2]; rfl
    · rw [if_neg h2, if_neg h2]; rfl
set_option maxHeartbeats 4000000 in
set_option maxRecDepth 100000 in
theorem order_calls (xk xn yk yn : Int) (xs ys : ByteArray) (w : World) :
    Calls Tryz.prog 36 #[.agg #[.int .i64 xk, .int .i64 xn, .string xs], .agg #[.int .i64 yk, .int .i64 yn, .string ys]] w fun e w' => e = .returned (.int .i64 (orderV ⟨xk, xn, xs.data.toList⟩ ⟨yk, yn, ys.data.toList⟩)) ∧ Below w.heap.size w w' := by
  rw [← orderV_eq]
  simp only
  have b0 := Blk.new w 33 #[.int .i64 xk, .int .i64 xn, .string xs]
  have b1 := Blk.new (w.alloc (.cells #[.int .i64 xk, .int .i64 xn, .string xs] 33)) 33 #[.int .i64 yk, .int .i64 yn, .string ys]
  rw [World.size_alloc] at b1
  have b0' := b0.alloc (.cells #[.int .i64 yk, .int .i64 yn, .string ys] 33)
  have B2 := Lib.hid (((Below.refl w.heap.size w).alloc (Nat.le_refl _) (.cells #[.int .i64 xk, .int .i64 xn, .string xs] 33)).alloc (by simp) (.cells #[.int .i64 yk, .int .i64 yn, .string ys] 33))
  have hz : Hid (((w.alloc (.cells #[.int .i64 xk, .int .i64 xn, .string xs] 33)).alloc (.cells #[.int .i64 yk, .int .i64 yn, .string ys] 33)).heap.size = w.heap.size + 2) := Lib.hid (by simp)
  obtain ⟨X, hX⟩ : ∃ X, cmpI xn yn = X := ⟨_, rfl⟩
  obtain ⟨Y, hY⟩ : ∃ Y, Lib.compareBytes xs.data.toList ys.data.toList = Y := ⟨_, rfl⟩
  have cX := fun w => compareI_calls xn yn w
  have cY := fun w => compareS_calls xs ys w
  rw [hX] at cX ⊢
  rw [hY] at cY ⊢
  clear hX hY
  have cX' := Lib.hid cX
  have cY' := Lib.hid cY
  clear cX cY
  go_enter Tryz.func36, Tryz.ntmps36
  go_wp2_with fail
  obtain ⟨w2, e2⟩ : ∃ w2, (w.alloc (.cells #[.int .i64 xk, .int .i64 xn, .string xs] 33)).alloc (.cells #[.int .i64 yk, .int .i64 yn, .string ys] 33) = w2 := ⟨_, rfl⟩
  rw [e2] at b0' b1 B2 hz ⊢
  have c0 := b0'.cell
  have c1 := b1.cell
  obtain ⟨g, hg⟩ : ∃ g, w.heap.size = g := ⟨_, rfl⟩
  rw [hg] at c0 c1 B2 hz ⊢
  have k0 := Lib.hid ((b0'.alloc (.cells #[.int .i64 X, .int .i64 Y] 3)).drew.cell)
  have k1 := Lib.hid ((b1.alloc (.cells #[.int .i64 X, .int .i64 Y] 3)).drew.cell)
  rw [hg] at k0 k1
  have kO := Lib.hid (or_calls X Y w2.heap.size _ ((Blk.new w2 3 #[.int .i64 X, .int .i64 Y]).drew.cell))
  have BB := Lib.hid (B2.out.trans (((Below.refl w2.heap.size w2).alloc (Nat.le_refl _) (.cells #[.int .i64 X, .int .i64 Y] 3)).drew.mono (by rw [hz.out]; omega)))
  have hg' := Lib.hid hg
  clear b0 b1 b0' e2 hg
  go_region_held3 (fun w' => (∀ i, w'.cell? ⟨g, i, none⟩ = (#[.int .i64 xk, .int .i64 xn, .string xs] : Array Value)[i]?) ∧ (∀ i, w'.cell? ⟨g + 1, i, none⟩ = (#[.int .i64 yk, .int .i64 yn, .string ys] : Array Value)[i]?)) (first | exact ⟨c0, c1⟩ | exact ⟨k0.out, k1.out⟩ | go_keep) (first | (go_at_call 65; (with_reducible refine (cX'.out _).mono ?_); rintro e w3 ⟨rfl, rfl⟩) | (go_at_call 66; (with_reducible refine (cY'.out _).mono ?_); rintro e w3 ⟨rfl, rfl⟩) | (go_at_call 64; (with_reducible refine kO.out.mono ?_); rintro e w3 ⟨rfl, rfl⟩))
  go_wp2_with fail
  go_ret
  exact ⟨rfl, by rw [hg'.out]; exact BB.out⟩
end Go.Proofs.YtdfgbkilaepolaaGreatDoor
namespace Go.Proofs.YtdfgbkilaepolaaGreatDoor
open Go.RowKit Go.Maps
theorem RowV.keepsM {w w' : World} {b n : Nat} {v : Value} {cs : List Value} (h : RowV w v n cs) (hk : Keeps (fun j => j = b) w w') (hM : ∀ i, w.cell? ⟨b, i, none⟩ = none) : RowV w' v n cs := by
  refine ⟨h.1, h.2.imp id ?_⟩
  rintro ⟨g, o, c, rfl, hc, hcell⟩
  refine ⟨g, o, c, rfl, hc, fun i u hu => ?_⟩
  obtain ⟨h1, h2⟩ := hcell i u hu
  have hne : ¬ g = b := by
    rintro rfl
    rw [hM] at h2; cases h2
  exact ⟨Nat.lt_of_lt_of_le h1 hk.size, by rw [World.cell?_of_block (w := w) (a := ⟨g, o + i, none⟩) (hk.block g h1 hne)]; exact h2⟩
theorem CV.keepsM {w w' : World} {b : Nat} {cs : List Value} {r : CT} (h : CV w cs r) (hk : Keeps (fun j => j = b) w w') (hM : ∀ i, w.cell? ⟨b, i, none⟩ = none) : CV w' cs r := by
  induction h with
  | mk hrow hlen _ ih => exact .mk (hrow.keepsM hk hM) hlen ih
theorem MapAt.no_cell {P : Program} {k : TypeId} {w : World} {b n : Nat} {f : Value → Option Value} (h : MapAt P k w b n f) (i : Nat) : w.cell? ⟨b, i, none⟩ = none := by
  obtain ⟨es, clock, hb⟩ := h.frozen
  unfold World.cell?
  simp only [hb]
/-- block b is the set of these names -/
def NmAt (w : World) (b : Nat) (l : List (List UInt8)) : Prop := ∃ n, MapAt Tryz.prog 9 w b n (mapf (l.map fun s => (strV s, .bool true))) ∧ n ≤ l.length
theorem NmAt.made (w : World) : NmAt (w.alloc (.map #[] 0)) w.heap.size [] := ⟨0, MapAt.made _ _ w, Nat.le_refl _⟩
theorem NmAt.lt {w : World} {b : Nat} {l : List (List UInt8)} (h : NmAt w b l) : b < w.heap.size := by obtain ⟨n, h1, _⟩ := h; exact h1.lt
theorem NmAt.later {w w' : World} {b : Nat} {l : List (List UInt8)} (h : NmAt w b l) (hb : Below w.heap.size w w') : NmAt w' b l := by obtain ⟨n, h1, h2⟩ := h; exact ⟨n, h1.later hb, h2⟩
theorem NmAt.no_cell {w : World} {b : Nat} {l : List (List UInt8)} (h : NmAt w b l) : ∀ i, w.cell? ⟨b, i, none⟩ = none := by obtain ⟨n, h1, _⟩ := h; exact h1.no_cell
theorem NmAt.put {w : World} {b : Nat} {l : List (List UInt8)} (h : NmAt w b l) (hl : l.length ≤ 1000000) (s : ByteArray) (hs : s.size ≤ maxLen) :
    ∃ w', (Instr.mapUpdate 85 (.map (some b)) (.string s) (.bool true)).run Tryz.prog w = .ok () w' ∧ NmAt w' b (l ++ [s.data.toList]) ∧ Keeps (fun j => j = b) w w' := by
  obtain ⟨n, h1, h2⟩ := h
  obtain ⟨w', hr, hM, hk⟩ := h1.put strKeyed Tryz.underlying85 (by unfold maxLen; omega) (strKey hs) (.bool true)
  refine ⟨w', hr, ⟨if ((mapf (l.map fun s => (strV s, .bool true))) (.string s)).isSome then n else n + 1, ?_, ?_⟩, hk⟩
  · have e : (l ++ [s.data.toList]).map (fun s => (strV s, Value.bool true)) = l.map (fun s => (strV s, Value.bool true)) ++ [(Value.string s, Value.bool true)] := by
      rw [List.map_append]
      show _ ++ [(strV s.data.toList, Value.bool true)] = _
      unfold strV; rw [Array.toArray_toList]
    rw [e, mapf_snoc]
    exact hM
  · rw [List.length_append]; simp only [List.length_cons, List.length_nil]; split <;> omega
set_option maxHeartbeats 2000000 in
set_option maxRecDepth 100000 in
theorem names1_calls (k m : Int) (s : ByteArray) (v : Value) (g b : Nat) (l : List (List UInt8)) (w : World) (hg : Blk w g 85 #[.map (some b)]) (hN : NmAt w b l) (hl : l.length ≤ 1000000) (hs : s.size ≤ maxLen) :
    Calls Tryz.prog 55 #[.agg #[.int .i64 k, .int .i64 m, .string s, v], .pointer (some ⟨g, 0, none⟩)] w fun e w' => e = .returned (.tuple #[]) ∧ NmAt w' b (l ++ if k = 5 then [s.data.toList] else []) ∧ Keeps (fun j => j = b) w w' := by
  have hB1 := (Below.refl w.heap.size w).alloc (Nat.le_refl _) (.cells #[.int .i64 k, .int .i64 m, .string s, v] 28)
  have bT := Blk.new w 28 #[.int .i64 k, .int .i64 m, .string s, v]
  obtain ⟨w3, e3⟩ : ∃ w3, w.alloc (.cells #[.int .i64 k, .int .i64 m, .string s, v] 28) = w3 := ⟨_, rfl⟩
  rw [e3] at hB1 bT
  have tc := bT.cell
  have hg3 := (hg.below hB1 hg.lt).cell
  have hN3 := hN.later hB1
  have hB1' := Lib.hid hB1
  have hN3' := Lib.hid hN3
  clear hg hN hB1 bT
  obtain ⟨L, hL⟩ : ∃ L, (l ++ if k = 5 then [s.data.toList] else []) = L := ⟨_, rfl⟩
  rw [hL]
  have hL' := Lib.hid hL
  clear hL
  by_cases h5 : k = 5
  · subst h5
    obtain ⟨w4, hr, hN4, hk4⟩ := hN3.put hl s hs
    have hN4' := Lib.hid hN4
    have hk4' := Lib.hid hk4
    clear hN3 hN4 hk4
    go_enter Tryz.func55, Tryz.ntmps55
    go_wp2_with fail
    go_end0
    refine ⟨rfl, ?_, (Keeps.of_below hB1'.out).trans hk4'.out⟩
    rw [← hL'.out, if_pos trivial]; exact hN4'.out
  · have k5 : (k == 5) = false := by simpa using h5
    clear hN3
    go_enter Tryz.func55, Tryz.ntmps55
    go_wp2_with fail
    go_end0
    refine ⟨rfl, ?_, Keeps.of_below hB1'.out⟩
    rw [← hL'.out, if_neg h5, List.append_nil]; exact hN3'.out
/-- how many names may come -/
theorem names_len (r : CT) : (namesC r).length ≤ r.size := by
  rw [namesC_eq, size_node, List.length_append]
  have h1 : (if r.kind = 5 then [r.str] else []).length ≤ 1 := by split <;> simp
  have hL : ∀ ps : List CT, (∀ p ∈ ps, (namesC p).length ≤ p.size) → (ps.flatMap namesC).length ≤ sizeLc ps := by
    intro ps
    induction ps with
    | nil => intro _; exact Nat.zero_le _
    | cons p ps ih =>
      intro h
      rw [List.flatMap_cons, List.length_append, sizeL_cons]
      have := h p (by simp)
      have := ih fun q hq => h q (List.mem_cons_of_mem _ hq)
      omega
  have := hL r.parts fun p hp => names_len p
  omega
termination_by SizeOf.sizeOf r
decreasing_by exact partc_lt hp
abbrev WalkSaid (b : Nat) (w : World) (l : List (List UInt8)) (r : CT) (e : Ending) (w' : World) : Prop := e = .returned (.tuple #[]) ∧ NmAt w' b (l ++ namesC r) ∧ Keeps (fun j => j = b) w w'
theorem nmflat_take {ps : List CT} {j : Nat} {q : CT} (h : ps[j]? = some q) : (ps.take (j + 1)).flatMap namesC = (ps.take j).flatMap namesC ++ namesC q := by
  obtain ⟨h1, h2⟩ := List.getElem?_eq_some_iff.1 h
  rw [List.take_succ_eq_append_getElem h1, h2, List.flatMap_append, List.flatMap_cons, List.flatMap_nil, List.append_nil]
theorem nmflat_len {ps : List CT} (j : Nat) : ((ps.take j).flatMap namesC).length ≤ sizeLc ps := by
  have h1 := names_len (.node 7 0 [] (ps.take j))
  rw [namesC_eq, size_eq] at h1
  have h2 := sizeL_le (ps := ps) j
  have h3 : ((ps.take j).flatMap namesC).length ≤ 1 + sizeLc (ps.take j) := by
    refine Nat.le_trans ?_ h1
    show _ ≤ ([] ++ (ps.take j).flatMap namesC).length
    rw [List.nil_append]; exact Nat.le_refl _
  have hL : ∀ ps : List CT, (ps.flatMap namesC).length ≤ sizeLc ps := by
    intro ps
    induction ps with
    | nil => exact Nat.zero_le _
    | cons p ps ih =>
      rw [List.flatMap_cons, List.length_append, sizeL_cons]
      have := names_len p
      omega
  exact Nat.le_trans (hL _) h2
set_option maxHeartbeats 4000000 in
set_option maxRecDepth 100000 in
theorem walk_step (g b : Nat) (r : CT) (hrec : ∀ q ∈ r.parts, ∀ (cs : List Value) (l : List (List UInt8)) (w : World), CV w cs q → Blk w g 85 #[.map (some b)] → NmAt w b l → l.length + q.size ≤ 1000000 → Calls Tryz.prog 54 #[.agg cs.toArray, .func (.func 55) #[] #[.pointer (some ⟨g, 0, none⟩)]] w (WalkSaid b w l q))
    (hs : ∀ q : CT, q = r ∨ q ∈ r.parts → q.str.length ≤ 1000000) (cs : List Value) (l : List (List UInt8)) (w : World) (hR : CV w cs r) (hg : Blk w g 85 #[.map (some b)]) (hN : NmAt w b l) (hl : l.length + r.size ≤ 1000000) :
    Calls Tryz.prog 54 #[.agg cs.toArray, .func (.func 55) #[] #[.pointer (some ⟨g, 0, none⟩)]] w (WalkSaid b w l r) := by
  obtain ⟨k, m, a, p, c, ds, rfl, hq, hrow, hlen, hp⟩ := hR.form
  have hsz := size_node r
  have hstr := hs r (.inl rfl)
  have hnm : namesC r = (if k = 5 then [a.data.toList] else []) ++ r.parts.flatMap namesC := by
    rw [namesC_eq]; rw [hq]; rfl
  have ha : a.size ≤ maxLen := by
    have e : r.str = a.data.toList := by rw [hq]; rfl
    rw [Lib.size_eq, ← e]; unfold maxLen; omega
  have hfl := fun j => nmflat_len (ps := r.parts) j
  have hbg : g ≠ b := fun e => by
    have h1 := hN.no_cell 0
    rw [← e, hg.cell] at h1
    cases h1
  have hgl := hg.lt
  have hmax : r.parts.length ≤ 1000000 := by
    have hl : ∀ ps : List CT, ps.length ≤ sizeLc ps := by
      intro ps
      induction ps with
      | nil => exact Nat.zero_le _
      | cons p ps ih =>
        rw [sizeL_cons, List.length_cons]
        have := size_node p
        omega
    have := hl r.parts
    omega
  have hsp : ∀ (j : Nat) q, r.parts[j]? = some q → ((r.parts.take j).flatMap namesC).length + q.size ≤ sizeLc r.parts := fun j q hj => by
    have h1 := sizeL_take hj
    have h2 := sizeL_le (ps := r.parts) (j + 1)
    have h3 : ((r.parts.take j).flatMap namesC).length ≤ sizeLc (r.parts.take j) := by
      have := nmflat_len (ps := r.parts.take j) j
      rw [List.take_take, Nat.min_self] at this
      exact this
    omega
  have hB1 := (Below.refl w.heap.size w).alloc (Nat.le_refl _) (.cells #[.int .i64 k, .int .i64 m, .string a, .slice p r.parts.length c] 28)
  have bx := Blk.new w 28 #[.int .i64 k, .int .i64 m, .string a, .slice p r.parts.length c]
  obtain ⟨W, eW⟩ : ∃ W, w.alloc (.cells #[.int .i64 k, .int .i64 m, .string a, .slice p r.parts.length c] 28) = W := ⟨_, rfl⟩
  have hzW : W.heap.size = w.heap.size + 1 := by rw [← eW]; simp
  rw [eW] at bx hB1
  have bxc := bx.cell
  have hNW := hN.later hB1
  have D := Lib.hid (names1_calls k m a (.slice p r.parts.length c) g b l W (hg.below hB1 hgl) hNW (by omega) ha)
  have hxb : w.heap.size ≠ b := fun e => by have := hN.lt; omega
  have hrowW := hrow.below hB1
  have hpW : ∀ i q, r.parts[i]? = some q → CV W ((ds.drop (i * 4)).take 4) q := fun i q hi => (hp i q hi).later hB1
  have hgW := hg.below hB1 hgl
  have hnc := hNW.no_cell
  rw [hsz] at hl
  rw [show WalkSaid b w l r = fun e w' => e = .returned (.tuple #[]) ∧ NmAt w' b (l ++ ((if k = 5 then [a.data.toList] else []) ++ r.parts.flatMap namesC)) ∧ Keeps (fun j => j = b) w w' by funext e w'; unfold WalkSaid; rw [hnm]]
  have hif : (if k = 5 then [a.data.toList] else []).length ≤ 1 := by split <;> simp
  generalize (if k = 5 then [a.data.toList] else []) = l0 at *
  have hrec' := Lib.hid hrec
  have hrow' := Lib.hid hrowW
  have hp' := Lib.hid hpW
  have hb' := Lib.hid hB1
  have hfl' := Lib.hid hfl
  have hsp' := Lib.hid hsp
  generalize r.parts = ps at *
  generalize hn : ps.length = n at *
  have hn' := Lib.hid hn
  have hl' := Lib.hid hl
  have hzW' := Lib.hid hzW
  have bx' := Lib.hid bx
  have hgW' := Lib.hid hgW
  have hnc' := Lib.hid hnc
  have hif' := Lib.hid hif
  clear hrec hrow hp hrowW hpW hB1 hn hq hlen bx hR hsz hl hzW hnm hstr hs ha hfl hsp hg hN hNW hgW hnc hif
  go_enter Tryz.func54, Tryz.ntmps54
  go_wp2_with fail
  refine D.out.mono ?_
  rintro e w1 ⟨rfl, hN1, hk1⟩
  have bx1 := bx'.out.keeps hk1 hxb
  have bxc1 := bx1.cell
  have hrow1 := Lib.hid (hrow'.out.keepsM hk1 hnc'.out)
  have hp1 := Lib.hid fun i q hi => (hp'.out i q hi).keepsM hk1 hnc'.out
  have hg1 := Lib.hid (hgW'.out.keeps hk1 hbg)
  have hk0 := Lib.hid (((Keeps.of_below (S := fun j => j = b) hb'.out)).trans hk1)
  have hN1' := Lib.hid hN1
  have hz1 := hk1.size
  have bx1' := Lib.hid bx1
  clear D bxc hN1 hk1 hrow' hp' hgW' bx' bx1 hnc'
  go_wp2_with fail
  go_loopw [12] (fun i wr => ∃ (j : Nat), i = .int .i64 j ∧ j ≤ n ∧ NmAt wr b (l ++ (l0 ++ (ps.take j).flatMap namesC)) ∧ Keeps (fun j => j = b) w1 wr) (fun i _ => n - (intOf i).toNat)
  case atStart => exact ⟨0, rfl, Nat.zero_le _, by rw [List.take_zero, List.flatMap_nil, List.append_nil]; exact hN1'.out, Keeps.refl _ _⟩
  case round =>
    obtain ⟨j, rfl, hj, hNr, hkr⟩ := hrel
    have hncr := hNr.no_cell
    by_cases hlt : j < n
    · have hjl : j < ps.length := by rw [hn'.out]; exact hlt
      obtain ⟨q, hqq⟩ : ∃ q, ps[j]? = some q := ⟨_, List.getElem?_eq_getElem hjl⟩
      obtain ⟨g4, o, rfl, hc1, hcell⟩ := (hrow1.out.keepsM hkr hN1'.out.no_cell).cell (by omega)
      obtain ⟨kq, mq, aq, pq, cq, Rq, -, lg, x0, x1, x2, x3⟩ := CV.part hcell hqq ((hp1.out j _ hqq).keepsM hkr hN1'.out.no_cell)
      have hqm := List.mem_of_getElem? hqq
      obtain ⟨w3, e3⟩ : ∃ w3, wr.alloc (.cells #[.int .i64 kq, .int .i64 mq, .string aq, .slice pq q.parts.length cq] 28) = w3 := ⟨_, rfl⟩
      have hb3 := (Below.refl wr.heap.size wr).alloc (Nat.le_refl _) (.cells #[.int .i64 kq, .int .i64 mq, .string aq, .slice pq q.parts.length cq] 28)
      have bq3 := Blk.new wr 28 #[.int .i64 kq, .int .i64 mq, .string aq, .slice pq q.parts.length cq]
      rw [e3] at hb3 bq3
      have c3 := bq3.cell
      have R3 := Rq.later hb3
      have hgr := (hg1.out.keeps hkr hbg).below hb3 (hg1.out.keeps hkr hbg).lt
      have hN3 := hNr.later hb3
      have hsl := hsp'.out j q hqq
      have P := Lib.hid (hrec'.out q hqm _ _ w3 R3 hgr hN3 (by rw [List.length_append, List.length_append]; have := hl'.out; have := hif'.out; omega))
      have hk3 := Lib.hid (hkr.trans (Keeps.of_below (S := fun j => j = b) hb3))
      have hft := Lib.hid (nmflat_take hqq)
      clear hb3 bq3 hNr hkr Rq R3 hcell hjl hqq hqm hgr hN3 hsl hncr
      go_wp2_with fail
      refine P.out.mono ?_
      rintro e w4 ⟨rfl, hN4, hk4⟩
      have hN4' := Lib.hid hN4
      have hk4' := Lib.hid hk4
      clear hN4 hk4 P
      go_wp2_with fail
      go_roundw
      case rel => exact ⟨j + 1, by go_num, by omega, by rw [hft.out, ← List.append_assoc l0, ← List.append_assoc l]; exact hN4'.out, hk3.out.trans hk4'.out⟩
      case measure => simp [intOf]; omega
    · obtain rfl : j = n := by omega
      have hNr' := Lib.hid hNr
      have hkr' := Lib.hid hkr
      clear hNr hkr hncr
      go_wp2_with fail
      go_end0
      refine ⟨rfl, ?_, hk0.out.trans hkr'.out⟩
      have := hNr'.out
      rw [List.take_of_length_le (by rw [hn'.out]; exact Nat.le_refl _)] at this
      exact this
/-- no text in it is long -/
inductive CT.slim : CT → Prop
  | mk {k n : Int} {s : List UInt8} {ps : List CT} (hs : s.length ≤ 1000000) (hp : ∀ p ∈ ps, CT.slim p) : CT.slim (.node k n s ps)
theorem CT.slim.str {r : CT} (h : r.slim) : r.str.length ≤ 1000000 := by cases h with | mk hs _ => exact hs
theorem CT.slim.part {r p : CT} (h : r.slim) (hp : p ∈ r.parts) : p.slim := by cases h with | mk _ h => exact h p hp
theorem walk_calls (g b : Nat) (r : CT) (hs : r.slim) (cs : List Value) (l : List (List UInt8)) (w : World) (hR : CV w cs r) (hg : Blk w g 85 #[.map (some b)]) (hN : NmAt w b l) (hl : l.length + r.size ≤ 1000000) :
    Calls Tryz.prog 54 #[.agg cs.toArray, .func (.func 55) #[] #[.pointer (some ⟨g, 0, none⟩)]] w (WalkSaid b w l r) :=
  walk_step g b r (fun q hq cs l w h1 h2 h3 h4 => walk_calls g b q (hs.part hq) cs l w h1 h2 h3 h4) (fun q hq => by
    rcases hq with rfl | hq
    · exact hs.str
    · exact (hs.part hq).str) cs l w hR hg hN hl
termination_by SizeOf.sizeOf r
decreasing_by exact partc_lt hq
end Go.Proofs.YtdfgbkilaepolaaGreatDoor
