/- Walks: an edit as bytes, the document's way. A manifest's end that isn't whole; how many bytes a version of few tables takes. No program in sight. A disk's blocks are of the disk's own types. -/
import Derived.Test.YtabcdodjkfknlaaGreatDoorPT01
import Derived.Test.YtabcdodjkfknlaaGreatDoorPN14
import Derived.Test.YtabcdodjkfknlaaGreatDoorPN26
import Derived.Test.YtabcdodjkfknlaaGreatDoorPN10
namespace Go.Proofs.YtabcdodjkfknlaaGreatDoor
open Go.RowKit
attribute [local go_sem ↓] dapp_op dslK_op
attribute [local go_sem] Oper.semAt_some
theorem putI02_calls (v : Value) (l : List UInt8) (n : Int) (w : World) (hv : Bytes w v l) (hl : l.length ≤ 100000000) (h0 : 0 ≤ n) (hn : n < 9223372036854775808) :
    Calls Tryz.prog 55 #[v, .int .u64 n] w (MadeB w (l ++ uvI n)) := by
  have := put02_calls v l n.toNat w hv hl (by omega)
  rw [show ((n.toNat : Nat) : Int) = n by omega] at this
  exact this
/-- how many bytes an edit may take -/
theorem tbl_len {t : Tbl} (hf : t.few = true) (hr : t.right = true) : t.bytes.length ≤ 350 := by
  have hf' : t.first.size + t.last.size ≤ 300 := of_decide_eq_true hf
  unfold Tbl.right at hr
  simp only [Bool.and_eq_true, Bool.not_eq_true'] at hr
  obtain ⟨⟨a1, a2⟩, a3⟩ := hr
  rw [oddI_no] at a1 a2 a3
  have u1 := (uv_len10 (n := t.num.toNat) (by omega)).2
  have u2 := (uv_len10 (n := t.level.toNat) (by omega)).2
  have u3 := (uv_len10 (n := t.size.toNat) (by omega)).2
  have u4 := (uv_len10 (n := t.first.size) (by omega)).2
  have u5 := (uv_len10 (n := t.last.size) (by omega)).2
  unfold Tbl.bytes uvI utx
  simp only [List.length_append]
  have s1 := Lib.size_eq t.first
  have s2 := Lib.size_eq t.last
  omega
theorem flat_le {α : Type} {f : α → List UInt8} {c : Nat} : ∀ (l : List α), (∀ x ∈ l, (f x).length ≤ c) → (l.flatMap f).length ≤ l.length * c
  | [], _ => by simp
  | x :: l, h => by
    have h1 := h x (by simp)
    have h2 := flat_le l fun y hy => h y (List.mem_cons_of_mem _ hy)
    rw [List.flatMap_cons, List.length_append, List.length_cons, Nat.succ_mul]
    omega
theorem flat_take2 {α : Type} {f : α → List UInt8} {l : List α} {k : Nat} {x : α} (h : l[k]? = some x) : (l.take (k + 1)).flatMap f = (l.take k).flatMap f ++ f x := by
  rw [List.take_add_one, h, List.flatMap_append]
  simp
theorem edt_len {x : Edt} (hf : x.few = true) (hr : x.right = true) (hn : x.floor < 18446744073709551616 ∧ x.head < 18446744073709551616) : x.bytes.length ≤ 15000 := by
  unfold Edt.few at hf
  rw [Bool.and_eq_true, Bool.and_eq_true, decide_eq_true_eq, decide_eq_true_eq, List.all_eq_true] at hf
  obtain ⟨h1, h2, h3⟩ := hf
  unfold Edt.right at hr
  simp only [Bool.and_eq_true, Bool.not_eq_true', List.all_eq_true] at hr
  obtain ⟨⟨⟨r1, r2⟩, r3⟩, r4⟩ := hr
  rw [oddI_no] at r1 r2
  have hfl := flat_le (f := Tbl.bytes) x.add fun t ht => tbl_len (h1 t ht) (r4 t ht)
  have hfd := flat_le (f := uvI) x.drop (c := 10) fun t ht => by
    have := r3 t ht
    rw [oddI_no] at this
    exact (uv_len10 (n := t.toNat) (by omega)).2
  have h4 : x.add.length * 350 ≤ 40 * 350 := Nat.mul_le_mul_right _ h2
  have h5 : x.drop.length * 10 ≤ 40 * 10 := Nat.mul_le_mul_right _ h3
  have u1 := (uv_len10 (n := x.add.length) (by omega)).2
  have u2 := (uv_len10 (n := x.drop.length) (by omega)).2
  have u3 := (uv_len10 (n := x.floor) (by omega)).2
  have u4 := (uv_len10 (n := x.head) (by omega)).2
  have u5 := (uv_len10 (n := x.log.toNat) (by omega)).2
  have u6 := (uv_len10 (n := x.next.toNat) (by omega)).2
  unfold Edt.bytes uvI at *
  simp only [List.length_append]
  omega
set_option maxHeartbeats 8000000 in
set_option maxRecDepth 100000 in
theorem encode16_calls (ve : Value) (x : Edt) (w : World) (he : EdtAt w ve x) (hs : x.few = true) (hr : x.right = true) :
    Calls Tryz.prog 20 #[ve] w (MadeB w x.bytes) := by
  obtain ⟨⟨p, c, q, d, rfl, hA, hD⟩, _, hlang, hlangI, m1, m2, m3, m4, m5, m6⟩ := he
  have hr' := hr
  unfold Edt.right at hr'
  simp only [Bool.and_eq_true, Bool.not_eq_true', List.all_eq_true] at hr'
  obtain ⟨⟨⟨r1, r2⟩, r3⟩, r4⟩ := hr'
  rw [oddI_no] at r1 r2
  obtain ⟨l, dl, fl, hd_, lg, nx⟩ := x
  unfold Edt.few at hs
  rw [Bool.and_eq_true, Bool.and_eq_true, decide_eq_true_eq, decide_eq_true_eq, List.all_eq_true] at hs
  obtain ⟨hs, ha, hd⟩ := hs
  simp only at hA hD hs ha hd r1 r2 r3 r4 m1 m2 m3 m4 m5 m6 ⊢
  obtain ⟨W1, hW1⟩ : ∃ W1, w.alloc (.cells #[.slice p l.length c, .slice q dl.length d, .int .u64 fl, .int .u64 hd_, .int .i64 lg, .int .i64 nx] 33) = W1 := ⟨_, rfl⟩
  have b1 : Blk W1 w.heap.size 33 #[.slice p l.length c, .slice q dl.length d, .int .u64 fl, .int .u64 hd_, .int .i64 lg, .int .i64 nx] := by rw [← hW1]; exact Blk.new w _ _
  have hB1 : Below w.heap.size w W1 := by rw [← hW1]; exact (Below.refl _ w).alloc (Nat.le_refl _) _
  have hflat := flat_le (f := Tbl.bytes) l fun t ht => tbl_len (hs t ht) (r4 t ht)
  have hflatD := flat_le (f := uvI) dl (c := 10) fun t ht => by
    have := r3 t ht
    rw [oddI_no] at this
    exact (uv_len10 (n := t.toNat) (by omega)).2
  obtain ⟨L, hL⟩ : ∃ L, l.length = L := ⟨_, rfl⟩
  obtain ⟨M, hM⟩ : ∃ M, dl.length = M := ⟨_, rfl⟩
  rw [hL] at b1 hW1 ha hflat ⊢
  rw [hM] at b1 hW1 hd hflatD ⊢
  have c1 := b1.cell
  have uL := (uv_len10 (n := L) (by omega)).2
  have uM := (uv_len10 (n := M) (by omega)).2
  have hP := Lib.hid (put02_calls (.slice none 0 0) [] L W1 (.inl (.inl ⟨rfl, rfl⟩)) (by simp) (by omega))
  obtain ⟨PP, hPP⟩ : ∃ PP, MadeB w (Edt.bytes ⟨l, dl, fl, hd_, lg, nx⟩) = PP := ⟨_, rfl⟩
  have hbytes : Edt.bytes ⟨l, dl, fl, hd_, lg, nx⟩ = uv L ++ l.flatMap Tbl.bytes ++ uv M ++ dl.flatMap uvI ++ uv fl ++ uv hd_ ++ uvI lg ++ uvI nx := by unfold Edt.bytes; rw [hL, hM]
  rw [hbytes] at hPP
  rw [hbytes, hPP]
  have hPP' := Lib.hid hPP
  have b1' := Lib.hid b1
  have hB1' := Lib.hid hB1
  have hA' := Lib.hid (hA.below hB1)
  have hD' := Lib.hid (hD.below hB1)
  have hs' := Lib.hid hs
  have hL' := Lib.hid hL
  have hM' := Lib.hid hM
  have r3' := Lib.hid r3
  have r4' := Lib.hid r4
  clear hA hD hs hL hM hPP b1 hB1 hr hlang hlangI r3 r4 hbytes
  go_enter Tryz.func20, Tryz.ntmps20
  go_wp2_with fail
  refine hP.out.mono ?_
  rintro e w2 ⟨p2, c2, rfl, o2, b2⟩
  rw [List.nil_append] at o2 ⊢
  have c2_ := (b1'.out.below b2 b1'.out.lt).cell
  have hB2 := Lib.hid b2
  have o2' := Lib.hid o2.bytes
  clear b2 o2 c1 hP
  go_wp2_with fail
  obtain ⟨W2, hW2⟩ : ∃ W2, W2 = w2 := ⟨_, rfl⟩
  go_loopw [3, 5, 7, 18] (fun b _ _ i wr => ∃ (k : Nat) (acc : List UInt8) (pb : Option Addr) (cb : Nat), i = .int .i64 k ∧ k ≤ L ∧ b = .slice pb acc.length cb ∧ acc = uv L ++ (l.take k).flatMap Tbl.bytes ∧ Bytes wr b acc ∧ Below W1.heap.size W1 wr) (fun _ _ _ i _ => L - (intOf i).toNat)
  case atStart => exact ⟨0, _, p2, c2, rfl, Nat.zero_le _, rfl, by simp, o2'.out, hB2.out⟩
  case round =>
    obtain ⟨k, acc, pb, cb, rfl, hk, rfl, hacc, hby, hb⟩ := hrel
    obtain ⟨wo, rfl⟩ : ∃ wo : World, wo = wr := ⟨_, rfl⟩
    have hlenA : acc.length ≤ 15000 := by
      have := flat_le (f := Tbl.bytes) (l.take k) (c := 350) fun t ht => tbl_len (hs'.out t (List.mem_of_mem_take ht)) (r4'.out t (List.mem_of_mem_take ht))
      rw [List.length_take] at this
      have h2 : min k l.length * 350 ≤ 40 * 350 := Nat.mul_le_mul_right _ (by have := hL'.out; omega)
      rw [hacc, List.length_append]
      omega
    have hacc' := Lib.hid hacc
    have hby' := Lib.hid hby
    have hb' := Lib.hid hb
    clear hacc hby c2_
    by_cases hlt : k < L
    · obtain ⟨t, ht⟩ : ∃ t, l[k]? = some t := ⟨_, List.getElem?_eq_getElem (by rw [hL'.out]; exact hlt)⟩
      obtain ⟨a, b, rfl, hab, hbl, q0, q1, q2, q3, q4⟩ := tbl_at (hA'.out.below hb) ht
      have hflt := flat_take2 (f := Tbl.bytes) ht
      have htr := r4'.out t (List.mem_of_getElem? ht)
      have htf := hs'.out t (List.mem_of_getElem? ht)
      have htl := tbl_len htf htr
      unfold Tbl.right at htr
      simp only [Bool.and_eq_true, Bool.not_eq_true'] at htr
      obtain ⟨⟨a1, a2⟩, a3⟩ := htr
      rw [oddI_no] at a1 a2 a3
      have htf' : t.first.size + t.last.size ≤ 300 := of_decide_eq_true htf
      have htb : t.bytes = uvI t.num ++ uvI t.level ++ uvI t.size ++ utx t.first ++ utx t.last := rfl
      rw [htb] at htl
      have hflt' := Lib.hid (hflt.trans (by rw [htb]))
      obtain ⟨tn, tl, tz, tf, ta⟩ := t
      simp only at q0 q1 q2 q3 q4 a1 a2 a3 htf' htl hflt'
      obtain ⟨W3, hW3⟩ : ∃ W3, wo.alloc (.cells #[.int .i64 tn, .int .i64 tl, .int .i64 tz, .string tf, .string ta] 76) = W3 := ⟨_, rfl⟩
      have hA3 : Below wo.heap.size wo W3 := by rw [← hW3]; exact (Below.refl _ wo).alloc (Nat.le_refl _) _
      have bT : Blk W3 wo.heap.size 76 #[.int .i64 tn, .int .i64 tl, .int .i64 tz, .string tf, .string ta] := by rw [← hW3]; exact Blk.new wo _ _
      obtain ⟨T, hT⟩ : ∃ T, wo.heap.size = T := ⟨_, rfl⟩
      rw [hT] at bT
      have tc := bT.cell
      obtain ⟨W4, hW4⟩ : ∃ W4, W3.alloc (.cells #[.int .i64 tn, .int .i64 tl, .int .i64 tz] 3) = W4 := ⟨_, rfl⟩
      have hA4 : Below W3.heap.size W3 W4 := by rw [← hW4]; exact (Below.refl _ W3).alloc (Nat.le_refl _) _
      have bN : Blk W4 W3.heap.size 3 #[.int .i64 tn, .int .i64 tl, .int .i64 tz] := by rw [← hW4]; exact Blk.new W3 _ _
      have bT4 := bT.below hA4 bT.lt
      obtain ⟨G, hG⟩ : ∃ G, W3.heap.size = G := ⟨_, rfl⟩
      rw [hG] at bN
      have hb4 := Lib.hid ((hb'.out.trans (hA3.mono hb'.out.size)).trans (hA4.mono (Nat.le_trans hb'.out.size hA3.size)))
      have hby4 := Lib.hid ((hby'.out.later hA3).later hA4)
      have bN' := Lib.hid bN
      have bT' := Lib.hid bT4
      obtain ⟨A, hA_⟩ : ∃ A, acc.length = A := ⟨_, rfl⟩
      have hAl := Lib.hid hA_
      rw [hA_] at hby4 hlenA ⊢
      clear hA_ hby' hb' bN bT bT4 hA3 hA4 hflt ht htb htf
      go_wp2_with fail
      have hns : ∀ (j : Nat) (n : Int), [tn, tl, tz][j]? = some n → (0 ≤ n ∧ n < 4611686018427387904) ∧ W4.cell? ⟨G, j, none⟩ = some (.int .i64 n) := by
        intro j n hj
        rw [bN'.out.cell]
        rcases j with _ | _ | _ | j
        · obtain rfl := Option.some.inj hj; exact ⟨a1, rfl⟩
        · obtain rfl := Option.some.inj hj; exact ⟨a2, rfl⟩
        · obtain rfl := Option.some.inj hj; exact ⟨a3, rfl⟩
        · simp at hj
      have hns' := Lib.hid hns
      have hGl := bN'.out.lt
      have hTl := bT'.out.lt
      clear hns tc
      go_loopw [3, 7, 30] (fun b _ i wr => ∃ (j : Nat) (ac : List UInt8) (pb : Option Addr) (cb : Nat), i = .int .i64 j ∧ j ≤ 3 ∧ b = .slice pb ac.length cb ∧ ac = acc ++ ([tn, tl, tz].take j).flatMap uvI ∧ Bytes wr b ac ∧ Below W4.heap.size W4 wr) (fun _ _ i _ => 3 - (intOf i).toNat)
      case atStart => exact ⟨0, acc, pb, cb, rfl, by omega, by rw [hAl.out], by simp, hby4.out, Below.refl _ _⟩
      case round =>
        obtain ⟨j, ac, pb2, cb2, rfl, hj, rfl, hac, hby2, hb2⟩ := hrel
        obtain ⟨wi, rfl⟩ : ∃ wi : World, wi = wr := ⟨_, rfl⟩
        have hacl : ac.length ≤ 16000 := by
          have := flat_le (f := uvI) ([tn, tl, tz].take j) (c := 10) fun n hn => by
            obtain ⟨m, hm, hmn⟩ := List.getElem_of_mem (List.mem_of_mem_take hn)
            have := (hns'.out m n (by rw [List.getElem?_eq_getElem hm, hmn])).1
            exact (uv_len10 (n := n.toNat) (by omega)).2
          have h2 : ([tn, tl, tz].take j).length ≤ 3 := List.length_take_le' _ _
          rw [hac, List.length_append, hAl.out]
          omega
        have hac' := Lib.hid hac
        have hby2' := Lib.hid hby2
        have hb2' := Lib.hid hb2
        clear hac hby2 hb2
        by_cases hjl : j < 3
        · obtain ⟨n, hn⟩ : ∃ n, [tn, tl, tz][j]? = some n := ⟨_, List.getElem?_eq_getElem (by simp; omega)⟩
          obtain ⟨hnb, hnc⟩ := hns'.out j n hn
          have hnc2 : wi.cell? ⟨G, j, none⟩ = some (.int .i64 n) := (hb2'.out.cell (p := ⟨G, j, none⟩) hGl).trans hnc
          have hP := Lib.hid (putI02_calls _ ac n wi hby2'.out (by omega) hnb.1 (by omega))
          have hft := Lib.hid (flat_take2 (f := uvI) hn)
          obtain ⟨Z, hZ⟩ : ∃ Z, ac ++ uvI n = Z := ⟨_, rfl⟩
          rw [hZ] at hP
          have hZ' := Lib.hid hZ
          clear hZ
          have hd3 : decide (j < 3) = true := by simpa using hjl
          clear hn hnc
          go_wp2_with fail
          refine hP.out.mono ?_
          rintro e w5 ⟨p5, c5, rfl, o5, b5⟩
          have o5' := Lib.hid o5.bytes
          have b5' := Lib.hid (hb2'.out.trans (b5.mono hb2'.out.size))
          clear o5 b5
          go_wp2_with fail
          go_roundw
          case rel => exact ⟨j + 1, Z, p5, c5, by go_num, by omega, rfl, by rw [hft.out, ← hZ'.out, hac'.out, List.append_assoc], o5'.out, b5'.out⟩
          case measure => simp [intOf]; omega
        · obtain rfl : j = 3 := by omega
          have hS0 : (wi.drew).cell? ⟨T, 3, none⟩ = some (.string tf) ∧ (wi.drew).cell? ⟨T, 4, none⟩ = some (.string ta) := by
            have bTd := (bT'.out.below hb2'.out hTl).drew
            exact ⟨by rw [bTd.cell]; rfl, by rw [bTd.cell]; rfl⟩
          have hby3 := Lib.hid (hby2'.out.later (Below.refl wi.heap.size wi).drew)
          have hb3 := Lib.hid (hb2'.out.trans ((Below.refl wi.heap.size wi).drew.mono hb2'.out.size))
          obtain ⟨Z, hZ⟩ : ∃ Z, ac ++ utx tf = Z := ⟨_, rfl⟩
          obtain ⟨Y, hY⟩ : ∃ Y, Z ++ utx ta = Y := ⟨_, rfl⟩
          have hYe : Hid (uv L ++ (l.take (k + 1)).flatMap Tbl.bytes = Y) := Lib.hid (by
            rw [hflt'.out, ← hY, ← hZ, hac'.out, hacc'.out]
            simp [List.append_assoc])
          have hZl : Z.length ≤ 17000 := by
            have u4 := (uv_len10 (n := tf.size) (by omega)).2
            rw [← hZ, List.length_append]
            unfold utx
            rw [List.length_append]
            have := Lib.size_eq tf
            omega
          have hP1 := putText02_calls _ ac tf _ hby3.out (by omega) (by omega)
          rw [hZ] at hP1
          have hP1' := Lib.hid hP1
          have hY' := Lib.hid hY
          clear hP1 hZ hY
          go_wp2_with fail
          refine wp_region_s (fun w' => w'.cell? ⟨T, 3, none⟩ = some (.string tf) ∧ w'.cell? ⟨T, 4, none⟩ = some (.string ta)) [] [(true, 0), (true, 1), (true, 2), (true, 4), (true, 5), (false, 3), (false, 6), (true, 7)] (by kernel_rfl) (by kernel_rfl) (by kernel_rfl) (by kernel_rfl) (fun _ _ _ _ _ h => h) hS0 ?_
          repeat
            refine wpS_take (v := ?_) rfl (.inl ⟨by rfl, fun w' hS => ?_⟩) ?_
            rotate_left
            · (try dsimp only at hS); go_simp; try with_reducible rfl
            simp only [Act.put, List.setIfInBounds_toArray, List.set_cons_zero, List.set_cons_succ]
          refine wpS_go rfl ?_
          go_wp2_with fail
          refine hP1'.out.mono ?_
          rintro e w5 ⟨p5, c5, rfl, o5, b5⟩
          have b5' := Lib.hid (hb3.out.trans (b5.mono hb3.out.size))
          have hP2 := putText02_calls _ Z ta w5 o5.bytes (by omega) (by omega)
          rw [hY'.out] at hP2
          have hP2' := Lib.hid hP2
          have hS5 : w5.cell? ⟨T, 3, none⟩ = some (.string tf) ∧ w5.cell? ⟨T, 4, none⟩ = some (.string ta) := ⟨(b5.cell (p := ⟨T, 3, none⟩) (Nat.lt_of_lt_of_le (bT'.out.lt) hb3.out.size)).trans hS0.1, (b5.cell (p := ⟨T, 4, none⟩) (Nat.lt_of_lt_of_le (bT'.out.lt) hb3.out.size)).trans hS0.2⟩
          clear hP2 o5 hP1'
          go_wp2_with fail
          refine ⟨fun _ => hS5, ?_⟩
          refine wpS_go rfl ?_
          go_wp2_with fail
          refine hP2'.out.mono ?_
          rintro e w6 ⟨p6, c6, rfl, o6, b6⟩
          have b6' := Lib.hid (b5'.out.trans (b6.mono b5'.out.size))
          have hS6 : w6.cell? ⟨T, 3, none⟩ = some (.string tf) ∧ w6.cell? ⟨T, 4, none⟩ = some (.string ta) := ⟨(b6.cell (p := ⟨T, 3, none⟩) (Nat.lt_of_lt_of_le (bT'.out.lt) b5'.out.size)).trans hS5.1, (b6.cell (p := ⟨T, 4, none⟩) (Nat.lt_of_lt_of_le (bT'.out.lt) b5'.out.size)).trans hS5.2⟩
          have o6' := Lib.hid o6.bytes
          have b7 := Lib.hid (hb4.out.trans (b6'.out.mono hb4.out.size))
          clear o6 b6 b5 hP2'
          go_wp2_with fail
          refine ⟨fun _ => hS6, ?_⟩
          refine wpS_take (v := ?_) rfl (.inl ⟨by rfl, fun w' hS => ?_⟩) ?_
          rotate_left
          · (try dsimp only at hS); go_simp; try with_reducible rfl
          simp only [Act.put, List.setIfInBounds_toArray, List.set_cons_zero, List.set_cons_succ]
          clear hS6
          refine wpS_end ?_
          go_wp2_with fail
          exact ⟨⟨k + 1, Y, p6, c6, by go_num, by omega, rfl, hYe.out.symm, o6'.out, b7.out⟩, by simp only [intOf]; omega⟩
    · obtain rfl : k = L := by omega
      have hfull : l.take k = l := List.take_of_length_le (Nat.le_of_eq hL'.out)
      rw [hfull] at hacc'
      have c3 := (b1'.out.below hb'.out b1'.out.lt).cell
      have hP := put02_calls _ acc M wo hby'.out (by omega) (by omega)
      obtain ⟨Z, hZ⟩ : ∃ Z, acc ++ uv M = Z := ⟨_, rfl⟩
      rw [hZ] at hP
      have hZl : Z.length ≤ 15020 := by rw [← hZ, List.length_append]; omega
      have hZ' := Lib.hid (show uv k ++ l.flatMap Tbl.bytes ++ uv M = Z by rw [← hZ, hacc'.out])
      have hP' := Lib.hid hP
      clear hP hZ hfull hb
      go_wp2_with fail
      refine hP'.out.mono ?_
      rintro e w5 ⟨p5, c5, rfl, o5, b5⟩
      have b5' := Lib.hid (hb'.out.trans (b5.mono hb'.out.size))
      have o5' := Lib.hid o5.bytes
      have c5_ := (b1'.out.below b5'.out b1'.out.lt).cell
      clear b5 o5 hP' c3
      go_wp2_with fail
      go_loopw [3, 9, 56] (fun b _ i wr => ∃ (j : Nat) (ac : List UInt8) (pb : Option Addr) (cb : Nat), i = .int .i64 j ∧ j ≤ M ∧ b = .slice pb ac.length cb ∧ ac = Z ++ (dl.take j).flatMap uvI ∧ Bytes wr b ac ∧ Below W1.heap.size W1 wr) (fun _ _ i _ => M - (intOf i).toNat)
      case atStart => exact ⟨0, Z, p5, c5, rfl, Nat.zero_le _, rfl, by simp, o5'.out, b5'.out⟩
      case round =>
        obtain ⟨j, ac, pb2, cb2, rfl, hj, rfl, hac, hby2, hb2⟩ := hrel
        obtain ⟨wi, rfl⟩ : ∃ wi : World, wi = wr := ⟨_, rfl⟩
        have hacl : ac.length ≤ 16000 := by
          have := flat_le (f := uvI) (dl.take j) (c := 10) fun n hn => by
            have := r3'.out n (List.mem_of_mem_take hn)
            rw [oddI_no] at this
            exact (uv_len10 (n := n.toNat) (by omega)).2
          have h2 : (dl.take j).length ≤ 40 := by rw [List.length_take]; have := hM'.out; omega
          rw [hac, List.length_append]
          omega
        have hac' := Lib.hid hac
        have hby2' := Lib.hid hby2
        have hb2' := Lib.hid hb2
        clear hac hby2 hb2 c5_
        by_cases hjl : j < M
        · obtain ⟨n, hn⟩ : ∃ n, dl[j]? = some n := ⟨_, List.getElem?_eq_getElem (by rw [hM'.out]; exact hjl)⟩
          have hnb := r3'.out n (List.mem_of_getElem? hn)
          rw [oddI_no] at hnb
          obtain ⟨aq, hq, hqb, hqc⟩ := (hD'.out.below hb2'.out) j n hn
          obtain rfl := hq
          have hqc0 := hqc 0 _ rfl
          rw [show rkI.K = 1 from rfl, Nat.mul_one, Nat.add_zero] at hqc0
          have hP := putI02_calls _ ac n wi hby2'.out (by omega) hnb.1 (by omega)
          have hft := Lib.hid (flat_take2 (f := uvI) hn)
          obtain ⟨Y, hY⟩ : ∃ Y, ac ++ uvI n = Y := ⟨_, rfl⟩
          rw [hY] at hP
          have hY' := Lib.hid hY
          have hP' := Lib.hid hP
          have n1 : 0 < M := by omega
          clear hn hqc hP hY
          go_wp2_with fail
          refine hP'.out.mono ?_
          rintro e w6 ⟨p6, c6, rfl, o6, b6⟩
          have o6' := Lib.hid o6.bytes
          have b6' := Lib.hid (hb2'.out.trans (b6.mono hb2'.out.size))
          clear o6 b6
          go_wp2_with fail
          go_roundw
          case rel => exact ⟨j + 1, Y, p6, c6, by go_num, by omega, rfl, by rw [hft.out, ← hY'.out, hac'.out, List.append_assoc], o6'.out, b6'.out⟩
          case measure => simp [intOf]; omega
        · obtain rfl : j = M := by omega
          have hfullD : dl.take j = dl := List.take_of_length_le (Nat.le_of_eq hM'.out)
          rw [hfullD] at hac'
          have hbd := Lib.hid (hb2'.out.trans ((Below.refl wi.heap.size wi).drew.mono hb2'.out.size))
          have bEd := b1'.out.below hbd.out b1'.out.lt
          have hS0 : (wi.drew).cell? ⟨w.heap.size, 2, none⟩ = some (.int .u64 fl) ∧ (wi.drew).cell? ⟨w.heap.size, 3, none⟩ = some (.int .u64 hd_) := ⟨by rw [bEd.cell]; rfl, by rw [bEd.cell]; rfl⟩
          have u1 := (uv_len10 (n := fl) (by omega)).2
          have u2 := (uv_len10 (n := hd_) (by omega)).2
          have u3 := (uv_len10 (n := lg.toNat) (by omega)).2
          obtain ⟨Y1, hY1⟩ : ∃ Y, ac ++ uv fl = Y := ⟨_, rfl⟩
          obtain ⟨Y2, hY2⟩ : ∃ Y, Y1 ++ uv hd_ = Y := ⟨_, rfl⟩
          obtain ⟨Y3, hY3⟩ : ∃ Y, Y2 ++ uvI lg = Y := ⟨_, rfl⟩
          obtain ⟨Y4, hY4⟩ : ∃ Y, Y3 ++ uvI nx = Y := ⟨_, rfl⟩
          have hYe : Hid (uv k ++ l.flatMap Tbl.bytes ++ uv j ++ dl.flatMap uvI ++ uv fl ++ uv hd_ ++ uvI lg ++ uvI nx = Y4) := Lib.hid (by
            rw [hZ'.out, ← hac'.out, hY1, hY2, hY3, hY4])
          have l1 : Y1.length ≤ 16010 := by rw [← hY1, List.length_append]; omega
          have l2 : Y2.length ≤ 16020 := by rw [← hY2, List.length_append]; omega
          have l3 : Y3.length ≤ 16030 := by rw [← hY3, List.length_append]; unfold uvI; omega
          have hq1 := put02_calls _ ac fl _ (hby2'.out.later (Below.refl wi.heap.size wi).drew) (by omega) m1
          rw [hY1] at hq1
          have hq1' := Lib.hid hq1
          have hY2' := Lib.hid hY2
          have hY3' := Lib.hid hY3
          have hY4' := Lib.hid hY4
          clear hq1 hY1 hY2 hY3 hY4 hfullD bEd u1 u2 u3
          go_wp2_with fail
          refine wp_region_s (fun w' => w'.cell? ⟨w.heap.size, 2, none⟩ = some (.int .u64 fl) ∧ w'.cell? ⟨w.heap.size, 3, none⟩ = some (.int .u64 hd_)) [] [(true, 0), (true, 1), (true, 2), (true, 4), (true, 5), (false, 3), (false, 6), (true, 7)] (by kernel_rfl) (by kernel_rfl) (by kernel_rfl) (by kernel_rfl) (fun _ _ _ _ _ h => h) hS0 ?_
          repeat
            refine wpS_take (v := ?_) rfl (.inl ⟨by rfl, fun w' hS => ?_⟩) ?_
            rotate_left
            · (try dsimp only at hS); go_simp; try with_reducible rfl
            simp only [Act.put, List.setIfInBounds_toArray, List.set_cons_zero, List.set_cons_succ]
          refine wpS_go rfl ?_
          go_wp2_with fail
          refine hq1'.out.mono ?_
          rintro e w6 ⟨p6, c6, rfl, o6, b6⟩
          have b6' := Lib.hid (hbd.out.trans (b6.mono hbd.out.size))
          have hq2 := put02_calls _ Y1 hd_ w6 o6.bytes (by omega) m2
          rw [hY2'.out] at hq2
          have hq2' := Lib.hid hq2
          have bE6 := b1'.out.below b6'.out b1'.out.lt
          have hS6 : w6.cell? ⟨w.heap.size, 2, none⟩ = some (.int .u64 fl) ∧ w6.cell? ⟨w.heap.size, 3, none⟩ = some (.int .u64 hd_) := ⟨by rw [bE6.cell]; rfl, by rw [bE6.cell]; rfl⟩
          clear hq2 o6 b6 hq1' bE6
          go_wp2_with fail
          refine ⟨fun _ => hS6, ?_⟩
          refine wpS_go rfl ?_
          go_wp2_with fail
          refine hq2'.out.mono ?_
          rintro e w7 ⟨p7, c7, rfl, o7, b7⟩
          have b7' := Lib.hid (b6'.out.trans (b7.mono b6'.out.size))
          have o7' := Lib.hid o7.bytes
          have bE7 := b1'.out.below b7'.out b1'.out.lt
          have hS7 : w7.cell? ⟨w.heap.size, 2, none⟩ = some (.int .u64 fl) ∧ w7.cell? ⟨w.heap.size, 3, none⟩ = some (.int .u64 hd_) := ⟨by rw [bE7.cell]; rfl, by rw [bE7.cell]; rfl⟩
          clear o7 b7 hq2' bE7
          go_wp2_with fail
          refine ⟨fun _ => hS7, ?_⟩
          refine wpS_take (v := ?_) rfl (.inl ⟨by rfl, fun w' hS => ?_⟩) ?_
          rotate_left
          · (try dsimp only at hS); go_simp; try with_reducible rfl
          simp only [Act.put, List.setIfInBounds_toArray, List.set_cons_zero, List.set_cons_succ]
          clear hS7 hS6 hS0
          refine wpS_end ?_
          have hbd8 := Lib.hid (b7'.out.trans ((Below.refl w7.heap.size w7).drew.mono b7'.out.size))
          have bE8 := b1'.out.below hbd8.out b1'.out.lt
          have hS8 : (w7.drew).cell? ⟨w.heap.size, 4, none⟩ = some (.int .i64 lg) ∧ (w7.drew).cell? ⟨w.heap.size, 5, none⟩ = some (.int .i64 nx) := ⟨by rw [bE8.cell]; rfl, by rw [bE8.cell]; rfl⟩
          have hq3 := putI02_calls _ Y2 lg _ (o7'.out.later (Below.refl w7.heap.size w7).drew) (by omega) r1.1 (by omega)
          rw [hY3'.out] at hq3
          have hq3' := Lib.hid hq3
          clear hq3 bE8
          go_wp2_with fail
          refine wp_region_s (fun w' => w'.cell? ⟨w.heap.size, 4, none⟩ = some (.int .i64 lg) ∧ w'.cell? ⟨w.heap.size, 5, none⟩ = some (.int .i64 nx)) [] [(true, 0), (true, 1), (true, 2), (true, 3), (true, 5), (true, 6), (true, 7), (false, 4), (false, 8), (true, 9)] (by kernel_rfl) (by kernel_rfl) (by kernel_rfl) (by kernel_rfl) (fun _ _ _ _ _ h => h) hS8 ?_
          repeat
            refine wpS_take (v := ?_) rfl (.inl ⟨by rfl, fun w' hS => ?_⟩) ?_
            rotate_left
            · (try dsimp only at hS); go_simp; try with_reducible rfl
            simp only [Act.put, List.setIfInBounds_toArray, List.set_cons_zero, List.set_cons_succ]
          refine wpS_go rfl ?_
          go_wp2_with fail
          refine hq3'.out.mono ?_
          rintro e w8 ⟨p8, c8, rfl, o8, b8⟩
          have b8' := Lib.hid (hbd8.out.trans (b8.mono hbd8.out.size))
          have hq4 := putI02_calls _ Y3 nx w8 o8.bytes (by omega) r2.1 (by omega)
          rw [hY4'.out] at hq4
          have hq4' := Lib.hid hq4
          have bE9 := b1'.out.below b8'.out b1'.out.lt
          have hS9 : w8.cell? ⟨w.heap.size, 4, none⟩ = some (.int .i64 lg) ∧ w8.cell? ⟨w.heap.size, 5, none⟩ = some (.int .i64 nx) := ⟨by rw [bE9.cell]; rfl, by rw [bE9.cell]; rfl⟩
          clear hq4 o8 b8 hq3' bE9
          go_wp2_with fail
          refine ⟨fun _ => hS9, ?_⟩
          refine wpS_go rfl ?_
          go_wp2_with fail
          refine hq4'.out.mono ?_
          rintro e w9 ⟨p9, c9, rfl, o9, b9⟩
          have b9' := Lib.hid (b8'.out.trans (b9.mono b8'.out.size))
          have o9' := Lib.hid (o9.mono (B' := w.heap.size) (Nat.le_trans hB1'.out.size b8'.out.size))
          have bE10 := b1'.out.below b9'.out b1'.out.lt
          have hS10 : w9.cell? ⟨w.heap.size, 4, none⟩ = some (.int .i64 lg) ∧ w9.cell? ⟨w.heap.size, 5, none⟩ = some (.int .i64 nx) := ⟨by rw [bE10.cell]; rfl, by rw [bE10.cell]; rfl⟩
          clear o9 b9 hq4' bE10
          go_wp2_with fail
          refine ⟨fun _ => hS10, ?_⟩
          refine wpS_take (v := ?_) rfl (.inl ⟨by rfl, fun w' hS => ?_⟩) ?_
          rotate_left
          · (try dsimp only at hS); go_simp; try with_reducible rfl
          simp only [Act.put, List.setIfInBounds_toArray, List.set_cons_zero, List.set_cons_succ]
          clear hS10 hS9 hS8
          refine wpS_end ?_
          go_wp2_with fail
          rw [← hPP'.out, hYe.out]
          exact ⟨p9, c9, rfl, o9'.out, hB1'.out.trans (b9'.out.mono hB1'.out.size)⟩
end Go.Proofs.YtabcdodjkfknlaaGreatDoor
namespace Go.Proofs.YtabcdodjkfknlaaGreatDoor
open Go.RowKit
theorem loadB_rest {v : Ver} (h : v.ok = true) (hf : v.whole.fits) (hl : v.whole.bytes.length < 4294967296) {rest : List UInt8} (hr : (nextL rest).1 ≠ 0) : loadB Ver.first false (sealL v.whole.bytes ++ rest) = some (v, true) := by
  have hn : nextL (sealL v.whole.bytes ++ rest) = (0, v.whole.bytes) := next_seal hl rest
  have h1 : (nextL (sealL v.whole.bytes ++ rest)).1 = 0 := by rw [hn]
  have h2 : (nextL (sealL v.whole.bytes ++ rest)).2 = v.whole.bytes := by rw [hn]
  have hd := decode_bytes hf
  have ha := apply_whole h
  rw [loadB_next h1 (by rw [h2, hd]) (by rw [h2, hd, ha]), h2, hd, ha]
  have hdr : (sealL v.whole.bytes ++ rest).drop (8 + v.whole.bytes.length) = rest := by
    rw [← sealL_len]; exact List.drop_left
  rw [hdr, loadB_end hr]
/-- a frame's beginning is no frame -/
theorem next_torn {l : List UInt8} {n j : Nat} (hl : l.length < 4294967296) (hj : j < 8 + l.length) : (nextL ((be32 l.length ++ be32 n ++ l).take j)).1 ≠ 0 := by
  have hlen : (be32 l.length ++ be32 n ++ l).length = 8 + l.length := by
    rw [List.length_append, List.length_append]
    show 4 + 4 + l.length = _
    omega
  have htl : ((be32 l.length ++ be32 n ++ l).take j).length = j := by rw [List.length_take, hlen]; omega
  unfold nextL
  rw [if_pos]
  · exact (by decide : (7 : Nat) ≠ 0)
  · rw [htl]
    by_cases h8 : j < 8
    · exact .inl h8
    · right
      have e : (be32 l.length ++ be32 n ++ l).take j = be32 l.length ++ ((be32 n ++ l).take (j - 4)) := by
        rw [List.append_assoc, List.take_append, List.take_of_length_le (show (be32 l.length).length ≤ j by show 4 ≤ j; omega)]
        rfl
      rw [e, rd32_be hl]
      omega
theorem tbl_len2 {t : Tbl} (hf : t.few = true) (hl : t.lang) : t.bytes.length ≤ 350 := by
  have hf' : t.first.size + t.last.size ≤ 300 := of_decide_eq_true hf
  obtain ⟨l1, l2, l3, l4, l5, l6⟩ := hl
  have u1 := (uv_len10 (n := t.num.toNat) (by omega)).2
  have u2 := (uv_len10 (n := t.level.toNat) (by omega)).2
  have u3 := (uv_len10 (n := t.size.toNat) (by omega)).2
  have u4 := (uv_len10 (n := t.first.size) (by omega)).2
  have u5 := (uv_len10 (n := t.last.size) (by omega)).2
  unfold Tbl.bytes uvI utx
  simp only [List.length_append]
  have s1 := Lib.size_eq t.first
  have s2 := Lib.size_eq t.last
  omega
/-- a version of few tables takes few bytes -/
theorem bulk_few {v : Ver} (hf : v.few = true) (hl : ∀ t ∈ v.tables, t.lang) (hn : v.floor < 18446744073709551616 ∧ v.head < 18446744073709551616 ∧ -9223372036854775808 ≤ v.log ∧ v.log < 9223372036854775808 ∧ -9223372036854775808 ≤ v.next ∧ v.next < 9223372036854775808) : v.bulk ≤ 14100 := by
  unfold Ver.few at hf
  rw [Bool.and_eq_true, List.all_eq_true, decide_eq_true_eq] at hf
  obtain ⟨h1, h2⟩ := hf
  obtain ⟨n1, n2, n3, n4, n5, n6⟩ := hn
  have hfl := flat_le (f := Tbl.bytes) v.tables fun t ht => tbl_len2 (h1 t ht) (hl t ht)
  have h3 : v.tables.length * 350 ≤ 40 * 350 := Nat.mul_le_mul_right _ h2
  have u1 := (uv_len10 (n := v.tables.length) (by omega)).2
  have u2 := (uv_len10 (n := 0) (by omega)).2
  have u3 := (uv_len10 (n := v.floor) (by omega)).2
  have u4 := (uv_len10 (n := v.head) (by omega)).2
  have u5 := (uv_len10 (n := v.log.toNat) (by omega)).2
  have u6 := (uv_len10 (n := (v.next + 1).toNat) (by omega)).2
  unfold Ver.bulk
  show (uv v.tables.length ++ v.tables.flatMap Tbl.bytes ++ uv 0 ++ [] ++ uv v.floor ++ uv v.head ++ uv v.log.toNat ++ uv (v.next + 1).toNat).length ≤ _
  simp only [List.length_append, List.length_nil]
  omega
theorem few_sizes {v : Ver} (hf : v.few = true) : ∀ t ∈ v.tables, t.first.size ≤ 1000000 ∧ t.last.size ≤ 1000000 := by
  unfold Ver.few at hf
  rw [Bool.and_eq_true, List.all_eq_true] at hf
  intro t ht
  have := hf.1 t ht
  have : t.first.size + t.last.size ≤ 300 := of_decide_eq_true this
  omega
theorem few_tables {v : Ver} (hf : v.few = true) : v.tables.length ≤ 40 := by
  unfold Ver.few at hf
  rw [Bool.and_eq_true, decide_eq_true_eq] at hf
  exact hf.2
/-- a manifest with a torn end is loaded as it was -/
theorem torn_load {r : RD} {v : Ver} {rest : List UInt8} (h : Started r v) (hv : v.ok = true) (hn : fname 109 v.next.toNat ≠ []) (hf : v.up.whole.fits) (hl : v.bulk < 4294967296) (hr : (nextL rest).1 ≠ 0) (hroom : r.used + (8 + v.bulk) + 11 + rest.length ≤ r.cap) :
    (startR r v).1.appE (fname 109 v.next.toNat) rest.length = 0 ∧ loadR ((startR r v).1.append (fname 109 v.next.toNat) rest) = (v.up, v.next, 0) ∧ Okd ((startR r v).1.append (fname 109 v.next.toNat) rest) ∧ (∀ t, ((startR r v).1.append (fname 109 v.next.toNat) rest).view t = if t = fname 109 v.next.toNat then some (sealL v.up.whole.bytes ++ rest) else (startR r v).1.view t) := by
  obtain ⟨g1, g2, g3, g4⟩ := fname_dName rfl hn
  obtain ⟨_, h1, h3, _⟩ := fname_form rfl hn
  have hview : (startR r v).1.view (fname 109 v.next.toNat) = some (sealL v.up.whole.bytes) := by rw [h.view, if_neg g3, if_neg g4, if_pos rfl]
  have hu := h.used
  have hc := h.cap
  obtain ⟨a1, a2, a3, _, _⟩ := h.ok.append (b := rest) g1 hview (by omega)
  refine ⟨a1, ?_, a2, a3⟩
  rw [loadR_of a2 hn (by rw [a3, if_neg (Ne.symm g3), h.view, if_pos rfl]) (by rw [a3, if_pos rfl])]
  unfold loadM
  rw [loadB_rest (up_ok hv (by omega)) hf hl hr]
  show (v.up, ((v.next.toNat : Nat) : Int), (0 : Int)) = _
  rw [show ((v.next.toNat : Nat) : Int) = v.next by omega]
end Go.Proofs.YtabcdodjkfknlaaGreatDoor
namespace Go.Proofs.YtabcdodjkfknlaaGreatDoor
open Go.RowKit Go.Maps
/-- a type that no block of a disk has -/
def notDisk (T : TypeId) : Prop := T ≠ 82 ∧ T ≠ 116 ∧ T ≠ 101 ∧ T ≠ 5
theorem nd_ver : notDisk 30 := by unfold notDisk; decide
theorem nd_edt : notDisk 33 := by unfold notDisk; decide
theorem nd_tbl : notDisk 76 := by unfold notDisk; decide
theorem blk_map_ne {w : World} {g b n : Nat} {T K : TypeId} {cs : Array Value} {P : Program} {R : Value → Option (DataW Unit × List MemPlace)} {X : DataW Unit} (hg : Blk w g T cs) (hm : w.ownsMap P K R b n X) : g ≠ b := by
  rintro rfl
  obtain ⟨es, clock, h, _⟩ := hm
  unfold Blk at hg
  rw [hg] at h
  cases h
theorem DAt.apart {w : World} {B D m : Nat} {O : Nat → Prop} {r : RD} (h : DAt w B D O r m) {g : Nat} {T : TypeId} {cs : Array Value} (hg : Blk w g T cs) (hT : notDisk T) : ¬ O g := by
  obtain ⟨⟨k, bl, _, ⟨bd, bs, n, va, rows, hd, _, rfl⟩, _, _⟩, _⟩ := h
  obtain ⟨X, h1, _⟩ := hd.dir
  obtain ⟨Y, h3, _⟩ := hd.safe
  rintro (e | e | e | e | ⟨f, x, hf, e | e⟩)
  · exact Blk.ne_ hg hd.blk hT.1 e
  · exact blk_map_ne hg h1 e
  · exact blk_map_ne hg h3 e
  · exact own_blk_ne hd.acts hg (Ne.symm hT.2.1) e
  · exact Blk.ne_ hg (hd.file f x hf).2.1 hT.2.2.1 e
  · exact own_blk_ne (hd.file f x hf).2.2.1 hg (Ne.symm hT.2.2.2) e
theorem DAt.apartRow {α : Type} {k : RowK α} {w : World} {B B' D m : Nat} {O : Nat → Prop} {r : RD} {v : Value} {l : List α} (h : DAt w B D O r m) (ho : k.Own B' w v l) (hT : notDisk k.e) : ∀ g, v.ownBlock = some g → ¬ O g := fun g hg => by
  obtain ⟨cs, hb⟩ := own_blk ho g hg
  exact h.apart hb hT
/-- what stands behind a call on the disk -/
theorem DGo.blk2 {w w' : World} {B D m m' : Nat} {O : Nat → Prop} {r r' : RD} {g : Nat} {T : TypeId} {cs : Array Value} (h : DGo w B D O r' m' w') (hD : DAt w B D O r m) (hg : Blk w g T cs) (hT : notDisk T) : Blk w' g T cs := by
  obtain ⟨_, _, _, hk⟩ := h
  exact hg.keeps hk (hD.apart hg hT)
theorem DGo.row2 {α : Type} {k : RowK α} {w w' : World} {B B' D m m' : Nat} {O : Nat → Prop} {r r' : RD} {v : Value} {l : List α} (h : DGo w B D O r' m' w') (hD : DAt w B D O r m) (ho : k.Own B' w v l) (hT : notDisk k.e) : k.Own B' w' v l := by
  obtain ⟨_, _, _, hk⟩ := h
  exact ho.keeps hk (hD.apartRow ho hT)
theorem DGo.base {w0 w w' : World} {B D m m' B0 : Nat} {O : Nat → Prop} {r r' : RD} (h : DGo w B D O r' m' w') (hD : DAt w B D O r m) (hb : Below B0 w0 w) (hB : B0 ≤ B) : Below B0 w0 w' := by
  obtain ⟨_, _, _, hk⟩ := h
  exact Keeps.below_step hb (Nat.le_trans hB hD.le) hk fun j hj => Nat.le_trans hB (hD.lt j hj).1
end Go.Proofs.YtabcdodjkfknlaaGreatDoor
