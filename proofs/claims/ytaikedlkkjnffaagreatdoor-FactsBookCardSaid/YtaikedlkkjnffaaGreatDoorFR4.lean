/- Walk: the document's objects of a type. -/
import Derived.Test.YtaikedlkkjnffaaGreatDoorFR3
namespace Go.Proofs.YtaikedlkkjnffaaGreatDoor
open Go.RowKit
attribute [local go_sem ↓] dapp_op
attribute [local go_sem ↓] dslK_op
attribute [local go_sem ↓] neq_ob
theorem two_at (t : Tup) (q : Nat) (hq : q < 2) {x : Ob} (hx : [t.ob, t.so][q]? = some x) : (#[.string t.a, .string t.b, .string t.d, .string t.e] : Array Value)[q * 2]? = some (.string x.t) ∧ (#[.string t.a, .string t.b, .string t.d, .string t.e] : Array Value)[q * 2 + 1]? = some (.string x.i) := by
  rcases q with _ | _ | q
  · obtain rfl : t.ob = x := by simpa using hx
    exact ⟨rfl, rfl⟩
  · obtain rfl : t.so = x := by simpa using hx
    exact ⟨rfl, rfl⟩
  · omega
/-- amid: what is held while one object is laid in -/
structure OIn (w wx : World) (b b9 : Nat) (ps : Option Addr) (M cs : Nat) (S : List Ob) (t : Tup) (x : Ob) : Prop where
  own : rkO.Own w.heap.size wx (.slice ps M cs) S
  two : Blk wx b 24 #[.string t.a, .string t.b, .string t.d, .string t.e]
  obj : Blk wx b9 24 #[.string x.t, .string x.i]
  below : Below w.heap.size w wx
theorem OIn.later {w wx w' : World} {b b9 : Nat} {ps : Option Addr} {M cs : Nat} {S : List Ob} {t : Tup} {x : Ob} (h : OIn w wx b b9 ps M cs S t x) (hb : Below wx.heap.size wx w') : OIn w w' b b9 ps M cs S t x :=
  ⟨h.own.later hb, h.two.below hb h.two.lt, h.obj.below hb h.obj.lt, h.below.trans (hb.mono h.below.size)⟩
theorem OIn.at_ {w wx : World} {b b9 : Nat} {ps : Option Addr} {M cs q : Nat} {S : List Ob} {t : Tup} {x u : Ob} (h : OIn w wx b b9 ps M cs S t x) (hu : S[q]? = some u) : ∃ r, ps = some ⟨r, 0, none⟩ ∧ r < wx.heap.size ∧ ∀ w', Below wx.heap.size wx w' → w'.cell? ⟨r, q * 2, none⟩ = some (.string u.t) ∧ w'.cell? ⟨r, q * 2 + 1, none⟩ = some (.string u.i) ∧ ∀ i, w'.cell? ⟨b9, i, none⟩ = (#[.string x.t, .string x.i] : Array Value)[i]? := by
  have hlt := (List.getElem?_eq_some_iff.1 hu).1
  obtain ⟨g, c', hv, _, _, hg, _⟩ := h.own.cells (by omega)
  obtain rfl : ps = some ⟨g, 0, none⟩ := by injection hv
  refine ⟨g, rfl, hg, fun w' hb => ?_⟩
  obtain ⟨a, e, _, hc⟩ := (h.own.later hb).at_ rkO_ok q u hu
  obtain rfl := Option.some.inj e
  have h0 := hc 0 (.string u.t) rfl
  have h1 := hc 1 (.string u.i) rfl
  rw [addr_at] at h0 h1
  exact ⟨h0, h1, (h.obj.below hb h.obj.lt).cell⟩
set_option maxHeartbeats 8000000 in
set_option maxRecDepth 100000 in
theorem refObjects_calls (l : List Tup) (a : Option Addr) (c : Nat) (typ : ByteArray) (w : World) (hl : l.length ≤ 1000) (hT : holdsT w a l) :
    Calls Tryz.prog 17 #[.slice a l.length c, .string typ] w fun e w' => ∃ v, e = .returned v ∧ rkO.Own w.heap.size w' v (objsG (allO l) typ) ∧ Below w.heap.size w w' := by
  obtain ⟨n, hN⟩ : ∃ n, l.length = n := ⟨_, rfl⟩
  rw [hN] at hl ⊢
  have hN' := Lib.hid hN
  have hT' := Lib.hid hT
  clear hN hT
  go_enter Tryz.func17, Tryz.ntmps17
  go_wp2_with fail
  go_loopw [5, 13] (fun v i wr => ∃ k : Nat, k ≤ n ∧ i = .int .i64 k ∧ rkO.Own w.heap.size wr v (objsG (allO (l.take k)) typ) ∧ Below w.heap.size w wr) (fun _ i _ => n - (intOf i).toNat)
  case atStart => exact ⟨0, Nat.zero_le _, rfl, RowK.Own.nil _ _ _, Below.refl _ _⟩
  case round =>
    obtain ⟨k, hk, rfl, hS, hB⟩ := hrel
    obtain ⟨ps0, cs0, rfl⟩ := hS.slice
    by_cases hlt : k < n
    · obtain ⟨t, ht⟩ : ∃ t, l[k]? = some t := ⟨_, List.getElem?_eq_getElem (by rw [hN'.out]; exact hlt)⟩
      obtain ⟨a1, b1, rfl, ha, hbl, x0, x1, x2, x3, x4, x5⟩ := (hT'.out.below hB) k t ht
      have hxt := (Blk.new wr 60 #[.string t.a, .string t.b, .string t.c, .string t.d, .string t.e, .string t.f]).cell
      have A6 := ((Below.refl wr.heap.size wr).alloc (Nat.le_refl _) (.cells #[.string t.a, .string t.b, .string t.c, .string t.d, .string t.e, .string t.f] 60)).alloc (by simp) (.cells #[.string t.a, .string t.b, .string t.d, .string t.e] 24)
      have X6 := Blk.new (wr.alloc (.cells #[.string t.a, .string t.b, .string t.c, .string t.d, .string t.e, .string t.f] 60)) 24 #[.string t.a, .string t.b, .string t.d, .string t.e]
      rw [World.size_alloc] at X6
      have S6 := Lib.hid (hS.later A6)
      have X6' := Lib.hid X6
      have B6 := Lib.hid (hB.trans (A6.mono hB.size))
      have hst := Lib.hid (show allO (l.take k) ++ [t.ob, t.so] = allO (l.take (k + 1)) by rw [take_snocT ht, allO_app])
      have hal : (allO (l.take k)).length ≤ 2 * k := by rw [allO_len, List.length_take]; omega
      clear hS hB A6 X6 ht
      go_wp2_with fail
      clear x0 x1 x2 x3 x4 x5 hxt ha
      obtain ⟨b, hb⟩ : ∃ b, wr.heap.size + 1 = b := ⟨_, rfl⟩
      have hX6 := X6'.out
      rw [hb] at hX6 ⊢
      have hb' := Lib.hid hb
      have X6'' := Lib.hid hX6
      clear hb hX6 X6'
      obtain ⟨wo, rfl⟩ : ∃ wo : World, wo = wr := ⟨_, rfl⟩
      go_loopw [5, 24] (fun v i wx => ∃ j : Nat, j ≤ 2 ∧ i = .int .i64 j ∧ rkO.Own w.heap.size wx v (objsG (allO (l.take k) ++ [t.ob, t.so].take j) typ) ∧ Blk wx b 24 #[.string t.a, .string t.b, .string t.d, .string t.e] ∧ Below w.heap.size w wx) (fun _ i _ => 2 - (intOf i).toNat)
      case atStart => exact ⟨0, by omega, rfl, by rw [List.take_zero, List.append_nil]; exact S6.out, X6''.out, B6.out⟩
      case round =>
        obtain ⟨j, hj, rfl, hS, hX, hB⟩ := hrel
        obtain ⟨ps, cs, rfl⟩ := hS.slice
        by_cases hj2 : j < 2
        · obtain ⟨x, hx⟩ : ∃ x, [t.ob, t.so][j]? = some x := ⟨_, List.getElem?_eq_getElem (by simpa using hj2)⟩
          obtain ⟨y0, y1⟩ := two_at t j hj2 hx
          have z0 := (hX.cell (j * 2)).trans y0
          have z1 := (hX.cell (j * 2 + 1)).trans y1
          have hlen := objsG_len (allO (l.take k) ++ [t.ob, t.so].take j) typ
          obtain ⟨S, hSd⟩ : ∃ S, objsG (allO (l.take k) ++ [t.ob, t.so].take j) typ = S := ⟨_, rfl⟩
          rw [hSd] at hS hlen ⊢
          obtain ⟨M, hM⟩ : ∃ M, S.length = M := ⟨_, rfl⟩
          have hM2 : M ≤ 100000 := by rw [← hM]; rw [List.length_append, List.length_take] at hlen; simp at hlen; omega
          rw [hM] at hS ⊢
          have bA := (Below.refl wr.heap.size wr).alloc (Nat.le_refl _) (.cells #[.string x.t, .string x.i] 24)
          have hI := Lib.hid (show OIn w (wr.alloc (.cells #[.string x.t, .string x.i] 24)) b wr.heap.size ps M cs S t x from ⟨hS.later bA, hX.below bA hX.lt, Blk.new _ _ _, hB.trans (bA.mono hB.size)⟩)
          have hyes := Lib.hid (fun (h : x.t = typ) => (show objsG (allO (l.take k) ++ [t.ob, t.so].take (j + 1)) typ = insG cmpO S x by rw [take_snocT hx, ← List.append_assoc, objsG_yes h, hSd]))
          have hno := Lib.hid (fun (h : x.t ≠ typ) => (show objsG (allO (l.take k) ++ [t.ob, t.so].take (j + 1)) typ = S by rw [take_snocT hx, ← List.append_assoc, objsG_no h, hSd]))
          have hM' := Lib.hid hM
          clear hS hX hB y0 y1 hSd hlen hM bA hx S6 X6'' B6
          have hjd : decide ((j : Int) < 2) = true := decide_eq_true (by omega)
          go_wp2_with fail
          clear hjd
          clear z0 z1
          obtain ⟨b9, hb9⟩ : ∃ b9, wr.heap.size = b9 := ⟨_, rfl⟩
          obtain ⟨w9, e9⟩ : ∃ w9, wr.alloc (.cells #[.string x.t, .string x.i] 24) = w9 := ⟨_, rfl⟩
          have hI' := hI.out
          rw [hb9, e9] at hI'
          rw [hb9, e9]
          have hI9 := Lib.hid hI'
          clear hI hI' hb9 e9
          obtain ⟨wo2, rfl⟩ : ∃ wo2 : World, wo2 = wr := ⟨_, rfl⟩
          go_loopw [10] (fun i wx => ∃ q : Nat, q ≤ M ∧ i = .int .i64 q ∧ (∀ j u, j < q → S[j]? = some u → cmpO u x < 0) ∧ OIn w wx b b9 ps M cs S t x) (fun i _ => M - (intOf i).toNat)
          case atStart => exact ⟨0, Nat.zero_le _, rfl, fun j u hj => absurd hj (by omega), hI9.out⟩
          case round =>
            obtain ⟨q, hq, rfl, hlow, hO⟩ := hrel
            have hlow' := Lib.hid hlow
            have hO' := Lib.hid hO
            clear hlow
            by_cases hqM : q < M
            · obtain ⟨u, hu⟩ : ∃ u, S[q]? = some u := ⟨_, List.getElem?_eq_getElem (by rw [hM'.out]; exact hqM)⟩
              obtain ⟨r, rfl, hr, hcl⟩ := hO.at_ hu
              have hSS := Lib.hid hcl
              have hCm := Lib.hid (less_calls u x)
              have hu' := Lib.hid hu
              clear hO hcl hu
              go_wp2_with fail
              go_region_held3 (fun w' => w'.cell? ⟨r, q * 2, none⟩ = some (.string u.t) ∧ w'.cell? ⟨r, q * 2 + 1, none⟩ = some (.string u.i) ∧ ∀ i, w'.cell? ⟨b9, i, none⟩ = (#[.string x.t, .string x.i] : Array Value)[i]?) (first | exact hSS.out _ (Below.refl _ _).drew | exact hSS.out _ ((Below.refl _ _).drew.trans hb7)) (first | (go_at_call 36; refine (hCm.out _).mono ?_; rintro e w7 ⟨rfl, hb7⟩))
              have b7 := (Below.refl wr.heap.size wr).drew.trans hb7
              have O7 := Lib.hid (hO'.out.later b7)
              have hcl := hSS.out _ b7
              have hcl' := Lib.hid hcl
              clear hb7 b7 hSS hCm hcl
              by_cases hcm : cmpO u x < 0
              · go_wp2_with fail
                go_roundw
                case rel => exact ⟨q + 1, by omega, by go_num, (fun i v hi hv => by
                  by_cases e : i = q
                  · subst e; rw [hu'.out] at hv; cases hv; exact hcm
                  · exact hlow'.out i v (by omega) hv), O7.out⟩
                case measure => simp [intOf]; omega
              · have hqe : ((q : Int) == (M : Int)) = false := by rw [beq_eq_false_iff_ne]; omega
                have cb := O7.out.obj.cell
                obtain ⟨x0, x1, _⟩ := hcl'.out
                by_cases hty : x.t = typ
                · have hsT : (x.t.toList == typ.toList) = true := by rw [hty]; simp
                  have hty' := Lib.hid hty
                  clear hty
                  by_cases hux : u = x
                  · have hsm : same2 u.t u.i x.t x.i = true := by rw [hux]; exact same2_self _ _
                    have hux' := Lib.hid hux
                    clear hux
                    go_wp2_with fail
                    go_quiet (fail)
                    have O8 := Lib.hid (O7.out.later (bdrewN (Below.refl _ _) nq))
                    clear x0 x1 cb
                    go_wp2_with fail
                    go_roundw
                    case rel =>
                      exact ⟨j + 1, by omega, by go_num, by rw [hyes.out hty'.out, insG_at S x q hlow'.out (by rw [hM'.out]; exact hq) (fun v hv => by rw [hu'.out] at hv; cases hv; omega), if_pos (by rw [hu'.out, hux'.out])]; exact O8.out.own, O8.out.two, O8.out.below⟩
                    case measure => simp [intOf]; omega
                  · have hsm : same2 u.t u.i x.t x.i = false := Ob.same_no hux
                    have hux' := Lib.hid hux
                    have hcm' := Lib.hid hcm
                    clear hux hcm
                    go_wp2_with fail
                    go_quiet (fail)
                    clear x0 x1 cb hsm hsT hqe
                    obtain ⟨w8, e8⟩ : ∃ w8, w7.drewN nq = w8 := ⟨_, rfl⟩
                    rw [e8]
                    have b8 : Below w7.heap.size w7 w8 := by rw [← e8]; exact bdrewN (Below.refl _ _) nq
                    have O8 := O7.out.later b8
                    obtain ⟨x3, hx1, hx3, ⟨p1, k1, w1, p2, k2, w2, p3, k3, w3, T⟩, ⟨p1', k1', w1', p2', k2', w2', p3', k3', w3', T'⟩, ⟨p1'', k1'', w1'', p2'', k2'', w2'', p3'', k3'', w3'', T''⟩⟩ := put_orders x O8.own hM'.out hq hM2
                    have e1 := T.r1
                    have e2 := T.r2
                    have e3 := T.r3
                    have e1' := T'.r1
                    have e2' := T'.r2
                    have e3' := T'.r3
                    have e1'' := T''.r1
                    have e2'' := T''.r2
                    have e3'' := T''.r3
                    change (dappOp #[40, 40] 40 _).run Tryz.prog _ = _ at e1 e2 e3 e1' e2' e3' e1'' e2'' e3''
                    have gb := O8.obj.cell
                    have gE := (O8.obj.below ((Below.refl w8.heap.size w8).alloc (Nat.le_refl _) (.cells #[] 24)) O8.obj.lt).cell
                    have gL := (O8.obj.below T''.b1 O8.obj.lt).cell
                    have lb := O8.obj.lt
                    have hz8 := O8.below.size
                    have R1 := Lib.hid (And.intro (T.own.mono hz8) (And.intro (O8.two.below T.b3 O8.two.lt) (O8.below.trans (T.b3.mono hz8))))
                    have R2 := Lib.hid (And.intro (T'.own.mono hz8) (And.intro (O8.two.below T'.b3 O8.two.lt) (O8.below.trans (T'.b3.mono hz8))))
                    have R3 := Lib.hid (And.intro (T''.own.mono hz8) (And.intro (O8.two.below T''.b3 O8.two.lt) (O8.below.trans (T''.b3.mono hz8))))
                    have hins := Lib.hid (show insG cmpO S x = S.take q ++ x :: S.drop q by
                      rw [insG_at S x q hlow'.out (by rw [hM'.out]; exact hq) (fun v hv => by rw [hu'.out] at hv; cases hv; exact fun h => absurd h (by have := hcm'.out; omega)), if_neg (by rw [hu'.out]; intro e; exact hux'.out (Option.some.inj e))])
                    clear e8 b8 O8 T T' T'' hz8
                    go_wp2_with fail
                    go_region
                    all_goals
                      clear e1 e2 e3 e1' e2' e3' e1'' e2'' e3'' gb gE gL hx1 hx3
                      go_wp2_with fail
                      go_roundw
                      case rel =>
                        first
                          | exact ⟨j + 1, by omega, by go_num, by rw [hyes.out hty'.out, hins.out]; exact R1.out.1, R1.out.2.1, R1.out.2.2⟩
                          | exact ⟨j + 1, by omega, by go_num, by rw [hyes.out hty'.out, hins.out]; exact R2.out.1, R2.out.2.1, R2.out.2.2⟩
                          | exact ⟨j + 1, by omega, by go_num, by rw [hyes.out hty'.out, hins.out]; exact R3.out.1, R3.out.2.1, R3.out.2.2⟩
                      case measure => simp [intOf]; omega
                · have hsT : (x.t.toList == typ.toList) = false := by
                    rw [Bool.eq_false_iff]; intro e; rw [beq_iff_eq, Lib.toList_data, Lib.toList_data] at e; exact hty (bytes_ext e)
                  have hty' := Lib.hid hty
                  clear hty
                  go_wp2_with fail
                  go_quiet (fail)
                  have O8 := Lib.hid (O7.out.later (bdrewN (Below.refl _ _) nq))
                  clear x0 x1 cb
                  go_wp2_with fail
                  go_roundw
                  case rel =>
                    exact ⟨j + 1, by omega, by go_num, by rw [hno.out hty'.out]; exact O8.out.own, O8.out.two, O8.out.below⟩
                  case measure => simp [intOf]; omega
            · obtain rfl : M = q := by omega
              have hqe : ((M : Int) == (M : Int)) = true := by simp
              clear hO
              go_wp2_with fail
              go_quiet (fail)
              obtain ⟨w7, e7⟩ : ∃ w7, wr.drewN nq = w7 := ⟨_, rfl⟩
              rw [e7]
              have b7 : Below wr.heap.size wr w7 := by rw [← e7]; exact bdrewN (Below.refl _ _) nq
              have O7 := Lib.hid (hO'.out.later b7)
              clear e7 b7
              have cb := O7.out.obj.cell
              by_cases hty : x.t = typ
              · have hsT : (x.t.toList == typ.toList) = true := by rw [hty]; simp
                have hty' := Lib.hid hty
                clear hty
                go_wp2_with fail
                go_quiet (fail)
                clear cb hsT
                obtain ⟨w8, e8⟩ : ∃ w8, w7.drewN nq = w8 := ⟨_, rfl⟩
                rw [e8]
                have b8 : Below w7.heap.size w7 w8 := by rw [← e8]; exact bdrewN (Below.refl _ _) nq
                have O8 := O7.out.later b8
                obtain ⟨x3, hx1, hx3, ⟨p1, k1, w1, p2, k2, w2, p3, k3, w3, T⟩, ⟨p1', k1', w1', p2', k2', w2', p3', k3', w3', T'⟩, ⟨p1'', k1'', w1'', p2'', k2'', w2'', p3'', k3'', w3'', T''⟩⟩ := put_orders x O8.own hM'.out (Nat.le_refl M) hM2
                have e1 := T.r1
                have e2 := T.r2
                have e3 := T.r3
                have e1' := T'.r1
                have e2' := T'.r2
                have e3' := T'.r3
                have e1'' := T''.r1
                have e2'' := T''.r2
                have e3'' := T''.r3
                change (dappOp #[40, 40] 40 _).run Tryz.prog _ = _ at e1 e2 e3 e1' e2' e3' e1'' e2'' e3''
                have gb := O8.obj.cell
                have gE := (O8.obj.below ((Below.refl w8.heap.size w8).alloc (Nat.le_refl _) (.cells #[] 24)) O8.obj.lt).cell
                have gL := (O8.obj.below T''.b1 O8.obj.lt).cell
                have lb := O8.obj.lt
                have hz8 := O8.below.size
                have R1 := Lib.hid (And.intro (by have h9 := T.own.mono hz8; rw [Nat.sub_self, Nat.add_zero] at h9; exact h9) (And.intro (O8.two.below T.b3 O8.two.lt) (O8.below.trans (T.b3.mono hz8))))
                have R2 := Lib.hid (And.intro (by have h9 := T'.own.mono hz8; rw [Nat.sub_self, Nat.add_zero] at h9; exact h9) (And.intro (O8.two.below T'.b3 O8.two.lt) (O8.below.trans (T'.b3.mono hz8))))
                have R3 := Lib.hid (And.intro (by have h9 := T''.own.mono hz8; rw [Nat.sub_self, Nat.add_zero] at h9; exact h9) (And.intro (O8.two.below T''.b3 O8.two.lt) (O8.below.trans (T''.b3.mono hz8))))
                have hins := Lib.hid (show insG cmpO S x = S.take M ++ x :: S.drop M by
                  rw [insG_at S x M hlow'.out (by rw [hM'.out]; exact Nat.le_refl _) (fun v hv => by rw [List.getElem?_eq_none (by rw [hM'.out]; exact Nat.le_refl _)] at hv; cases hv), if_neg (by rw [List.getElem?_eq_none (by rw [hM'.out]; exact Nat.le_refl _)]; intro e; cases e)])
                clear e8 b8 O8 T T' T'' hz8
                go_wp2_with fail
                go_region
                all_goals
                  clear e1 e2 e3 e1' e2' e3' e1'' e2'' e3'' gb gE gL hx1 hx3
                  go_wp2_with fail
                  go_roundw
                  case rel =>
                    first
                      | exact ⟨j + 1, by omega, by go_num, by rw [hyes.out hty'.out, hins.out]; exact R1.out.1, R1.out.2.1, R1.out.2.2⟩
                      | exact ⟨j + 1, by omega, by go_num, by rw [hyes.out hty'.out, hins.out]; exact R2.out.1, R2.out.2.1, R2.out.2.2⟩
                      | exact ⟨j + 1, by omega, by go_num, by rw [hyes.out hty'.out, hins.out]; exact R3.out.1, R3.out.2.1, R3.out.2.2⟩
                  case measure => simp [intOf]; omega
              · have hsT : (x.t.toList == typ.toList) = false := by
                  rw [Bool.eq_false_iff]; intro e; rw [beq_iff_eq, Lib.toList_data, Lib.toList_data] at e; exact hty (bytes_ext e)
                have hty' := Lib.hid hty
                clear hty
                go_wp2_with fail
                go_quiet (fail)
                have O8 := Lib.hid (O7.out.later (bdrewN (Below.refl _ _) nq))
                clear cb
                go_wp2_with fail
                go_roundw
                case rel =>
                  exact ⟨j + 1, by omega, by go_num, by rw [hno.out hty'.out]; exact O8.out.own, O8.out.two, O8.out.below⟩
                case measure => simp [intOf]; omega
        · obtain rfl : j = 2 := by omega
          have hSS := Lib.hid (show rkO.Own w.heap.size wr (.slice ps (objsG (allO (l.take k) ++ List.take 2 [t.ob, t.so]) typ).length cs) (objsG (allO (l.take (k + 1))) typ) by rw [← hst.out]; exact hS)
          have hBB := Lib.hid hB
          clear hS hX hB
          go_wp2_with fail
          go_roundw
          case rel => exact ⟨k + 1, by omega, by go_num, hSS.out, hBB.out⟩
          case measure => simp [intOf]; omega
    · obtain rfl : k = n := by omega
      rw [List.take_of_length_le (by rw [hN'.out]; exact Nat.le_refl _)] at hS ⊢
      go_wp2_with fail
      go_ret
      exact ⟨_, rfl, hS, hB⟩
end Go.Proofs.YtaikedlkkjnffaaGreatDoor
