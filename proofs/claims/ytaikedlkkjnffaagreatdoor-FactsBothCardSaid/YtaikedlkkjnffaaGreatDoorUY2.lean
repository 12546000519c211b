/- Walk: the document's set of tuples. -/
import Derived.Test.YtaikedlkkjnffaaGreatDoorUY1
import Derived.Test.YtaikedlkkjnffaaGreatDoorW8
import Derived.Test.YtaikedlkkjnffaaGreatDoorW10
import Derived.Test.YtaikedlkkjnffaaGreatDoorUV6
import Derived.Deep.RegionHeld3
import Derived.BigRegion
import Derived.IntWalk
namespace Go.Proofs.YtaikedlkkjnffaaGreatDoor
open Go.RowKit
attribute [local go_sem ↓] dapp_op
attribute [local go_sem ↓] dsl_op
attribute [local go_sem ↓] neq_tup
theorem ins_at : ∀ (l : List Tup) (t : Tup) (k : Nat), (∀ j u, j < k → l[j]? = some u → cmpT u t < 0) → k ≤ l.length → (∀ u, l[k]? = some u → ¬ cmpT u t < 0) → ins l t = if l[k]? = some t then l else l.take k ++ t :: l.drop k
  | [], t, k, _, hk, _ => by
    obtain rfl : k = 0 := by simpa using hk
    rfl
  | u :: l, t, 0, _, _, hs => by
    have h0 := hs u rfl
    unfold ins
    rw [if_neg h0]
    by_cases e : u = t
    · subst e; simp
    · rw [if_neg e, if_neg (by simpa using e)]; rfl
  | u :: l, t, k + 1, hlow, hk, hs => by
    have h0 := hlow 0 u (by omega) rfl
    unfold ins
    rw [if_pos h0, ins_at l t k (fun j v hj hv => hlow (j + 1) v (by omega) (by simpa using hv)) (by simpa using hk) (fun v hv => hs v (by simpa using hv))]
    simp only [List.getElem?_cons_succ, List.take_succ_cons, List.drop_succ_cons, List.cons_append]
    split <;> rfl
theorem setT_take_ok {l : List Tup} {k : Nat} {t : Tup} (h : l[k]? = some t) (ho : t.ok = true) : setT (l.take (k + 1)) = ins (setT (l.take k)) t := by
  unfold setT
  rw [take_succ' h, List.filter_append, List.foldl_append]
  simp [ho]
theorem setT_take_no {l : List Tup} {k : Nat} {t : Tup} (h : l[k]? = some t) (ho : t.ok = false) : setT (l.take (k + 1)) = setT (l.take k) := by
  unfold setT
  rw [take_succ' h, List.filter_append]
  simp [ho]
theorem ins_len : ∀ (l : List Tup) (t : Tup), (ins l t).length ≤ l.length + 1
  | [], _ => Nat.le_refl _
  | u :: l, t => by
    unfold ins
    split
    · have := ins_len l t; simp; omega
    · split <;> simp
theorem setT_len (l : List Tup) : ∀ k, (setT (l.take k)).length ≤ k := by
  intro k
  induction k with
  | zero => simp [setT]
  | succ k ih =>
    cases h : l[k]? with
    | none => rw [List.take_add_one, h]; simp; omega
    | some t =>
      cases ho : t.ok
      · rw [setT_take_no h ho]; omega
      · rw [setT_take_ok h ho]; have := ins_len (setT (l.take k)) t; omega
theorem last_S3 {w4 : World} {B r n c b k : Nat} {t u : Tup} {out : List Tup} (a4 : Blk w4 b 60 #[.string t.a, .string t.b, .string t.c, .string t.d, .string t.e, .string t.f]) (hT : TOwn B w4 (.slice (some ⟨r, 0, none⟩) n c) out) (hu : out[k]? = some u) :
    ∀ w', Below w4.heap.size w4 w' → (w'.cell? ⟨r, k * 6, none⟩ = some (.string u.a) ∧ w'.cell? ⟨r, k * 6 + 1, none⟩ = some (.string u.b) ∧ w'.cell? ⟨r, k * 6 + 2, none⟩ = some (.string u.c) ∧ w'.cell? ⟨r, k * 6 + 3, none⟩ = some (.string u.d) ∧ w'.cell? ⟨r, k * 6 + 4, none⟩ = some (.string u.e) ∧ w'.cell? ⟨r, k * 6 + 5, none⟩ = some (.string u.f) ∧ ∀ i, w'.cell? ⟨b, i, none⟩ = (#[.string t.a, .string t.b, .string t.c, .string t.d, .string t.e, .string t.f] : Array Value)[i]?) := by
  intro w' hB
  obtain ⟨x0, x1, x2, x3, x4, x5⟩ := (hT.later hB).six hu
  exact ⟨x0, x1, x2, x3, x4, x5, (a4.below hB a4.lt).cell⟩
set_option maxHeartbeats 4000000 in
set_option maxRecDepth 100000 in
theorem set_calls (l : List Tup) (p : Option Addr) (c : Nat) (w : World) (hl : l.length ≤ 100) (hT : holdsT w p l) (hf : ∀ t ∈ l, t.fits) :
    Calls Tryz.prog 8 #[.slice p l.length c] w fun e w' => ∃ v, e = .returned v ∧ TOwn w.heap.size w' v (setT l) ∧ Below w.heap.size w w' := by
  obtain ⟨n, hN⟩ : ∃ n, l.length = n := ⟨_, rfl⟩
  rw [hN] at hl ⊢
  have hN' := Lib.hid hN
  have hT' := Lib.hid hT
  have hf' := Lib.hid hf
  clear hN hT hf
  go_enter Tryz.func8, Tryz.ntmps8
  go_wp2_with fail
  go_loopw [3, 9] (fun v i wr => ∃ k : Nat, k ≤ n ∧ i = .int .i64 k ∧ TOwn w.heap.size wr v (setT (l.take k)) ∧ Below w.heap.size w wr) (fun _ i _ => n - (intOf i).toNat)
  case atStart => exact ⟨0, Nat.zero_le _, rfl, TOwn.nil _ _, Below.refl _ _⟩
  case round =>
    obtain ⟨k, hk, rfl, hS, hB⟩ := hrel
    obtain ⟨ps, cs, rfl⟩ := hS.slice
    by_cases hlt : k < n
    · obtain ⟨t, ht⟩ : ∃ t, l[k]? = some t := ⟨_, List.getElem?_eq_getElem (by rw [hN'.out]; exact hlt)⟩
      obtain ⟨a1, b1, rfl, ha, hbl, x0, x1, x2, x3, x4, x5⟩ := (hT'.out.below hB) k t ht
      have htf := hf'.out t (List.mem_of_getElem? ht)
      have hsk := setT_len l k
      obtain ⟨S, hSd⟩ : ∃ S, setT (l.take k) = S := ⟨_, rfl⟩
      rw [hSd] at hS hsk ⊢
      obtain ⟨M, hM⟩ : ∃ M, S.length = M := ⟨_, rfl⟩
      rw [hM] at hS hsk ⊢
      have A5 := (Below.refl wr.heap.size wr).alloc (Nat.le_refl _) (.cells #[.string t.a, .string t.b, .string t.c, .string t.d, .string t.e, .string t.f] 60)
      have hxt := (Blk.new wr 60 #[.string t.a, .string t.b, .string t.c, .string t.d, .string t.e, .string t.f])
      have hxc := hxt.cell
      have S5 := Lib.hid (hS.later A5)
      have hz5 := hB.size
      have B5 := Lib.hid (hB.trans (A5.mono hz5))
      have hC := Lib.hid (refCheck_calls t (wr.alloc (.cells #[.string t.a, .string t.b, .string t.c, .string t.d, .string t.e, .string t.f] 60)) htf)
      have hxt' := Lib.hid hxt
      have hM' := Lib.hid hM
      cases hok : t.ok
      · have hst := Lib.hid ((setT_take_no ht hok).trans hSd)
        have hck : t.check = 2 := by unfold Tup.check; rw [hok]; rfl
        rw [hck] at hC
        clear hS hB A5 ht hok hxt hM hSd hck
        go_wp2_with fail
        refine hC.out.mono ?_
        rintro e w6 ⟨rfl, hb6⟩
        have S6 := Lib.hid (S5.out.later hb6)
        have B6 := Lib.hid (B5.out.trans (hb6.mono (by simp; omega)))
        clear hb6 S5 B5 hC x0 x1 x2 x3 x4 x5 hxc hxt'
        go_wp2_with fail
        go_roundw
        case rel => exact ⟨k + 1, by omega, by go_num, by rw [hst.out]; exact S6.out, B6.out⟩
        case measure => simp [intOf]; omega
      · have hst := Lib.hid ((setT_take_ok ht hok).trans (by rw [hSd]))
        have hck : t.check = 0 := by unfold Tup.check; rw [hok]; rfl
        rw [hck] at hC
        clear hS hB A5 ht hok hxt hM hSd hck
        go_wp2_with fail
        refine hC.out.mono ?_
        rintro e w6 ⟨rfl, hb6⟩
        have S6 := Lib.hid (S5.out.later hb6)
        have hz6 : wr.heap.size + 1 ≤ w6.heap.size := by simpa using hb6.size
        have B6 := Lib.hid (B5.out.trans (hb6.mono (by simp; omega)))
        have X6 := Lib.hid (hxt'.out.below hb6 (by simp))
        clear hb6 S5 B5 hC x0 x1 x2 x3 x4 x5 hxc hxt'
        go_wp2_with fail
        obtain ⟨b, hb⟩ : ∃ b, wr.heap.size = b := ⟨_, rfl⟩
        rw [hb] at X6 hz6 ⊢
        have hbw : w.heap.size ≤ b := by omega
        clear hb hz5
        obtain ⟨wo, rfl⟩ : ∃ wo : World, wo = wr := ⟨_, rfl⟩
        go_loopw [6] (fun i wx => ∃ q : Nat, q ≤ M ∧ i = .int .i64 q ∧ (∀ j u, j < q → S[j]? = some u → cmpT u t < 0) ∧ TOwn w.heap.size wx (.slice ps M cs) S ∧ Blk wx b 60 #[.string t.a, .string t.b, .string t.c, .string t.d, .string t.e, .string t.f] ∧ Below w.heap.size w wx) (fun i _ => M - (intOf i).toNat)
        case atStart => exact ⟨0, Nat.zero_le _, rfl, fun j u hj => absurd hj (by omega), S6.out, X6.out, B6.out⟩
        case round =>
          obtain ⟨q, hq, rfl, hlow, hSx, hXx, hBx⟩ := hrel
          have hwx := hBx.size
          by_cases hqM : q < M
          · obtain ⟨u, hu⟩ : ∃ u, S[q]? = some u := ⟨_, List.getElem?_eq_getElem (by rw [hM'.out]; exact hqM)⟩
            obtain ⟨r, c', hv, _, _, hr4, _⟩ := hSx.cells (by rw [hM'.out]; omega)
            obtain ⟨rfl, rfl⟩ : ps = some ⟨r, 0, none⟩ ∧ cs = c' := by injection hv with h1 _ h3; exact ⟨h1, h3⟩
            have hSS := Lib.hid (last_S3 hXx hSx hu)
            have hCm := Lib.hid (refCmp_calls u t)
            have hlow' := Lib.hid hlow
            have hSx' := Lib.hid hSx
            have hXx' := Lib.hid hXx
            have hBx' := Lib.hid hBx
            have hu' := Lib.hid hu
            clear hv hlow hSx hXx hBx hu
            go_wp2_with fail
            go_region_held3 (fun w' => w'.cell? ⟨r, q * 6, none⟩ = some (.string u.a) ∧ w'.cell? ⟨r, q * 6 + 1, none⟩ = some (.string u.b) ∧ w'.cell? ⟨r, q * 6 + 2, none⟩ = some (.string u.c) ∧ w'.cell? ⟨r, q * 6 + 3, none⟩ = some (.string u.d) ∧ w'.cell? ⟨r, q * 6 + 4, none⟩ = some (.string u.e) ∧ w'.cell? ⟨r, q * 6 + 5, none⟩ = some (.string u.f) ∧ ∀ i, w'.cell? ⟨b, i, none⟩ = (#[.string t.a, .string t.b, .string t.c, .string t.d, .string t.e, .string t.f] : Array Value)[i]?) (first | exact hSS.out _ (Below.refl _ _).drew | exact hSS.out _ ((Below.refl _ _).drew.trans hb7)) (first | (go_at_call 30; refine (hCm.out _).mono ?_; rintro e w7 ⟨rfl, hb7⟩))
            have b7 := (Below.refl wr.heap.size wr).drew.trans hb7
            have S7 := Lib.hid (hSx'.out.later b7)
            have X7 := Lib.hid (hXx'.out.below b7 hXx'.out.lt)
            have B7 := Lib.hid (hBx'.out.trans (b7.mono hwx))
            clear hb7 b7 hSS hCm hSx' hXx' hBx'
            by_cases hcm : cmpT u t < 0
            · go_wp2_with fail
              go_roundw
              case rel => exact ⟨q + 1, by omega, by go_num, (fun j v hj hv => by
                by_cases e : j = q
                · subst e; rw [hu'.out] at hv; cases hv; exact hcm
                · exact hlow'.out j v (by omega) hv), S7.out, X7.out, B7.out⟩
              case measure => simp [intOf]; omega
            · go_wp2_with fail
              have hqe : ((q : Int) == (M : Int)) = false := by rw [beq_eq_false_iff_ne]; omega
              obtain ⟨x0, x1, x2, x3, x4, x5⟩ := S7.out.six hu'.out
              have y := X7.out.cell
              by_cases hut : u = t
              · subst hut
                have hsm : same6 u.a u.b u.c u.d u.e u.f u.a u.b u.c u.d u.e u.f = true := same_eq.2 rfl
                have hsm2 : (!same6 u.a u.b u.c u.d u.e u.f u.a u.b u.c u.d u.e u.f) = false := by rw [hsm]; rfl
                have hst2 := hst.out
                rw [ins_at S u q hlow'.out (by rw [hM'.out]; omega) (fun v hv => by rw [hu'.out] at hv; cases hv; omega), if_pos hu'.out] at hst2
                have hst2' := Lib.hid hst2
                clear hst2
                go_wp2_with fail
                go_quiet (fail)
                go_wp2_with fail
                go_roundw
                case rel => exact ⟨k + 1, by omega, by go_num, by rw [hst2'.out]; exact S7.out.later (bdrewN (Below.refl _ _) nq), bdrewN B7.out nq⟩
                case measure => simp [intOf]; omega
              · have hsm : same6 u.a u.b u.c u.d u.e u.f t.a t.b t.c t.d t.e t.f = false := by
                  rw [Bool.eq_false_iff]
                  intro e
                  exact hut (same_eq.1 e)
                have hsm2 : (!same6 u.a u.b u.c u.d u.e u.f t.a t.b t.c t.d t.e t.f) = true := by rw [hsm]; rfl
                go_wp2_with fail
                go_quiet (fail)
                obtain ⟨w8, e8⟩ : ∃ w8, w7.drewN nq = w8 := ⟨_, rfl⟩
                rw [e8]
                have b8 : Below w7.heap.size w7 w8 := by rw [← e8]; exact bdrewN (Below.refl _ _) nq
                have S8h := Lib.hid (S7.out.later b8)
                have X8h := Lib.hid (X7.out.below b8 X7.out.lt)
                have B8h := Lib.hid (B7.out.trans (b8.mono (by have := B7.out.size; exact this)))
                clear e8 b8
                clear x0 x1 x2 x3 x4 x5 y hsm hsm2
                have S8 := S8h.out
                have X8 := X8h.out
                have hM := hM'.out
                have hml : M ≤ 100 := by omega
                have hcap : M ≤ cs := by
                  rw [← hM] at S8
                  rcases S8.2 with ⟨e, _⟩ | ⟨g, cap, cur, e, _, _, h3, _⟩
                  · injection e with _ e2 e3; omega
                  · injection e with _ e2 e3; omega
                have S8n := S8
                rw [← hM] at S8n
                have c1 := canT_low (i := q) S8n (by omega) (by omega)
                have c3 := canT_high (i := q) S8n (by omega) (by omega)
                rw [hM] at c3
                have hx1 := low_run (some ⟨r, 0, none⟩) M cs q (by omega)
                have hx3 := high_run (some ⟨r, 0, none⟩) M cs q (by omega)
                obtain ⟨x3, hx3e⟩ : ∃ x3, (Value.slice (if cs = q then some ⟨r, 0, none⟩ else (some (⟨r, 0, none⟩ : Addr)).map (·.add (q * 6))) (M - q) (cs - q)) = x3 := ⟨_, rfl⟩
                rw [hx3e] at c3 hx3
                have hn1 : (S.take q).length = q := by rw [List.length_take]; omega
                have bE := (Below.refl w8.heap.size w8).alloc (Nat.le_refl _) (.cells #[] 60)
                have bO := (Below.refl w8.heap.size w8).alloc (Nat.le_refl _) (.cells #[.string t.a, .string t.b, .string t.c, .string t.d, .string t.e, .string t.f] 60)
                have bEO := (bE.alloc (by simp) (.cells #[.string t.a, .string t.b, .string t.c, .string t.d, .string t.e, .string t.f] 60)).drew
                have bOE := (bO.alloc (by simp) (.cells #[] 60)).drew
                have oE : TOwn w8.heap.size (w8.alloc (.cells #[] 60)) (.slice (some ⟨w8.heap.size, 0, none⟩) 0 0) [] := World.ownsRow_lit w8 #[] 0 (Nat.le_refl _) (by unfold maxLen; omega) rfl
                have oE2 := World.ownsRow_lit (base := w8.heap.size) (e := 60) (size := 6) (w8.alloc (.cells #[.string t.a, .string t.b, .string t.c, .string t.d, .string t.e, .string t.f] 60)) #[] 0 (by simp) (by unfold maxLen; omega) rfl
                rw [World.size_alloc] at oE2
                have oEO : TOwn w8.heap.size ((w8.alloc (.cells #[] 60)).alloc (.cells #[.string t.a, .string t.b, .string t.c, .string t.d, .string t.e, .string t.f] 60)).drew (.slice (some ⟨w8.heap.size, 0, none⟩) 0 0) [] := oE.later (((Below.refl _ _).alloc (Nat.le_refl _) (.cells #[.string t.a, .string t.b, .string t.c, .string t.d, .string t.e, .string t.f] 60)).drew)
                have oOE : TOwn w8.heap.size ((w8.alloc (.cells #[.string t.a, .string t.b, .string t.c, .string t.d, .string t.e, .string t.f] 60)).alloc (.cells #[] 60)).drew (.slice (some ⟨w8.heap.size + 1, 0, none⟩) 0 0) [] := oE2.drew
                have hbO := Blk.new (w8.alloc (.cells #[] 60)) 60 #[.string t.a, .string t.b, .string t.c, .string t.d, .string t.e, .string t.f]
                rw [World.size_alloc] at hbO
                obtain ⟨p1, k1, w1, p2, k2, w2, p3, k3, w3, T⟩ := three_one (Wd := w8) hn1 (by omega) bEO oEO c1 c3 hbO.drew (by simp [Value.ownBlock])
                obtain ⟨p1', k1', w1', p2', k2', w2', p3', k3', w3', T'⟩ := three_one (Wd := w8) hn1 (by omega) bOE oOE c1 c3 (((Blk.new w8 60 #[.string t.a, .string t.b, .string t.c, .string t.d, .string t.e, .string t.f]).alloc (.cells #[] 60)).drew) (by simp [Value.ownBlock])
                obtain ⟨p1'', k1'', w1'', p2'', k2'', w2'', p3'', k3'', w3'', T''⟩ := three_late (Wd := w8) (t := t) hn1 (by omega) bE.drew oE c1 c3
                have e1 := T.r1
                have e2 := T.r2
                have e3 := T.r3
                have e1' := T'.r1
                have e2' := T'.r2
                have e3' := T'.r3
                have e1'' := T''.r1
                have e2'' := T''.r2
                have e3'' := T''.r3
                have gb := X8.cell
                have gE := (X8.below bE X8.lt).cell
                have gL := (X8.below T''.b1 X8.lt).cell
                have lb := X8.lt
                have D := Lib.hid T
                have D' := Lib.hid T'
                have D'' := Lib.hid T''
                have hB8 := Lib.hid B8h.out.size
                have hins := ins_at S t q hlow'.out (by rw [hM'.out]; omega) (fun v hv => by rw [hu'.out] at hv; cases hv; omega)
                have hst2 := hst.out
                rw [hins, if_neg (by rw [hu'.out]; intro e; exact hut (Option.some.inj e))] at hst2
                have hst2' := Lib.hid hst2
                clear T T' T'' oE oE2 oEO oOE hbO bE bO bEO bOE c1 c3 hx3e S8 S8n X8 hM hins hst2 hn1
                go_wp2_with fail
                go_region
                all_goals
                  clear e1 e2 e3 e1' e2' e3' e1'' e2'' e3'' gb gE gL hx1 hx3
                  go_wp2_with fail
                  go_roundw
                  case rel =>
                    refine ⟨k + 1, by omega, by go_num, ?_, ?_⟩
                    · rw [hst2'.out]
                      first | exact D.out.own.mono hB8.out | exact D'.out.own.mono hB8.out | exact D''.out.own.mono hB8.out
                    · first | exact B8h.out.trans (D.out.b3.mono hB8.out) | exact B8h.out.trans (D'.out.b3.mono hB8.out) | exact B8h.out.trans (D''.out.b3.mono hB8.out)
                  case measure => simp [intOf]; omega
          · obtain rfl : M = q := by omega
            have hqe : ((M : Int) == (M : Int)) = true := by simp
            have S7 := Lib.hid hSx
            have X7 := Lib.hid hXx
            have B7 := Lib.hid hBx
            have hlow' := Lib.hid hlow
            clear hSx hXx hBx hlow
            go_wp2_with fail
            go_quiet (fail)
            obtain ⟨w7, e7⟩ : ∃ w7, wr.drewN nq = w7 := ⟨_, rfl⟩
            rw [e7]
            have b7 : Below wr.heap.size wr w7 := by rw [← e7]; exact bdrewN (Below.refl _ _) nq
            clear e7
            go_wp2_with fail
            go_quiet (fail)
            obtain ⟨w8, e8⟩ : ∃ w8, w7.drewN nq = w8 := ⟨_, rfl⟩
            rw [e8]
            have b8 : Below wr.heap.size wr w8 := by rw [← e8]; exact bdrewN b7 nq
            have S8h := Lib.hid (S7.out.later b8)
            have X8h := Lib.hid (X7.out.below b8 X7.out.lt)
            have B8h := Lib.hid (B7.out.trans (b8.mono (by have := B7.out.size; exact this)))
            clear e8 b8
            have S8 := S8h.out
            have X8 := X8h.out
            have hM := hM'.out
            have hml : M ≤ 100 := by omega
            have hcap : M ≤ cs := by
              rw [← hM] at S8
              rcases S8.2 with ⟨e, _⟩ | ⟨g, cap, cur, e, _, _, h3, _⟩
              · injection e with _ e2 e3; omega
              · injection e with _ e2 e3; omega
            have S8n := S8
            rw [← hM] at S8n
            have c1 := canT_low (i := M) S8n (by omega) (by omega)
            have c3 := canT_high (i := M) S8n (by omega) (by omega)
            rw [hM] at c3
            have hx1 := low_run ps M cs M (by omega)
            have hx3 := high_run ps M cs M (by omega)
            obtain ⟨x3, hx3e⟩ : ∃ x3, (Value.slice (if cs = M then ps else ps.map (·.add (M * 6))) (M - M) (cs - M)) = x3 := ⟨_, rfl⟩
            rw [hx3e] at c3 hx3
            have hn1 : (S.take M).length = M := by rw [List.length_take]; omega
            have bE := (Below.refl w8.heap.size w8).alloc (Nat.le_refl _) (.cells #[] 60)
            have bO := (Below.refl w8.heap.size w8).alloc (Nat.le_refl _) (.cells #[.string t.a, .string t.b, .string t.c, .string t.d, .string t.e, .string t.f] 60)
            have bEO := (bE.alloc (by simp) (.cells #[.string t.a, .string t.b, .string t.c, .string t.d, .string t.e, .string t.f] 60)).drew
            have bOE := (bO.alloc (by simp) (.cells #[] 60)).drew
            have oE : TOwn w8.heap.size (w8.alloc (.cells #[] 60)) (.slice (some ⟨w8.heap.size, 0, none⟩) 0 0) [] := World.ownsRow_lit w8 #[] 0 (Nat.le_refl _) (by unfold maxLen; omega) rfl
            have oE2 := World.ownsRow_lit (base := w8.heap.size) (e := 60) (size := 6) (w8.alloc (.cells #[.string t.a, .string t.b, .string t.c, .string t.d, .string t.e, .string t.f] 60)) #[] 0 (by simp) (by unfold maxLen; omega) rfl
            rw [World.size_alloc] at oE2
            have oEO : TOwn w8.heap.size ((w8.alloc (.cells #[] 60)).alloc (.cells #[.string t.a, .string t.b, .string t.c, .string t.d, .string t.e, .string t.f] 60)).drew (.slice (some ⟨w8.heap.size, 0, none⟩) 0 0) [] := oE.later (((Below.refl _ _).alloc (Nat.le_refl _) (.cells #[.string t.a, .string t.b, .string t.c, .string t.d, .string t.e, .string t.f] 60)).drew)
            have oOE : TOwn w8.heap.size ((w8.alloc (.cells #[.string t.a, .string t.b, .string t.c, .string t.d, .string t.e, .string t.f] 60)).alloc (.cells #[] 60)).drew (.slice (some ⟨w8.heap.size + 1, 0, none⟩) 0 0) [] := oE2.drew
            have hbO := Blk.new (w8.alloc (.cells #[] 60)) 60 #[.string t.a, .string t.b, .string t.c, .string t.d, .string t.e, .string t.f]
            rw [World.size_alloc] at hbO
            obtain ⟨p1, k1, w1, p2, k2, w2, p3, k3, w3, T⟩ := three_one (Wd := w8) hn1 (by omega) bEO oEO c1 c3 hbO.drew (by simp [Value.ownBlock])
            obtain ⟨p1', k1', w1', p2', k2', w2', p3', k3', w3', T'⟩ := three_one (Wd := w8) hn1 (by omega) bOE oOE c1 c3 (((Blk.new w8 60 #[.string t.a, .string t.b, .string t.c, .string t.d, .string t.e, .string t.f]).alloc (.cells #[] 60)).drew) (by simp [Value.ownBlock])
            obtain ⟨p1'', k1'', w1'', p2'', k2'', w2'', p3'', k3'', w3'', T''⟩ := three_late (Wd := w8) (t := t) hn1 (by omega) bE.drew oE c1 c3
            have e1 := T.r1
            have e2 := T.r2
            have e3 := T.r3
            have e1' := T'.r1
            have e2' := T'.r2
            have e3' := T'.r3
            have e1'' := T''.r1
            have e2'' := T''.r2
            have e3'' := T''.r3
            have gb := X8.cell
            have gE := (X8.below bE X8.lt).cell
            have gL := (X8.below T''.b1 X8.lt).cell
            have lb := X8.lt
            have D := Lib.hid T
            have D' := Lib.hid T'
            have D'' := Lib.hid T''
            have hB8 := Lib.hid B8h.out.size
            have hins := ins_at S t M hlow'.out (by rw [hM'.out]; exact Nat.le_refl _) (fun v hv => by rw [List.getElem?_eq_none (by rw [hM'.out]; exact Nat.le_refl _)] at hv; cases hv)
            have hst2 := hst.out
            rw [hins, if_neg (by rw [List.getElem?_eq_none (by rw [hM'.out]; exact Nat.le_refl _)]; intro e; cases e)] at hst2
            have hst2' := Lib.hid hst2
            clear T T' T'' oE oE2 oEO oOE hbO bE bO bEO bOE c1 c3 hx3e S8 S8n X8 hM hins hst2 hn1
            go_wp2_with fail
            go_region
            all_goals
              clear e1 e2 e3 e1' e2' e3' e1'' e2'' e3'' gb gE gL hx1 hx3
              go_wp2_with fail
              go_roundw
              case rel =>
                refine ⟨k + 1, by omega, by go_num, ?_, ?_⟩
                · rw [hst2'.out]
                  first
                    | (have h9 := D.out.own.mono hB8.out; rw [Nat.sub_self, Nat.add_zero] at h9; exact h9)
                    | (have h9 := D'.out.own.mono hB8.out; rw [Nat.sub_self, Nat.add_zero] at h9; exact h9)
                    | (have h9 := D''.out.own.mono hB8.out; rw [Nat.sub_self, Nat.add_zero] at h9; exact h9)
                · first | exact B8h.out.trans (D.out.b3.mono hB8.out) | exact B8h.out.trans (D'.out.b3.mono hB8.out) | exact B8h.out.trans (D''.out.b3.mono hB8.out)
              case measure => simp [intOf]; omega
    · obtain rfl : k = n := by omega
      rw [List.take_of_length_le (by rw [hN'.out]; exact Nat.le_refl _)] at hS ⊢
      go_wp2_with fail
      go_ret
      exact ⟨.slice ps (setT l).length cs, rfl, hS, hB⟩
end Go.Proofs.YtaikedlkkjnffaaGreatDoor
