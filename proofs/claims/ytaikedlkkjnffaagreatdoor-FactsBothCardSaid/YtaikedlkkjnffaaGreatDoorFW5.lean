/- Walk: facts.NewBook. -/
import Derived.Test.YtaikedlkkjnffaaGreatDoorFW4
namespace Go.Proofs.YtaikedlkkjnffaaGreatDoor
open Go.RowKit Go.Maps
attribute [local go_sem ↓] dapp_op
/-- behind k of the tuples -/
structure NB (W0 wx : World) (g bs bp bo k : Nat) (C : List Tup) (v4 : Value) : Prop where
  ex : ∃ N f, BookAt wx W0.heap.size g bs bp bo N f (subsD ((C.take k).filter Tup.ok)) (pointsD ((C.take k).filter Tup.ok)) (allO ((C.take k).filter Tup.ok)) ∧ N ≤ 10 * k
  row : ∃ B, TOwn B wx v4 C
  below : Below W0.heap.size W0 wx
theorem NB.later {W0 wx w' : World} {g bs bp bo k : Nat} {C : List Tup} {v4 : Value} (h : NB W0 wx g bs bp bo k C v4) (hb : Below wx.heap.size wx w') : NB W0 w' g bs bp bo k C v4 := by
  obtain ⟨N, f, h1, h2⟩ := h.ex
  obtain ⟨B, hT⟩ := h.row
  exact ⟨⟨N, f, h1.below hb, h2⟩, ⟨B, hT.later hb⟩, h.below.trans (hb.mono h.below.size)⟩
theorem NB.skip {W0 wx : World} {g bs bp bo k : Nat} {C : List Tup} {v4 : Value} {t : Tup} (h : NB W0 wx g bs bp bo k C v4) (ht : C[k]? = some t) (ho : t.ok = false) : NB W0 wx g bs bp bo (k + 1) C v4 := by
  obtain ⟨N, f, h1, h2⟩ := h.ex
  have e : (C.take (k + 1)).filter Tup.ok = (C.take k).filter Tup.ok := by rw [take_snocT ht, List.filter_append]; simp [ho]
  exact ⟨⟨N, f, by rw [e]; exact h1, by omega⟩, h.row, h.below⟩
theorem index_two (a b d e : ByteArray) (q : Nat) (hq : q < 2) (x : Ob) (hx : [(⟨a, b⟩ : Ob), ⟨d, e⟩][q]? = some x) (w : World) : (Instr.index 83 (.agg #[.string a, .string b, .string d, .string e]) (.int .i64 q)).run Tryz.prog w = .ok (.agg #[.string x.t, .string x.i]) w := by
  rcases q with _ | _ | q
  · obtain rfl : (⟨a, b⟩ : Ob) = x := by simpa using hx
    kernel_rfl
  · obtain rfl : (⟨d, e⟩ : Ob) = x := by simpa using hx
    kernel_rfl
  · omega
theorem ob_size {t : Tup} (h : t.fits) {q : Nat} (hq : q < 2) {x : Ob} (hx : [t.ob, t.so][q]? = some x) : x.t.size ≤ maxLen ∧ x.i.size ≤ maxLen := by
  rcases q with _ | _ | q
  · obtain rfl : t.ob = x := by simpa using hx
    exact ⟨h _ (t.part_mem 0 (by omega)), h _ (t.part_mem 1 (by omega))⟩
  · obtain rfl : t.so = x := by simpa using hx
    exact ⟨h _ (t.part_mem 3 (by omega)), h _ (t.part_mem 4 (by omega))⟩
  · omega
theorem eql_nil0 (W : World) : (binOp .eql 84 (.map none) (.map none)).run Tryz.prog W = .ok (.bool true) W := by kernel_rfl
theorem eql_nil1 (b : Nat) (W : World) : (binOp .eql 84 (.map (some b)) (.map none)).run Tryz.prog W = .ok (.bool false) W := by kernel_rfl
theorem filter_snoc {C : List Tup} {k : Nat} {t : Tup} (ht : C[k]? = some t) (ho : t.ok = true) : (C.take (k + 1)).filter Tup.ok = (C.take k).filter Tup.ok ++ [t] := by
  rw [take_snocT ht, List.filter_append]; simp [ho]
set_option maxHeartbeats 8000000 in
set_option maxRecDepth 100000 in
theorem newBook_calls (l : List Tup) (p0 : Option Addr) (c0 : Nat) (w : World) (hl : l.length ≤ 100) (hT : holdsT w p0 l) (hf : ∀ t ∈ l, t.fits) :
    Calls Tryz.prog 7 #[.slice p0 l.length c0] w fun e w' => ∃ g bs bp bo N f, e = .returned (.pointer (some ⟨g, 0, none⟩)) ∧ BookAt w' w.heap.size g bs bp bo N f (subsD (setT l)) (pointsD (setT l)) (allO (setT l)) ∧ N ≤ 1000 ∧ Below w.heap.size w w' := by
  obtain ⟨n, hN⟩ : ∃ n, l.length = n := ⟨_, rfl⟩
  rw [hN] at hl ⊢
  have hN' := Lib.hid hN
  have hT' := Lib.hid hT
  have hf' := Lib.hid hf
  -- the three maps and the book
  have bs0 := GrpAt.made rkS 26 w w.heap.size
  have k1 : Below (w.alloc (.map #[] 0)).heap.size (w.alloc (.map #[] 0)) ((w.alloc (.map #[] 0)).alloc (.map #[] 0)) := (Below.refl _ _).alloc (Nat.le_refl _) _
  have bp0 := GrpAt.made rkP 27 (w.alloc (.map #[] 0)) w.heap.size
  have bs1 := bs0.below k1
  have k2 : Below ((w.alloc (.map #[] 0)).alloc (.map #[] 0)).heap.size ((w.alloc (.map #[] 0)).alloc (.map #[] 0)) (((w.alloc (.map #[] 0)).alloc (.map #[] 0)).alloc (.map #[] 0)) := (Below.refl _ _).alloc (Nat.le_refl _) _
  have bo0 := ObjsAt.made ((w.alloc (.map #[] 0)).alloc (.map #[] 0))
  have bs2 := bs1.below k2
  have bp2 := bp0.below k2
  simp only [World.size_alloc] at bp2 bo0
  have k3 := (Below.refl (((w.alloc (.map #[] 0)).alloc (.map #[] 0)).alloc (.map #[] 0)).heap.size (((w.alloc (.map #[] 0)).alloc (.map #[] 0)).alloc (.map #[] 0))).alloc (Nat.le_refl _) (.cells #[.map (some w.heap.size), .map (some (w.heap.size + 1)), .map (some (w.heap.size + 1 + 1))] 76)
  have bg := Blk.new (((w.alloc (.map #[] 0)).alloc (.map #[] 0)).alloc (.map #[] 0)) 76 #[.map (some w.heap.size), .map (some (w.heap.size + 1)), .map (some (w.heap.size + 1 + 1))]
  simp only [World.size_alloc] at bg
  have K0 : BookAt _ w.heap.size (w.heap.size + 1 + 1 + 1) w.heap.size (w.heap.size + 1) (w.heap.size + 1 + 1) 0 (fun _ => none) (fun _ => []) (fun _ => []) [] := ⟨bg, bs2.below k3, bp2.below k3, bo0.below k3, ⟨Nat.le_refl _, by omega, by omega, by omega⟩⟩
  have B0 : Below w.heap.size w ((((w.alloc (.map #[] 0)).alloc (.map #[] 0)).alloc (.map #[] 0)).alloc (.cells #[.map (some w.heap.size), .map (some (w.heap.size + 1)), .map (some (w.heap.size + 1 + 1))] 76)) := ((((Below.refl _ _).alloc (Nat.le_refl _) _).alloc (by simp) _).alloc (by simp; omega) _).alloc (by simp; omega) _
  have K0' := Lib.hid K0
  have B0' := Lib.hid B0
  clear hN hT hf bs0 k1 bp0 bs1 k2 bo0 bs2 bp2 k3 bg K0 B0
  have hmm := @run_makeMap Tryz.prog
  go_enter Tryz.func7, Tryz.ntmps7
  go_wp2_with fail
  obtain ⟨W4, e4⟩ : ∃ W4, ((((w.alloc (.map #[] 0)).alloc (.map #[] 0)).alloc (.map #[] 0)).alloc (.cells #[.map (some w.heap.size), .map (some (w.heap.size + 1)), .map (some (w.heap.size + 1 + 1))] 76)) = W4 := ⟨_, rfl⟩
  rw [e4] at K0' B0' ⊢
  clear e4 hmm
  refine (values_calls p0 n c0 W4).mono ?_
  rintro e w2 ⟨rfl, hw2⟩
  have b2 : Below W4.heap.size W4 w2 := by rw [← hw2]; exact (Below.refl _ _).alloc (Nat.le_refl _) _
  have hz2 : Hid (w2.heap.size = W4.heap.size + 1) := Lib.hid (by rw [← hw2]; simp)
  have hw4 := B0'.out.size
  have T2 := (hT'.out.below B0'.out).below b2
  have S := sorted_calls W4.heap.size p0 c0 l (by rw [hN'.out]; omega) w2 (by rw [hz2.out]; omega) (by rw [hN'.out, ← hw2]; exact (Blk.new W4 22 #[.slice p0 n c0]).cell 0) T2.tin
  have S' := Lib.hid S
  have b2' := Lib.hid b2
  clear hw2 b2 T2 S
  go_wp2_with fail
  refine S'.out.mono ?_
  rintro e w3 ⟨v3, s, rfl, hso, hT3, hB3⟩
  obtain ⟨p3, c3, rfl⟩ := hT3.slice
  have hsl : s.length = n := by rw [← hN'.out]; exact hso.1.length_eq
  have hC := Lib.hid (compact_calls hT3 (by omega))
  have hlow3 := Lib.hid (fun j hj => (hT3.lt j hj).1)
  have b3 := Lib.hid (b2'.out.trans (hB3.mono b2'.out.size))
  have hso' := Lib.hid hso
  have hz3 := Lib.hid (Nat.le_trans b2'.out.size hB3.size)
  have hsl' := Lib.hid hsl
  clear hT3 S' hB3 hso hsl
  go_wp2_with fail
  refine hC.out.mono ?_
  rintro e w4 ⟨v4, rfl, hT4, hK4⟩
  have B4 := Keeps.below_step b3.out hz3.out hK4 fun j e => Nat.le_trans b2'.out.size (hlow3.out j e)
  obtain ⟨C, hCd⟩ : ∃ C, compactT s = C := ⟨_, rfl⟩
  rw [hCd] at hT4
  have hmem : ∀ t ∈ C, t.fits := fun t ht => by
    rw [← hCd, compactT_mem] at ht
    exact hf'.out t ((hso'.out.1.mem_iff).1 ht)
  have hset : C.filter Tup.ok = setT l := by
    rw [← hCd]
    exact sorted_set hso'.out.2 fun x => hso'.out.1.mem_iff
  have hCl : C.length ≤ 100 := by
    have := compactT_len s
    rw [hCd, hsl'.out] at this
    omega
  obtain ⟨p4, c4, rfl⟩ := hT4.slice
  have NB0 : NB w w4 (w.heap.size + 1 + 1 + 1) w.heap.size (w.heap.size + 1) (w.heap.size + 1 + 1) 0 C (.slice p4 C.length c4) :=
    ⟨⟨0, _, by rw [List.take_zero]; exact K0'.out.below B4, Nat.le_refl _⟩, ⟨_, hT4⟩, B0'.out.trans (B4.mono hw4)⟩
  obtain ⟨m, hm⟩ : ∃ m, C.length = m := ⟨_, rfl⟩
  rw [hm] at NB0 hCl ⊢
  have hmem' := Lib.hid hmem
  have hset' := Lib.hid hset
  have hm' := Lib.hid hm
  have NB0' := Lib.hid NB0
  clear hmem hset hm NB0 hT4 hK4 B4 hCd hC hlow3 b3 hso' hz3 hsl' b2' hz2 K0' B0' hw4 hf' hT'
  go_wp2_with fail
  go_loopw [20] (fun i wr => ∃ k : Nat, k ≤ m ∧ i = .int .i64 k ∧ NB w wr (w.heap.size + 1 + 1 + 1) w.heap.size (w.heap.size + 1) (w.heap.size + 1 + 1) k C (.slice p4 m c4)) (fun i _ => m - (intOf i).toNat)
  case atStart => exact ⟨0, Nat.zero_le _, rfl, NB0'.out⟩
  case round =>
    obtain ⟨k, hk, rfl, hNB⟩ := hrel
    by_cases hlt : k < m
    · obtain ⟨t, ht⟩ : ∃ t, C[k]? = some t := ⟨_, List.getElem?_eq_getElem (by rw [hm'.out]; exact hlt)⟩
      have hrow := hNB.row
      obtain ⟨BT, hT⟩ := hrow
      obtain ⟨a1, b1, rfl, ha, hbl, x0, x1, x2, x3, x4, x5⟩ := hT.holds k t ht
      have htf := hmem'.out t (List.mem_of_getElem? ht)
      have A5 := (Below.refl wr.heap.size wr).alloc (Nat.le_refl _) (.cells #[.string t.a, .string t.b, .string t.c, .string t.d, .string t.e, .string t.f] 60)
      have X5 := Blk.new wr 60 #[.string t.a, .string t.b, .string t.c, .string t.d, .string t.e, .string t.f]
      have hxt := X5.cell
      have N5 := Lib.hid (hNB.later A5)
      have X5' := Lib.hid X5
      have hz5 := Lib.hid hNB.below.size
      cases hok : t.ok
      · have hC := check_calls t (wr.alloc (.cells #[.string t.a, .string t.b, .string t.c, .string t.d, .string t.e, .string t.f] 60)) htf
        have hck : t.check = 2 := by unfold Tup.check; rw [hok]; rfl
        rw [hck] at hC
        have hC' := Lib.hid hC
        have ht' := Lib.hid ht
        have hok' := Lib.hid hok
        clear hNB hT A5 X5 ht hok hck hC htf
        go_wp2_with fail
        refine hC'.out.mono ?_
        rintro e w6 ⟨rfl, hb6⟩
        have N6 := Lib.hid ((N5.out.later hb6).skip ht'.out hok'.out)
        clear hb6 N5 hC' x0 x1 x2 x3 x4 x5 hxt
        go_wp2_with fail
        go_roundw
        case rel => exact ⟨k + 1, by omega, by go_num, N6.out⟩
        case measure => simp [intOf]; omega
      · have hC := check_calls t (wr.alloc (.cells #[.string t.a, .string t.b, .string t.c, .string t.d, .string t.e, .string t.f] 60)) htf
        have hck : t.check = 0 := by unfold Tup.check; rw [hok]; rfl
        rw [hck] at hC
        have hC' := Lib.hid hC
        have ht' := Lib.hid ht
        have hok' := Lib.hid hok
        have htf' := Lib.hid htf
        clear hNB hT A5 X5 ht hok hck hC htf
        go_wp2_with fail
        refine hC'.out.mono ?_
        rintro e w6 ⟨rfl, hb6⟩
        have N6 := Lib.hid (N5.out.later hb6)
        have X6 := Lib.hid (X5'.out.below hb6 X5'.out.lt)
        have hz6 : Hid (wr.heap.size < w6.heap.size) := Lib.hid (by have := hb6.size; simp at this; omega)
        clear hb6 N5 hC' x0 x1 x2 x3 x4 x5 hxt X5'
        have y6 := X6.out.cell
        go_upto_region 8 with fail
        obtain ⟨N, f, hBk, hNk⟩ := N6.out.ex
        obtain ⟨BT, hT6⟩ := N6.out.row
        have hbel6 := N6.out.below
        obtain ⟨g, hg⟩ : ∃ g, w.heap.size + 1 + 1 + 1 = g := ⟨_, rfl⟩
        rw [hg] at hBk ⊢
        obtain ⟨bo, hbo⟩ : ∃ bo, w.heap.size + 1 + 1 = bo := ⟨_, rfl⟩
        rw [hbo] at hBk ⊢
        obtain ⟨bp, hbp⟩ : ∃ bp, w.heap.size + 1 = bp := ⟨_, rfl⟩
        rw [hbp] at hBk ⊢
        obtain ⟨b5, hb5⟩ : ∃ b5, wr.heap.size = b5 := ⟨_, rfl⟩
        have X6' := X6.out
        rw [hb5] at X6' ⊢
        have b7 := (Below.refl w6.heap.size w6).alloc (Nat.le_refl _) (.cells #[.string t.a, .string t.b, .string t.c] 26)
        have P7 := Blk.new w6 26 #[.string t.a, .string t.b, .string t.c]
        obtain ⟨w7, e7⟩ : ∃ w7, w6.alloc (.cells #[.string t.a, .string t.b, .string t.c] 26) = w7 := ⟨_, rfl⟩
        rw [e7] at b7 P7 ⊢
        obtain ⟨b6, hb6⟩ : ∃ b6, w6.heap.size = b6 := ⟨_, rfl⟩
        have AM : Amid w w7 w.heap.size g w.heap.size bp bo N f (subsD ((C.take k).filter Tup.ok)) (pointsD ((C.take k).filter Tup.ok)) (allO ((C.take k).filter Tup.ok)) b5 t (.slice (some a1) m c4) C :=
          ⟨hBk.below b7, X6'.below b7 X6'.lt, ⟨BT, hT6.later b7⟩, hbel6.trans (b7.mono hbel6.size)⟩
        rw [hb6] at P7 ⊢
        have hnames := Lib.hid (And.intro hg (And.intro hbo (And.intro hbp (And.intro hb5 hb6))))
        obtain ⟨L, hL⟩ : ∃ L, (C.take k).filter Tup.ok = L := ⟨_, rfl⟩
        rw [hL] at AM
        have hLs := Lib.hid (show (C.take (k + 1)).filter Tup.ok = L ++ [t] by rw [filter_snoc ht'.out hok'.out, hL])
        have hLl : L.length ≤ k := by rw [← hL]; exact Nat.le_trans (List.length_filter_le _ _) (List.length_take_le _ _)
        clear hg hbo hbp hb5 hb6 e7 b7 hBk hT6 hbel6 X6' N6 X6 hL y6 hz6 ha hz5
        have hN9 : N < 900000 := by omega
        have hsz : t.pt.x.size ≤ maxLen ∧ t.pt.y.size ≤ maxLen ∧ t.pt.z.size ≤ maxLen := ⟨htf'.out _ (t.part_mem 0 (by omega)), htf'.out _ (t.part_mem 1 (by omega)), htf'.out _ (t.part_mem 2 (by omega))⟩
        have hsz2 : t.sb.x.size ≤ maxLen ∧ t.sb.y.size ≤ maxLen ∧ t.sb.z.size ≤ maxLen := ⟨htf'.out _ (t.part_mem 3 (by omega)), htf'.out _ (t.part_mem 4 (by omega)), htf'.out _ (t.part_mem 5 (by omega))⟩
        have hk100 : k < 100 := by omega
        have AM' := Lib.hid AM
        have P7' := Lib.hid P7
        have hsz' := Lib.hid hsz
        have hsz2' := Lib.hid hsz2
        have hNk' := Lib.hid hNk
        go_cut [43] from 32 to 43 (fun s wx => Amid w wx w.heap.size g w.heap.size bp bo (N + 1) f (subsD (L ++ [t])) (pointsD L) (allO L) b5 t (.slice (some a1) m c4) C ∧ Blk wx b6 26 #[.string t.a, .string t.b, .string t.c])
        case first =>
          obtain ⟨v0, st, q1, v', q2, q3, e1, e2, e3, hb3, ⟨S, hk3, hS, hlow⟩, kq1⟩ := AM.book.subs1 hN9 (x := t.sb) hsz (Nat.le_trans (subsD_len L t.pt) (by omega)) (subsD_yes rfl) (fun q hq => subsD_no (Ne.symm hq))
          obtain ⟨v0', st', q1', v'', q2', q3', e1', e2', e3', hb3', ⟨S', hk3', hS', hlow'⟩, kq1'⟩ := AM.book.subs2 hN9 (x := t.sb) hsz (Nat.le_trans (subsD_len L t.pt) (by omega)) (subsD_yes rfl) (fun q hq => subsD_no (Ne.symm hq))
          simp only [Tup.pt, Tup.sb, goInt] at e1 e2 e3 e1' e2' e3'
          have cg := AM.book.blk.cell
          have c5 := AM.tup.cell
          have c6 := P7.cell
          have nb := AM.book.subs.not_blk
          have c5' := (AM.tup.keeps kq1' (fun e => nb ⟨_, _, e ▸ AM.tup⟩)).cell
          have lg := AM.book.blk.lt
          have l5 := AM.tup.lt
          have l6 := P7.lt
          have R1 := Lib.hid (And.intro (AM.step (Nat.le_refl _) hb3 nb (by decide) hk3 hS hlow) (P7.keeps hk3 (P7.spared (by decide) nb hS)))
          have R2 := Lib.hid (And.intro (AM.step (Nat.le_refl _) hb3' nb (by decide) hk3' hS' hlow') (P7.keeps hk3' (P7.spared (by decide) nb hS')))
          clear AM P7 hb3 hb3' hk3 hk3' hS hS' hlow hlow' kq1 kq1' nb hsz hsz2
          go_region
          all_goals
            go_wp2_with fail
            go_meet
            first | exact R1.out | exact R2.out
        case rest =>
          obtain ⟨AM8, P8⟩ := hcut
          have AM8' := Lib.hid AM8
          have P8' := Lib.hid P8
          clear AM8 P8 AM P7 hsz hsz2 AM' P7'
          go_upto_region 9 with fail
          go_cut [55] from 44 to 55 (fun s wx => Amid w wx w.heap.size g w.heap.size bp bo (N + 1 + 1) f (subsD (L ++ [t])) (pointsD (L ++ [t])) (allO L) b5 t (.slice (some a1) m c4) C)
          case first =>
            have AM := AM8'.out
            have P7 := P8'.out
            obtain ⟨v0, st, q1, v', q2, q3, e1, e2, e3, hb3, ⟨S, hk3, hS, hlow⟩, kq1⟩ := AM.book.points1 (by omega) (x := t.pt) hsz2'.out (Nat.le_trans (pointsD_len L t.sb) (by omega)) (pointsD_yes rfl) (fun q hq => pointsD_no (Ne.symm hq))
            obtain ⟨v0', st', q1', v'', q2', q3', e1', e2', e3', hb3', ⟨S', hk3', hS', hlow'⟩, kq1'⟩ := AM.book.points2 (by omega) (x := t.pt) hsz2'.out (Nat.le_trans (pointsD_len L t.sb) (by omega)) (pointsD_yes rfl) (fun q hq => pointsD_no (Ne.symm hq))
            simp only [Tup.pt, Tup.sb, goInt] at e1 e2 e3 e1' e2' e3'
            have cg := AM.book.blk.cell
            have c5 := AM.tup.cell
            have c6 := P7.cell
            have nb := AM.book.points.not_blk
            have c6' := (P7.keeps kq1' (fun e => nb ⟨_, _, e ▸ P7⟩)).cell
            have lg := AM.book.blk.lt
            have l5 := AM.tup.lt
            have l6 := P7.lt
            have R1 := Lib.hid (AM.step (Nat.le_refl _) hb3 nb (by decide) hk3 hS hlow)
            have R2 := Lib.hid (AM.step (Nat.le_refl _) hb3' nb (by decide) hk3' hS' hlow')
            clear AM P7 hb3 hb3' hk3 hk3' hS hS' hlow hlow' kq1 kq1' nb
            go_region
            all_goals
              go_wp2_with fail
              go_meet
              first | exact R1.out | exact R2.out
          case rest =>
            have AM9' := Lib.hid hcut
            have c5 := hcut.tup.cell
            clear hcut AM8' P8'
            go_wp2_with fail
            obtain ⟨wc, rfl⟩ : ∃ wc : World, wc = wr := ⟨_, rfl⟩
            go_loopw [62] (fun j wx => ∃ q : Nat, q ≤ 2 ∧ j = .int .i64 q ∧ ∃ N' f', N' ≤ N + 2 + 2 * q ∧ Amid w wx w.heap.size g w.heap.size bp bo N' f' (subsD (L ++ [t])) (pointsD (L ++ [t])) (allO L ++ [t.ob, t.so].take q) b5 t (.slice (some a1) m c4) C) (fun j _ => 2 - (intOf j).toNat)
            case atStart => exact ⟨0, by omega, rfl, N + 1 + 1, f, by omega, by rw [List.take_zero, List.append_nil]; exact AM9'.out⟩
            case round =>
              obtain ⟨q, hq, rfl, N', f', hN', hA⟩ := hrel
              by_cases hq2 : q < 2
              · obtain ⟨x, hx⟩ : ∃ x, [t.ob, t.so][q]? = some x := ⟨_, List.getElem?_eq_getElem (by simpa using hq2)⟩
                have hix := index_two t.a t.b t.d t.e q hq2 x hx
                have hxs := Lib.hid (ob_size htf'.out hq2 hx)
                have hx' := Lib.hid hx
                have bA := (Below.refl wr.heap.size wr).alloc (Nat.le_refl _) (.cells #[.string x.t, .string x.i] 24)
                have X8 := Blk.new wr 24 #[.string x.t, .string x.i]
                have hA8 := hA.later (Nat.le_refl _) bA
                obtain ⟨w8, e8⟩ : ∃ w8, wr.alloc (.cells #[.string x.t, .string x.i] 24) = w8 := ⟨_, rfl⟩
                obtain ⟨b8, hb8⟩ : ∃ b8, wr.heap.size = b8 := ⟨_, rfl⟩
                have X8' := X8
                rw [e8] at hA8 X8'
                rw [hb8] at X8'
                have hA8' := Lib.hid hA8
                have X8h := Lib.hid X8'
                have hb8' := Lib.hid hb8
                clear hA bA X8 hA8 X8' hb8 hx
                go_upto_region 13 with fail
                rw [hb8'.out]
                clear e8 hix
                have A8 := hA8'.out
                have Y8 := X8h.out
                have cg := A8.book.blk.cell
                have c8 := Y8.cell
                have lg := A8.book.blk.lt
                have l8 := Y8.lt
                have hlk := A8.book.objs.look hxs.out.1
                have hlkN := fun n => (A8.later (Nat.le_refl _) (bdrewN (Below.refl _ w8) n)).book.objs.look hxs.out.1
                cases hf : f' (.string x.t) with
                | none =>
                  rw [hf] at hlk hlkN
                  change (Instr.lookup _ _ _ _).run _ _ = .ok (.map none) _ at hlk
                  have hlkM : ∀ n, (Instr.lookup 74 (.map (some bo)) (.string x.t) false).run Tryz.prog (w8.drewN n) = .ok (.map none) (w8.drewN n) := hlkN
                  have hf' := Lib.hid hf
                  have hq0 := eql_nil0
                  clear hlkN hf A8 Y8
                  go_quiet (fail)
                  obtain ⟨w9, e9⟩ : ∃ w9, w8.drewN nq = w9 := ⟨_, rfl⟩
                  rw [e9]
                  have b9 : Below w8.heap.size w8 w9 := by rw [← e9]; exact bdrewN (Below.refl _ _) nq
                  have A9 := hA8'.out.later (Nat.le_refl _) b9
                  have Y9 := X8h.out.below b9 X8h.out.lt
                  clear e9 b9 cg c8 lg l8 hlk hlkM
                  have hN9 : N' < 900000 := by have := hNk'.out; omega
                  obtain ⟨w', e1, hA2, hY2⟩ := A9.make (Nat.le_refl _) hN9 hxs.out.1 hf'.out Y9
                  have cg := A9.book.blk.cell
                  have c8 := Y9.cell
                  have lg := A9.book.blk.lt
                  have l8 := Y9.lt
                  have hA2' := Lib.hid hA2
                  have hY2' := Lib.hid hY2
                  clear A9 Y9 hA2 hY2
                  have hmm := @run_makeMap Tryz.prog
                  go_wp2_with fail
                  go_region
                  all_goals
                    clear e1 cg c8 lg l8 hmm
                    obtain ⟨f2, hf2e⟩ : ∃ f2, putV f' (.string x.t) (.map (some w9.heap.size)) = f2 := ⟨_, rfl⟩
                    have hf2 : f2 (.string x.t) = some (.map (some w9.heap.size)) := by rw [← hf2e]; exact putV_same _ _ _
                    have A9 := hA2'.out
                    rw [hf2e] at A9
                    have Y9 := hY2'.out
                    obtain ⟨N2, hN2e⟩ : ∃ N2, N' + 1 = N2 := ⟨_, rfl⟩
                    rw [hN2e] at A9
                    have hN2 : N2 ≤ N' + 1 := by omega
                    have hN9' := hN9
                    have hN9 : N2 < 900000 := by have := hNk'.out; omega
                    clear hf2e hN2e hN9'
                    have hlk := A9.book.objs.look hxs.out.1
                    have hlkd := (A9.later (Nat.le_refl _) (Below.refl _ _).drew).book.objs.look hxs.out.1
                    obtain ⟨bi, w', hv, e1, hA2⟩ := A9.put (Nat.le_refl _) hN9 hxs.out.1 hxs.out.2 hf2
                    rw [hv] at hlk hlkd
                    change (Instr.lookup _ _ _ _).run _ _ = .ok (.map (some bi)) _ at hlk hlkd
                    have cg := A9.book.blk.cell
                    have c8 := Y9.cell
                    have lg := A9.book.blk.lt
                    have l8 := Y9.lt
                    have hR := Lib.hid hA2
                    have hN2' := Lib.hid hN2
                    clear hA2 A9 Y9 hf2 hv hN9 hN2
                    go_wp2_with fail
                    go_region
                    all_goals
                      go_wp2_with fail
                      go_roundw
                      case rel => exact ⟨q + 1, by omega, by go_num, N2 + 1, f2, by have := hN2'.out; omega, by rw [take_snocT hx'.out, ← List.append_assoc]; exact hR.out⟩
                      case measure => simp [intOf]; omega
                | some v =>
                  rw [hf] at hlk hlkN
                  change (Instr.lookup _ _ _ _).run _ _ = .ok v _ at hlk
                  have hlkM : ∀ n, (Instr.lookup 74 (.map (some bo)) (.string x.t) false).run Tryz.prog (w8.drewN n) = .ok v (w8.drewN n) := hlkN
                  obtain ⟨_, _, _, _, hsh, _⟩ := A8.book.objs
                  obtain ⟨bi0, _, _, rfl, _⟩ := hsh _ _ hf
                  have hq1 := eql_nil1 bi0
                  have hf' := Lib.hid hf
                  clear hlkN hf A8 Y8 hsh
                  go_quiet (fail)
                  obtain ⟨w9, e9⟩ : ∃ w9, w8.drewN nq = w9 := ⟨_, rfl⟩
                  rw [e9]
                  have b9 : Below w8.heap.size w8 w9 := by rw [← e9]; exact bdrewN (Below.refl _ _) nq
                  have A9 := hA8'.out.later (Nat.le_refl _) b9
                  have Y9 := X8h.out.below b9 X8h.out.lt
                  clear e9 b9 cg c8 lg l8 hlk hlkM hq1
                  obtain ⟨f2, hf2e⟩ : ∃ f2, f' = f2 := ⟨_, rfl⟩
                  have hf2 := hf'.out
                  rw [hf2e] at A9 hf2
                  obtain ⟨N2, hN2e⟩ : ∃ N2, N' = N2 := ⟨_, rfl⟩
                  rw [hN2e] at A9
                  have hN2 : N2 ≤ N' + 1 := by omega
                  have hN9 : N2 < 900000 := by have := hNk'.out; omega
                  clear hf2e hN2e
                  have hlk := A9.book.objs.look hxs.out.1
                  have hlkd := (A9.later (Nat.le_refl _) (Below.refl _ _).drew).book.objs.look hxs.out.1
                  obtain ⟨bi, w', hv, e1, hA2⟩ := A9.put (Nat.le_refl _) hN9 hxs.out.1 hxs.out.2 hf2
                  rw [hv] at hlk hlkd
                  change (Instr.lookup _ _ _ _).run _ _ = .ok (.map (some bi)) _ at hlk hlkd
                  have cg := A9.book.blk.cell
                  have c8 := Y9.cell
                  have lg := A9.book.blk.lt
                  have l8 := Y9.lt
                  have hR := Lib.hid hA2
                  have hN2' := Lib.hid hN2
                  clear hA2 A9 Y9 hf2 hv hN9 hN2
                  go_wp2_with fail
                  go_region
                  all_goals
                    go_wp2_with fail
                    go_roundw
                    case rel => exact ⟨q + 1, by omega, by go_num, N2 + 1, f2, by have := hN2'.out; omega, by rw [take_snocT hx'.out, ← List.append_assoc]; exact hR.out⟩
                    case measure => simp [intOf]; omega
              · obtain rfl : q = 2 := by omega
                have hRow := Lib.hid hA.row
                have hBel := Lib.hid hA.below
                have hBk := Lib.hid (show BookAt wr w.heap.size g w.heap.size bp bo N' f' (subsD ((C.take (k + 1)).filter Tup.ok)) (pointsD ((C.take (k + 1)).filter Tup.ok)) (allO ((C.take (k + 1)).filter Tup.ok)) by rw [hLs.out, allO_app]; exact hA.book)
                have hN3 : N' ≤ 10 * (k + 1) := by have := hNk'.out; omega
                clear hA c5
                go_wp2_with fail
                obtain ⟨n1, n2, n3, n4, n5⟩ := hnames.out
                subst n1 n2 n3 n4 n5
                go_roundw
                case rel => exact ⟨k + 1, by omega, by go_num, ⟨⟨N', f', hBk.out, hN3⟩, hRow.out, hBel.out⟩⟩
                case measure => simp [intOf]; omega
    · obtain rfl : k = m := by omega
      obtain ⟨N, f, hBk, hNk⟩ := hNB.ex
      rw [List.take_of_length_le (by rw [hm'.out]; exact Nat.le_refl _), hset'.out] at hBk
      have hBk' := Lib.hid hBk
      have hbel := Lib.hid hNB.below
      clear hNB hBk
      go_wp2_with fail
      go_ret
      exact ⟨_, _, _, _, N, f, rfl, hBk'.out, by omega, hbel.out⟩
end Go.Proofs.YtaikedlkkjnffaaGreatDoor
