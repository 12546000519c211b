/- Walk: slices.Compact over tuples, its loops. -/
import Derived.Test.YtaikedlkkjnffaaGreatDoorUV5
import Derived.Deep.LoopGhost
namespace Go.Proofs.YtaikedlkkjnffaaGreatDoor
open Go.RowKit
attribute [local go_sem ↓] eql_tup
set_option maxHeartbeats 2000000 in
theorem neq_tup (a b c d e f a' b' c' d' e' f' : ByteArray) (w : World) :
    (binOp .neq 60 (.agg #[.string a, .string b, .string c, .string d, .string e, .string f]) (.agg #[.string a', .string b', .string c', .string d', .string e', .string f'])).run Tryz.prog w = .ok (.bool (!same6 a b c d e f a' b' c' d' e' f')) w := by
  unfold same6
  cases h0 : a.toList == a'.toList
  · simp [go_sem, h0]
  cases h1 : b.toList == b'.toList
  · simp [go_sem, h0, h1]
  cases h2 : c.toList == c'.toList
  · simp [go_sem, h0, h1, h2]
  cases h3 : d.toList == d'.toList
  · simp [go_sem, h0, h1, h2, h3]
  cases h4 : e.toList == e'.toList
  · simp [go_sem, h0, h1, h2, h3, h4]
  · by_cases h5 : f.toList = f'.toList <;> simp [go_sem, h0, h1, h2, h3, h4, h5]
attribute [local go_sem ↓] neq_tup
theorem TOwn.six {B : Nat} {w : World} {g n c k : Nat} {r : List Tup} {x : Tup} (h : TOwn B w (.slice (some ⟨g, 0, none⟩) n c) r) (hx : r[k]? = some x) :
    w.cell? ⟨g, k * 6, none⟩ = some (.string x.a) ∧ w.cell? ⟨g, k * 6 + 1, none⟩ = some (.string x.b) ∧ w.cell? ⟨g, k * 6 + 2, none⟩ = some (.string x.c) ∧ w.cell? ⟨g, k * 6 + 3, none⟩ = some (.string x.d) ∧ w.cell? ⟨g, k * 6 + 4, none⟩ = some (.string x.e) ∧ w.cell? ⟨g, k * 6 + 5, none⟩ = some (.string x.f) := by
  have hlt := (List.getElem?_eq_some_iff.1 hx).1
  obtain ⟨g', c', hv, _, _, _, hc⟩ := h.cells (by omega)
  obtain rfl : g = g' := by injection hv with e; injection e with e; injection e
  exact ⟨hc k 0 x hx (by omega), hc k 1 x hx (by omega), hc k 2 x hx (by omega), hc k 3 x hx (by omega), hc k 4 x hx (by omega), hc k 5 x hx (by omega)⟩
theorem keeps_six {g k : Nat} {w : World} (t : Tup) : Keeps (fun j => some g = some j) w (((((((w.setCell ⟨g, k * 6, none⟩ (.string t.a)).setCell ⟨g, k * 6 + 1, none⟩ (.string t.b)).setCell ⟨g, k * 6 + 2, none⟩ (.string t.c)).setCell ⟨g, k * 6 + 3, none⟩ (.string t.d)).setCell ⟨g, k * 6 + 4, none⟩ (.string t.e)).setCell ⟨g, k * 6 + 5, none⟩ (.string t.f))) :=
  ((((((Keeps.refl (fun j => some g = some j) w).setCell (p := ⟨g, k * 6, none⟩) (.inl rfl) _).setCell (p := ⟨g, k * 6 + 1, none⟩) (.inl rfl) _).setCell (p := ⟨g, k * 6 + 2, none⟩) (.inl rfl) _).setCell (p := ⟨g, k * 6 + 3, none⟩) (.inl rfl) _).setCell (p := ⟨g, k * 6 + 4, none⟩) (.inl rfl) _).setCell (p := ⟨g, k * 6 + 5, none⟩) (.inl rfl) _
theorem zero_tup (w : World) : (zeroValue 60).run Tryz.prog w = .ok (.agg zeroT) w := Tryz.zeroValue60 w
theorem zeros_one (n : Nat) : ∀ v ∈ (Builtin.zeroCells zeroT n).toList, v.oneCell' = true := by
  intro v hv
  simp only [Builtin.zeroCells, Array.toList_map, List.mem_map] at hv
  obtain ⟨i, _, rfl⟩ := hv
  have h : i % zeroT.size < 6 := Nat.mod_lt _ (by decide)
  generalize i % zeroT.size = q at *
  rcases q with _ | _ | _ | _ | _ | _ | q <;> first | omega | rfl
theorem clear_tup {B : Nat} {w : World} {g n c k : Nat} {r : List Tup} (h : TOwn B w (.slice (some ⟨g, 0, none⟩) n c) r) (hn : r.length = n) (hk : k < n) :
    ∃ L : List Value, L.length = (n - k) * 6 ∧ ∀ ty, (Builtin.clear_ #[22] ty #[.slice (some ⟨g, k * 6, none⟩) (n - k) (c - k)]).run Tryz.prog w = .ok (.tuple #[]) (w.setCells g (k * 6) L) := by
  obtain ⟨cur, hb, _, hnc, _, hcs, _⟩ := h.blk
  have hlen : (Builtin.zeroCells zeroT (n - k)).toList.length = (n - k) * 6 := by
    rw [Array.length_toList, size_zeroCells]; rfl
  refine ⟨(Builtin.zeroCells zeroT (n - k)).toList, hlen, fun ty => ?_⟩
  have hst := run_storeCells_cells (P := Tryz.prog) g (k * 6) (Builtin.zeroCells zeroT (n - k)).toList 0 w (by
    intro j hj
    rw [hlen] at hj
    rw [hb.cell, Array.getElem?_eq_getElem (by rw [hcs]; omega)]
    rfl) (fun j _ => hb.frozen _) (zeros_one _)
  simp only [Nat.add_zero] at hst
  obtain ⟨m, hm⟩ : ∃ m, n - k = m + 1 := ⟨n - k - 1, by omega⟩
  rw [hm] at hst ⊢
  have hz := zero_tup
  simp [Builtin.clear_, run_underlying Tryz.underlying22, hz, Value.cells, hst]
set_option maxHeartbeats 4000000 in
set_option maxRecDepth 100000 in
theorem compact_calls {B : Nat} {w : World} {p : Option Addr} {c : Nat} {s : List Tup} (h : TOwn B w (.slice p s.length c) s) (hn : s.length ≤ 1000000) :
    Calls Tryz.prog 27 #[.slice p s.length c] w fun e w' => ∃ v, e = .returned v ∧ TOwn B w' v (compactT s) ∧ Keeps (fun j => (Value.slice p s.length c).ownBlock = some j) w w' := by
  by_cases h2 : s.length < 2
  · have hcs : compactT s = s := by
      match s, h2 with
      | [], _ => rfl
      | [_], _ => rfl
      | _ :: _ :: _, h2 => simp at h2; omega
    rw [hcs]
    have h' := Lib.hid h
    clear h hcs
    generalize s.length = n at *
    go_enter Tryz.func27, Tryz.ntmps27
    go_wp2_with fail
    go_ret
    exact ⟨_, rfl, h'.out, Keeps.refl _ _⟩
  · obtain ⟨g, c', hv, hnc, hBg, hg, _⟩ := h.cells (by omega)
    obtain ⟨rfl, rfl⟩ : p = some ⟨g, 0, none⟩ ∧ c = c' := by injection hv with h1 _ h3; exact ⟨h1, h3⟩
    clear hv
    have hown : (Value.slice (some ⟨g, 0, none⟩) s.length c).ownBlock = some g := rfl
    rw [hown]
    obtain ⟨n, hN⟩ : ∃ n, s.length = n := ⟨_, rfl⟩
    rw [hN] at h h2 hn hnc hown ⊢
    have hcm : c ≤ 9223372036854775807 := by
      obtain ⟨_, _, _, _, hc, _⟩ := h.blk
      unfold maxLen at hc; omega
    have h' := Lib.hid h
    have hN' := Lib.hid hN
    clear h hN hown
    have h0 : (0 : Int) < (n : Int) := by omega
    go_enter Tryz.func27, Tryz.ntmps27
    go_wp2_with fail
    go_loopg [3] n (fun gf s3 wr => ∃ k : Nat, 1 ≤ k ∧ k ≤ n ∧ n - k ≤ gf ∧ s3 = .int .i64 k ∧ (∀ j, j + 1 < k → s[j]? ≠ s[j + 1]?) ∧ TOwn B wr (.slice (some ⟨g, 0, none⟩) n c) s ∧ Keeps (fun j => some g = some j) w wr)
    case atStart => exact ⟨1, Nat.le_refl _, by omega, by omega, rfl, fun j hj => absurd hj (by omega), h'.out, Keeps.refl _ _⟩
    case round =>
      obtain ⟨k, hk1, hk, hgf, rfl, hall, hT, hK⟩ := hrel
      by_cases hlt : k < n
      · obtain ⟨x, hx⟩ : ∃ x, s[k]? = some x := ⟨_, List.getElem?_eq_getElem (by rw [hN'.out]; exact hlt)⟩
        obtain ⟨y, hy⟩ : ∃ y, s[k - 1]? = some y := ⟨_, List.getElem?_eq_getElem (by rw [hN'.out]; omega)⟩
        obtain ⟨x0, x1, x2, x3, x4, x5⟩ := hT.six hx
        obtain ⟨y0, y1, y2, y3, y4, y5⟩ := hT.six hy
        have i1 : (0 : Int) ≤ (k : Int) - 1 := by omega
        have i2 : (k : Int) - 1 < (n : Int) := by omega
        have i3 : (1 : Int) ≤ (k : Int) := by omega
        have i4 : IntKind.i64.wrap ((k : Int) - 1) = (k : Int) - 1 := IntWalk.i64_in _ (by omega)
        have i5 : ((k : Int) - 1).toNat = k - 1 := by omega
        by_cases hxy : y = x
        · subst hxy
          have hsm : same6 y.a y.b y.c y.d y.e y.f y.a y.b y.c y.d y.e y.f = true := same_eq.2 rfl
          have hT' := Lib.hid hT
          have hK' := Lib.hid hK
          have hst := Lib.hid (CInv.start hk1 hall hy hx)
          have hx' := Lib.hid hx
          have hy' := Lib.hid hy
          clear hT hK hall hx hy h'
          go_wp2_with fail
          go_quiet (fail)
          clear x0 x1 x2 x3 x4 x5 y0 y1 y2 y3 y4 y5 hsm
          go_wp2_with fail
          obtain ⟨w2, e2⟩ : ∃ w2, wr.drewN nq = w2 := ⟨_, rfl⟩
          rw [e2]
          have T2 := Lib.hid (show TOwn B w2 (.slice (some ⟨g, 0, none⟩) n c) s by rw [← e2]; exact hT'.out.later (bdrewN (Below.refl _ _) nq))
          have K2 := Lib.hid (show Keeps (fun j => some g = some j) w w2 by rw [← e2]; exact hK'.out.drewN nq)
          clear e2 hT' hK'
          go_loopg [3, 5] n (fun gf s3 s5 wr => ∃ (kk k2 : Nat) (r : List Tup), s3 = .int .i64 kk ∧ s5 = .int .i64 k2 ∧ 1 ≤ k2 ∧ k + k2 ≤ n ∧ n - (k + k2) ≤ gf ∧ CInv s r (k + k2) kk ∧ TOwn B wr (.slice (some ⟨g, 0, none⟩) n c) r ∧ Keeps (fun j => some g = some j) w wr)
          case atStart => exact ⟨k, 1, s, rfl, rfl, Nat.le_refl _, by omega, by omega, hst.out, T2.out, K2.out⟩
          case round =>
            obtain ⟨kk, k2, r, rfl, rfl, h1, hle, hg2, hI, hT, hK⟩ := hrel
            have hrl : r.length = n := by rw [hI.len, hN'.out]
            have hkk := hI.lt
            have hk1' := hI.one
            by_cases hlt2 : k + k2 < n
            · obtain ⟨u, hu⟩ : ∃ u, s[k + k2]? = some u := ⟨_, List.getElem?_eq_getElem (by rw [hN'.out]; exact hlt2)⟩
              obtain ⟨z, hz⟩ : ∃ z, s[k + k2 - 1]? = some z := ⟨_, List.getElem?_eq_getElem (by rw [hN'.out]; omega)⟩
              obtain ⟨o, ho⟩ : ∃ o, r[kk]? = some o := ⟨_, List.getElem?_eq_getElem (by omega)⟩
              obtain ⟨x0, x1, x2, x3, x4, x5⟩ := hT.six ((hI.high (k + k2) (by omega)).trans hu)
              obtain ⟨y0, y1, y2, y3, y4, y5⟩ := hT.six ((hI.high (k + k2 - 1) (by omega)).trans hz)
              obtain ⟨o0, o1, o2, o3, o4, o5⟩ := hT.six ho
              have ea : (k + k2) * 6 = k * 6 + k2 * 6 := Nat.add_mul _ _ _
              have eb : (k + k2 - 1) * 6 = k * 6 + (k2 - 1) * 6 := by omega
              rw [ea] at x0 x1 x2 x3 x4 x5
              rw [eb] at y0 y1 y2 y3 y4 y5
              clear ea eb
              obtain ⟨cur, hcur, _⟩ := hT.blk
              have hfz := hcur.frozen
              have i1 : (0 : Int) ≤ (k2 : Int) - 1 := by omega
              have i2 : (k2 : Int) - 1 < ((n - k : Nat) : Int) := by omega
              have i3 : (1 : Int) ≤ (k2 : Int) := by omega
              have i4 : IntKind.i64.wrap ((k2 : Int) - 1) = (k2 : Int) - 1 := IntWalk.i64_in _ (by omega)
              have i6 : (k2 : Int) < ((n - k : Nat) : Int) := by omega
              have i7 : (kk : Int) < (n : Int) := by omega
              have hkl : kk < n := by omega
              clear hcur
              by_cases huz : z = u
              · subst huz
                have hsm : same6 z.a z.b z.c z.d z.e z.f z.a z.b z.c z.d z.e z.f = true := same_eq.2 rfl
                have hsm2 : (!same6 z.a z.b z.c z.d z.e z.f z.a z.b z.c z.d z.e z.f) = false := by rw [hsm]; rfl
                have hI' := Lib.hid (hI.skip hz hu)
                have hT' := Lib.hid hT
                have hK' := Lib.hid hK
                clear hI hT hK hz hu ho hst
                go_wp2_with fail
                go_quiet (fail)
                clear x0 x1 x2 x3 x4 x5 y0 y1 y2 y3 y4 y5 o0 o1 o2 o3 o4 o5 hsm hsm2
                go_wp2_with fail
                go_roundg (n - (k + (k2 + 1)))
                case measure => omega
                case rel => exact ⟨kk, k2 + 1, r, rfl, by go_num, by omega, by omega, Nat.le_refl _, hI'.out, hT'.out.later (bdrewN (Below.refl _ _) nq), hK'.out.drewN nq⟩
              · have hsm : same6 u.a u.b u.c u.d u.e u.f z.a z.b z.c z.d z.e z.f = false := by
                  rw [Bool.eq_false_iff]
                  intro e
                  exact huz (same_eq.1 e).symm
                have hsm2 : (!same6 u.a u.b u.c u.d u.e u.f z.a z.b z.c z.d z.e z.f) = true := by rw [hsm]; rfl
                have hI' := Lib.hid (hI.keep hz hu huz)
                have hT' := Lib.hid hT
                have hK' := Lib.hid hK
                have hrl' := Lib.hid hrl
                clear hI hT hK hz hu ho hst hrl
                go_wp2_with fail
                go_quiet (fail)
                go_wp2_with fail
                go_roundg (n - (k + (k2 + 1)))
                case measure => omega
                case rel => exact ⟨kk + 1, k2 + 1, r.set kk u, by go_num, by go_num, by omega, by omega, Nat.le_refl _, hI'.out, (hT'.out.later (bdrewN (Below.refl _ _) nq)).set hrl'.out u hkl, (hK'.out.drewN nq).trans (keeps_six u)⟩
            · obtain rfl : k2 = n - k := by omega
              have hkl : kk < n := by omega
              have hcn : kk < c := by omega
              obtain ⟨L, hL, hcl⟩ := clear_tup hT hrl (k := kk) hkl
              have hpa := (hT.short hrl (k := kk) (by omega)).past L (o := kk * 6) (by rw [List.length_take]; omega) (Nat.le_refl _)
              have hlow := hI.low
              rw [show k + (n - k) = s.length by rw [hN'.out]; omega, List.take_of_length_le (Nat.le_refl _)] at hlow
              rw [hlow] at hpa
              have hK2 := Lib.hid (hK.trans (hpa.2.mono fun j _ e => by rw [e]))
              have hT2 := Lib.hid hpa.1
              have i8 : (kk : Int) ≤ (n : Int) := by omega
              have i9 : (kk : Int) < (c : Int) := by omega
              clear hI hT hK hst hlow hpa hL hrl
              go_wp2_with fail
              go_ret
              exact ⟨_, rfl, hT2.out, hK2.out⟩
        · have hsm : same6 x.a x.b x.c x.d x.e x.f y.a y.b y.c y.d y.e y.f = false := by
            rw [Bool.eq_false_iff]
            intro e
            exact hxy (same_eq.1 e).symm
          have hall2 : ∀ j, j + 1 < k + 1 → s[j]? ≠ s[j + 1]? := by
            intro j hj
            by_cases e : j + 1 < k
            · exact hall j e
            · obtain rfl : k = j + 1 := by omega
              rw [show j + 1 - 1 = j by omega] at hy
              rw [hy, hx]
              intro e; exact hxy (Option.some.inj e)
          have hT' := Lib.hid hT
          have hK' := Lib.hid hK
          have hall2' := Lib.hid hall2
          clear hT hK hall hall2 hx hy h'
          go_wp2_with fail
          go_quiet (fail)
          clear x0 x1 x2 x3 x4 x5 y0 y1 y2 y3 y4 y5 hsm
          go_wp2_with fail
          go_roundg (n - (k + 1))
          case measure => omega
          case rel => exact ⟨k + 1, by omega, by omega, Nat.le_refl _, by go_num, hall2'.out, hT'.out.later (bdrewN (Below.refl _ _) nq), hK'.out.drewN nq⟩
      · obtain rfl : k = n := by omega
        have hcs : compactT s = s := by
          have := compact_all (s := s) (k - 1) (by rw [hN'.out]; omega) fun j hj => hall j (by omega)
          rw [List.take_of_length_le (by rw [hN'.out]; omega)] at this
          exact this
        have hcs' := Lib.hid hcs
        clear hall hcs h'
        go_wp2_with fail
        go_ret
        exact ⟨_, rfl, by rw [hcs'.out]; exact hT, hK⟩
end Go.Proofs.YtaikedlkkjnffaaGreatDoor
