/- The law DiskPlays: the walk. -/
import Derived.Test.YtgclancneohpbaaDDo2
import Derived.Test.YtgclancneohpbaaDL1
namespace Go.Proofs.Ytgclancneohpbaa
open Go.RowKit Go.Maps Go.Shelf Go.Sort
attribute [local go_sem ↓] dapp_op
theorem LAct.fits.later {w w' : World} {x : LAct} (h : x.fits w) (hb : Below w.heap.size w w') : x.fits w' := ⟨h.kind, h.a, h.b, h.v.later hb, fun j hj hn => Nat.lt_of_lt_of_le (h.lt j hj hn) hb.size, h.len, h.n⟩
/-- a copy of bytes -/
theorem one_append {W : World} {u : Value} {l : List UInt8} (hu : Bytes W u l) (hl : l.length ≤ 1000000000) :
    ∃ p c w1, (dappOp #[51, 51] 51 #[.slice (some ⟨W.heap.size, 0, none⟩) 0 0, u]).run Try.prog (W.alloc (.cells #[] 5)) = .ok (.slice p l.length c) w1 ∧
      w1.ownsRow W.heap.size 5 1 (.slice p l.length c) l.length (bcells l) ∧ Below W.heap.size W w1 := by
  have B0 : Below W.heap.size W (W.alloc (.cells #[] 5)) := (Below.refl _ _).alloc (Nat.le_refl _) _
  have ho0 : (W.alloc (.cells #[] 5)).ownsRow W.heap.size 5 1 (.slice (some ⟨W.heap.size, 0, none⟩) 0 0) ([] : List UInt8).length (bcells []) := World.ownsRow_made W #[] 0 (Nat.le_refl _) (by decide) rfl
  obtain ⟨v1, w1, e1, o1, g1, _⟩ := bytes_append ho0 (hu.later B0) (by simp; omega) (by simp)
  have k1 : Keeps (fun j => j = W.heap.size) (W.alloc (.cells #[] 5)) w1 := (Keeps.refl _ _).grown g1 (fun k e => .inl (by cases e; rfl))
  rw [List.nil_append] at o1
  obtain ⟨p, c, rfl⟩ := own_slice o1
  exact ⟨p, c, w1, e1, o1, B0.trans (k1.below (fun k _ e => Nat.le_of_eq e.symm) (by simp))⟩
theorem Two.readlen {w0 w : World} {L : Nat → Prop} {D g m : Nat} {r r' : RD} (h : Two w0 w L D g r' r m) (hm : m ≤ 4000) (s : List UInt8) : (r.readB s).length ≤ 1000000000 := by
  obtain ⟨k, bl, O, O2, t⟩ := h
  unfold RD.readB
  split
  · have := (t.rok.got (r.num s)).2
    have h2 : m * 65536 ≤ 4000 * 65536 := Nat.mul_le_mul_right _ hm
    omega
  · exact Nat.zero_le _
theorem two_new {w w1 w2 : World} (cap : Int) {O : Nat → Prop} (h1 : Disk w1 w.heap.size (w.heap.size + 2) O (Dk.new cap)) (b1 : Below w.heap.size w w1) (h2 : RDisk w2 w.heap.size w1.heap.size (fun j => j = w1.heap.size) (RD.new cap)) (b2 : Below w1.heap.size w1 w2) : Two w w2 (fun _ => False) (w.heap.size + 2) w1.heap.size (RD.new cap) (RD.new cap) 0 :=
  ⟨Dk.new cap, [], O, _, Dk.new_ok cap, h1.later b2, Sim.new cap, Nat.le_refl _, h2, RDok.new cap, fun j hj e => by have := (h1.lt j hj).2; omega, fun j hj => hj.elim, b1.trans (b2.mono b1.size)⟩
set_option maxHeartbeats 8000000 in
set_option maxRecDepth 100000 in
theorem diskPlays_calls (cap : Int) (l : List LAct) (p : Option Addr) (c : Nat) (w : World) (hl : l.length ≤ maxLen) (hh : holdsL w p 5 LAct.cells l) (hf : ∀ x ∈ l, x.fits w) :
    Calls Try.prog 9 #[.int .i64 cap, .slice p l.length c] w fun e w' => e = .returned (.bool true) ∧ Below w.heap.size w w' := by
  have hh' := Lib.hid hh
  have hf' := Lib.hid hf
  have hF := fixed01_calls w
  have hF' := Lib.hid hF
  clear hF hf
  go_enter Try.func9, Try.ntmps9
  go_wp2_with fail
  refine hF'.out.mono ?_
  clear hF'
  rintro e w1 ⟨rfl, B1⟩
  have hW := few01_calls l p c w1 hl (hh.below (Nat.le_refl _) B1) (fun x hx => (hf'.out x hx).later B1)
  have hW' := Lib.hid hW
  clear hh hW
  unfold maxLen at hl
  go_wp2_with fail
  refine hW'.out.mono ?_
  clear hW'
  rintro e w2 ⟨rfl, hb2⟩
  have B2 := B1.trans (hb2.mono B1.size)
  have z2 := B2.size
  clear B1 hb2
  cases hfew : lfew l
  · go_wp2
    go_ret
    exact ⟨rfl, B2⟩
  have h120 : l.length ≤ 120 := by
    unfold lfew at hfew
    rw [Bool.and_eq_true] at hfew
    exact of_decide_eq_true hfew.2
  have h300 : ∀ x ∈ l, x.bytes.length ≤ 300 := fun x hx => by
    unfold lfew at hfew
    rw [Bool.and_eq_true, List.all_eq_true] at hfew
    have := hfew.1 x hx
    unfold LAct.few at this
    rw [Bool.and_eq_true] at this
    exact of_decide_eq_true this.1
  have h300' := Lib.hid h300
  clear h300
  have hN1 := dnew_calls cap w2
  go_wp2_with fail
  refine hN1.mono ?_
  clear hN1
  rintro e w3 ⟨rfl, ⟨O3, h3⟩, b3⟩
  have hN2 := rnew_calls cap w3 w2.heap.size b3.size
  have h3' := Lib.hid h3
  clear h3
  go_wp2_with fail
  refine hN2.mono ?_
  clear hN2
  rintro e w4 ⟨rfl, h4, b4⟩
  have hT := two_new cap h3'.out b3 h4 b4
  have hT' := Lib.hid hT
  clear h3' h4 b3 b4 hT
  generalize w2.heap.size + 2 = D at *
  generalize w3.heap.size = g at *
  go_wp2_with fail
  go_loopw [8, 9, 10, 28] (fun _ _ _ i wr => ∃ (k : Nat) (r : RD), k ≤ l.length ∧ i = .int .i64 k ∧ (∀ s ∈ r.list, s.length ≤ maxLen) ∧ Two w2 wr (fun _ => False) D g r r (2 * k)) (fun _ _ _ i _ => l.length - (intOf i).toNat)
  case atStart => exact ⟨0, _, Nat.zero_le _, rfl, fun s hs => (by cases hs), hT'.out⟩
  case round =>
    obtain ⟨k, r, hk, rfl, hN, hL⟩ := hrel
    have hN' := Lib.hid hN
    clear hT' hN
    have hB := B2.trans (hL.below.mono z2)
    have hz := hB.size
    by_cases hlt : k < l.length
    · obtain ⟨x, hx⟩ : ∃ x, l[k]? = some x := ⟨_, List.getElem?_eq_getElem hlt⟩
      obtain ⟨a, b, rfl, hab, hbb, q0, q1, q2, q3, q4⟩ := lact_at hh'.out (Nat.le_refl _) hB hx
      have hft := hf'.out x (List.mem_of_getElem? hx)
      have hbl := h300'.out x (List.mem_of_getElem? hx)
      obtain ⟨pv, cv, hvc⟩ := hft.v.slice
      rw [hvc] at q3
      have hvw := hft.v.later hB
      rw [hvc] at hvw
      have BA : Below wr.heap.size wr (wr.alloc (.cells #[.int .u8 x.kind, .string x.a, .string x.b, .slice pv x.bytes.length cv, .int .i64 x.n] 64)) := (Below.refl _ _).alloc (Nat.le_refl _) _
      have bA := Blk.new wr 64 #[.int .u8 x.kind, .string x.a, .string x.b, .slice pv x.bytes.length cv, .int .i64 x.n]
      obtain ⟨po, co, w5, e5, o5, b5⟩ := one_append (hvw.later BA) (by omega)
      have b5a := BA.trans (b5.mono (by simp))
      have bA5 := bA.below b5 bA.lt
      simp only [World.size_alloc] at e5
      have B5 : Below wr.heap.size wr (w5.alloc (.cells #[.int .u8 x.kind, .string x.a, .string x.b, .slice po x.bytes.length co, .int .i64 x.n] 64)) := b5a.alloc b5a.size _
      have bA6 := bA5.alloc (.cells #[.int .u8 x.kind, .string x.a, .string x.b, .slice po x.bytes.length co, .int .i64 x.n] 64)
      have o6 := o5.alloc (.cells #[.int .u8 x.kind, .string x.a, .string x.b, .slice po x.bytes.length co, .int .i64 x.n] 64)
      have z5 := b5a.size
      have hT6 : Two w2 _ (fun j => j = wr.heap.size ∨ (Value.slice po x.bytes.length co).ownBlock = some j) D g r r (2 * k) := hL.hold B5 fun j hj => .inr (.inl (by
        rcases hj with e | e
        · have := b5.size; simp at this; simp; omega
        · have := o6.lt j e; simp at this; simp; omega))
      have hdo := do_calls01 w2 _ _ D g r r (2 * k) ⟨x.kind, x.a, x.b, .slice po x.bytes.length co, x.bytes, x.n⟩ hT6 ⟨hft.kind, hft.a, hft.b, Bytes.of_own o6, fun j hj _ => (o6.lt j hj).2, hft.len, hft.n⟩ (fun j hj _ => .inr hj) (by show x.bytes.length ≤ _; omega) (by omega) (hT6.readlen (by omega))
      have hdo' := Lib.hid hdo
      have q5 := bA5.cell
      have hvB := Lib.hid hft.v
      have hvc' := Lib.hid hvc
      have o6' := Lib.hid o6
      have bA6' := Lib.hid bA6
      clear hx hft hvc hvw BA bA b5 b5a bA5 o5 bA6 o6 hT6 hdo hL
      go_wp2_with fail
      refine hdo'.out.mono ?_
      rintro e w7 ⟨bb, rfl, hbt, h7, k7⟩
      obtain rfl := hbt rfl
      have bA7 := bA6'.out.keeps k7 (fun e => e (.inl rfl))
      have o7 := own_keeps o6'.out k7 (fun j hj e => e (.inr hj))
      have hc1 := bytes_string (Bytes.of_own o7)
      have B7 := B2.trans (h7.below.mono z2)
      have hv7 := hvB.out.later B7
      rw [hvc'.out] at hv7
      have hc2 := bytes_string hv7
      have q7 := bA7.cell
      have hU := p_used h7
      have hU' := Lib.hid hU
      have h7' := Lib.hid h7
      clear hdo' bA6' o6' hbt bA7 o7 hv7 hU h7 k7 q0 q1 q2 q3 q4 q5 e5
      go_wp2_with fail
      refine hU'.out.mono ?_
      rintro e w8 ⟨rfl, rfl⟩
      have hU2 := r_used h7'.out (by omega)
      have hU2' := Lib.hid hU2
      clear hU2 hU' hc1 hc2 q7
      go_wp2_with fail
      refine hU2'.out.mono ?_
      rintro e w9 ⟨rfl, b9⟩
      have h9 := h7'.out.later b9
      have hU3 := p_list h9 (by omega)
      have hU3' := Lib.hid hU3
      have h9' := Lib.hid h9
      have B9 := B7.trans (b9.mono B7.size)
      clear hU3 hU2' h9 b9 h7' B7
      go_wp2_with fail
      refine hU3'.out.mono ?_
      rintro e wA ⟨⟨vA, rfl, rA, lA, bA⟩, nA⟩
      have nA' := Lib.hid nA
      clear nA
      have hA := h9'.out.later bA
      have hU4 := r_list hA (by omega)
      have hU4' := Lib.hid hU4
      have hA' := Lib.hid hA
      have rA' := Lib.hid rA
      have BAA := B9.trans (bA.mono B9.size)
      clear hU4 hU3' hA bA h9' B9 rA
      go_wp2_with fail
      refine hU4'.out.mono ?_
      rintro e wB ⟨vB, rfl, rB, lB, bB⟩
      have rA2 := own_keeps (S := fun _ => False) rA'.out (.of_below bB) (fun _ _ => id)
      have hS := same01_calls _ vA vB wB (RowAt.of_own rA2) (RowAt.of_own rB) lA
      have hS' := Lib.hid hS
      have hBt := hA'.out.later bB
      have hBt' := Lib.hid hBt
      clear hS hU4' rA2 rB lB lA rA' hBt hA' bB BAA
      go_wp2_with fail
      refine hS'.out.mono ?_
      rintro e wC ⟨rfl, bC⟩
      have hCt := hBt'.out.later bC
      have hCt' := Lib.hid hCt
      clear hCt hBt' bC hS'
      go_wp2_with fail
      go_roundw
      case rel => exact ⟨k + 1, _, by omega, by go_num, nA'.out, (hCt'.out.less fun j hj => hj.elim).more (by omega)⟩
      case measure => simp [intOf]; omega
    · have hU4 := r_list hL (by omega)
      have hU4' := Lib.hid hU4
      have hL' := Lib.hid hL
      clear hU4 hL
      go_wp2_with fail
      refine hU4'.out.mono ?_
      rintro e wB ⟨vB, rfl, rB, lB, bB⟩
      obtain ⟨pB, cB, rfl⟩ := own_slice rB
      have hT := hL'.out.later bB
      have BB := hB.trans (bB.mono hz)
      have hT' := Lib.hid hT
      have rB' := Lib.hid (RowAt.of_own rB)
      have zB := BB.size
      clear hU4' hL' bB hB hT rB
      go_wp2_with fail
      go_loopw [12, 13, 14, 15, 16, 71] (fun _ _ _ _ _ i wr => ∃ j : Nat, j ≤ r.list.length ∧ i = .int .i64 j ∧ Below wB.heap.size wB wr) (fun _ _ _ _ _ i _ => r.list.length - (intOf i).toNat)
      case atStart => exact ⟨0, Nat.zero_le _, rfl, Below.refl _ _⟩
      case round =>
        obtain ⟨j, hj, rfl, hW⟩ := hrel
        by_cases hjl : j < r.list.length
        · obtain ⟨gB, s, rfl, hcB, hgB, es, qs⟩ := rowStr_at rB'.out hjl
          have qs' := (hW.cell (p := ⟨gB, j, none⟩) hgB).trans qs
          have hT1 := hT'.out.later hW
          have hsl : s.size ≤ maxLen := by
            have := hN'.out _ (List.getElem_mem hjl)
            rw [← es, ← Lib.size_eq] at this
            exact this
          have hR1 := p_read hT1 (by omega) s hsl
          have hR1' := Lib.hid hR1
          have hT1' := Lib.hid hT1
          clear hR1 hT1 es qs
          go_wp2_with fail
          refine hR1'.out.mono ?_
          rintro e wD ⟨vD, rfl, rD, bD⟩
          obtain ⟨pD, cD, rfl⟩ := own_slice rD
          have hT2 := hT1'.out.later bD
          have hR2 := r_read hT2 (by omega) s hsl
          have hR2' := Lib.hid hR2
          have rD' := Lib.hid rD
          clear hR2 hT2 hR1' rD qs'
          go_wp2_with fail
          refine hR2'.out.mono ?_
          rintro e wE ⟨vE, rfl, rE, bE⟩
          obtain ⟨pE, cE, rfl⟩ := rE.slice
          have rD2 := own_keeps (S := fun _ => False) rD'.out (.of_below bE) (fun _ _ => id)
          have hc1 := bytes_string (Bytes.of_own rD2)
          have hc2 := bytes_string rE
          have hWE := hW.trans ((bD.trans (bE.mono bD.size)).mono hW.size)
          clear rD2 rE rD' hR2' bD bE hW hT1'
          generalize r.readB s.data.toList = lx at *
          generalize r.findE s.data.toList = ex at *
          go_wp2_with fail
          go_roundw
          case rel => exact ⟨j + 1, by omega, by go_num, hWE⟩
          case measure => simp [intOf]; omega
        · have hfin := BB.trans (hW.mono zB)
          go_wp2_with fail
          go_ret
          exact ⟨rfl, hfin⟩
end Go.Proofs.Ytgclancneohpbaa
