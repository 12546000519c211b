/- Walks: the document's this, Find. Walk: the document's Writes. Walk: the tape's Tuples. Walks: a book of nothing; the law FactsBoth. The law FactsBoth holds, for every tape, nil too: no condition; its tied card. -/
import Derived.Test.YtaikedlkkjnffaaGreatDoorKG
import Derived.Test.YtaikedlkkjnffaaGreatDoorKU
import Derived.Test.YtaikedlkkjnffaaGreatDoorW10
import Derived.Test.YtaikedlkkjnffaaGreatDoorUY2
import Derived.Test.YtaikedlkkjnffaaGreatDoorFN
import Derived.Lib.Hide
import Derived.Test.YtaikedlkkjnffaaGreatDoorShelf
import Derived.Test.YtaikedlkkjnffaaGreatDoorOpen
import Derived.Test.YtaikedlkkjnffaaGreatDoorCards
import Derived.Test.YtaikedlkkjnffaaGreatDoorTie
import Derived.Deep.DeepHandedRow
import Derived.Lib.LaidTab
import Derived.Deep.Slices
namespace Go.Proofs.YtaikedlkkjnffaaGreatDoor
open Go.RowKit
def YesNo (w : World) (e : Ending) (w' : World) : Prop := (∃ x, e = .returned (.bool x)) ∧ Below w.heap.size w w'
set_option maxHeartbeats 4000000 in
set_option maxRecDepth 100000 in
theorem this_step (r1 : RT) (hrec : ∀ q ∈ r1.parts, ∀ (cs1 : List Value) (w : World), RV w cs1 q → Calls Tryz.prog 57 #[.agg cs1.toArray] w (YesNo w))
    (cs1 : List Value) (w : World) (h1 : RV w cs1 r1) : Calls Tryz.prog 57 #[.agg cs1.toArray] w (YesNo w) := by
  obtain ⟨k1, a1, b1, p1, c1, ds1, rfl, hr1, hrow1, hlen1, hp1⟩ := h1.form
  have bx := Blk.new w 100 #[.int .i64 k1, .string a1, .string b1, .slice p1 r1.parts.length c1]
  have hb := (Below.refl w.heap.size w).alloc (Nat.le_refl _) (.cells #[.int .i64 k1, .string a1, .string b1, .slice p1 r1.parts.length c1] 100)
  have hmax := hrow1.1
  unfold maxLen at hmax
  have hrec' := Lib.hid hrec
  have hrow1' := Lib.hid hrow1
  have hp1' := Lib.hid hp1
  have hb' := Lib.hid hb
  clear hrec hrow1 hp1 hb hr1 h1 hlen1
  by_cases hk : k1 = 1
  · subst hk
    go_enter Tryz.func57, Tryz.ntmps57
    go_wp2_with fail
    go_ret
    exact ⟨⟨_, rfl⟩, hb'.out⟩
  · have hk' : (k1 == 1) = false := by rw [beq_eq_false_iff_ne]; exact hk
    clear hk
    generalize r1.parts = ps1 at *
    generalize hn1 : ps1.length = n1 at *
    have hn1' := Lib.hid hn1
    clear hn1
    go_enter Tryz.func57, Tryz.ntmps57
    go_wp2_with fail
    go_loopw [11] (fun i wr => ∃ j : Nat, j ≤ n1 ∧ i = .int .i64 j ∧ Below w.heap.size w wr) (fun i _ => n1 - (intOf i).toNat)
    case atStart => exact ⟨0, Nat.zero_le _, rfl, hb'.out⟩
    case round =>
      obtain ⟨j, hj, rfl, hB⟩ := hrel
      by_cases hlt : j < n1
      · have hl1 : j < ps1.length := by rw [hn1'.out]; exact hlt
        have hq1 : ps1[j]? = some ps1[j] := List.getElem?_eq_getElem hl1
        obtain ⟨g1, o1, rfl, hc1, hcell1⟩ := (hrow1'.out.below hB).cell (by omega)
        obtain ⟨kx, ax, bx, px, cx, R1, -, l1, x0, x1, x2, x3⟩ := RV.part hcell1 hq1 ((hp1'.out j _ hq1).later hB)
        generalize hQ1 : ps1[j] = q1 at *
        have bA := (Below.refl wr.heap.size wr).alloc (Nat.le_refl _) (.cells #[.int .i64 kx, .string ax, .string bx, .slice px q1.parts.length cx] 100)
        have hcall := Lib.hid (hrec'.out q1 (List.mem_of_getElem? hq1) _ _ (R1.later bA))
        have XA := (Blk.new wr 100 #[.int .i64 kx, .string ax, .string bx, .slice px q1.parts.length cx]).cell
        have hBA := Lib.hid (hB.trans (bA.mono hB.size))
        clear R1 bA hcell1 hq1 hQ1 hl1 hB
        go_wp2_with fail
        refine hcall.out.mono ?_
        rintro e w3 ⟨⟨x, rfl⟩, hb3⟩
        have hB3 := Lib.hid (hBA.out.trans (hb3.mono hBA.out.size))
        clear hb3 hcall hBA
        cases x
        · go_wp2_with fail
          go_roundw
          case rel => exact ⟨j + 1, by omega, by go_num, hB3.out⟩
          case measure => simp [intOf]; omega
        · go_wp2_with fail
          go_ret
          exact ⟨⟨_, rfl⟩, hB3.out⟩
      · obtain rfl : j = n1 := by omega
        go_wp2_with fail
        go_ret
        exact ⟨⟨_, rfl⟩, hB⟩
theorem part_lt {r q : RT} (h : q ∈ r.parts) : SizeOf.sizeOf q < SizeOf.sizeOf r := by
  cases r with
  | node k a b ps =>
    have := List.sizeOf_lt_of_mem (show q ∈ ps from h)
    simp
    omega
theorem this_calls (r1 : RT) (cs1 : List Value) (w : World) (h1 : RV w cs1 r1) : Calls Tryz.prog 57 #[.agg cs1.toArray] w (YesNo w) :=
  this_step r1 (fun q _ cs1 w h1 => this_calls q cs1 w h1) cs1 w h1
termination_by SizeOf.sizeOf r1
decreasing_by exact part_lt (by assumption)
def FoundSaid (w : World) (e : Ending) (w' : World) : Prop := ∃ (k : Int) (a b : ByteArray) (p : Option Addr) (n c : Nat) (t : RT) (x : Bool), e = .returned (.tuple #[.agg #[.int .i64 k, .string a, .string b, .slice p n c], .bool x]) ∧ RV w' [.int .i64 k, .string a, .string b, .slice p n c] t ∧ Below w.heap.size w w'
theorem leafV (k : Int) (a b : ByteArray) (w : World) : RV w [.int .i64 k, .string a, .string b, .slice none 0 0] (.node k a.data.toList b.data.toList []) := by
  rw [strV_mk a, strV_mk b]
  exact .mk (cs := []) ⟨Nat.zero_le _, .inl ⟨_, _, rfl, rfl⟩⟩ rfl (fun i p h => by simp at h)
theorem put4b {V : World} {B : Nat} {T : TypeId} {z : Array Value} (hz : z.size = 4) (hr : Blk V B T z) (v0 v1 v2 v3 : Value) :
    ∃ W, ((((V.setCell ⟨B, 0, none⟩ v0).setCell ⟨B, 1, none⟩ v1).setCell ⟨B, 2, none⟩ v2).setCell ⟨B, 3, none⟩ v3) = W ∧ Blk W B T #[v0, v1, v2, v3] ∧ Keeps (fun j => j = B) V W := by
  have hk : Keeps (fun j => j = B) V ((((V.setCell ⟨B, 0, none⟩ v0).setCell ⟨B, 1, none⟩ v1).setCell ⟨B, 2, none⟩ v2).setCell ⟨B, 3, none⟩ v3) :=
    ((((Keeps.refl (fun j => j = B) V).setCell (p := ⟨B, 0, none⟩) (.inl rfl) _).setCell (p := ⟨B, 1, none⟩) (.inl rfl) _).setCell (p := ⟨B, 2, none⟩) (.inl rfl) _).setCell (p := ⟨B, 3, none⟩) (.inl rfl) _
  refine ⟨_, rfl, ?_, hk⟩
  have := (((hr.set_ 0 v0).set_ 1 v1).set_ 2 v2).set_ 3 v3
  have e : (((z.setIfInBounds 0 v0).setIfInBounds 1 v1).setIfInBounds 2 v2).setIfInBounds 3 v3 = #[v0, v1, v2, v3] := by
    obtain ⟨l⟩ := z
    match l, hz with
    | [_, _, _, _], _ => rfl
  rw [e] at this; exact this
/-- a rule read in w, told of a world in which one's own place is written -/
theorem found {w wr W : World} {b : Nat} (hb : b = w.heap.size) (hB : Below w.heap.size w wr) (hk : Keeps (fun j => j = b) wr W) : Below w.heap.size w W := by
  subst hb
  exact Keeps.below_step hB hB.size hk (fun k e => by omega)
set_option maxHeartbeats 4000000 in
set_option maxRecDepth 100000 in
theorem find_calls (p : Option Addr) (c : Nat) (ts : List TyD) (typ rel : ByteArray) (w : World) (h : SchV w (.slice p ts.length c) ts) :
    Calls Tryz.prog 56 #[.agg #[.slice p ts.length c], .string typ, .string rel] w (FoundSaid w) := by
  obtain ⟨tcs, hrow, htys⟩ := h
  have hmax := hrow.1
  unfold maxLen at hmax
  have bA := (Below.refl w.heap.size w).alloc (Nat.le_refl _) (.cells #[.slice p ts.length c] 56)
  have bB := bA.alloc (by simp) (.cells #[.int .i64 0, .string ⟨#[]⟩, .string ⟨#[]⟩, .slice none 0 0] 100)
  have R := Blk.new (w.alloc (.cells #[.slice p ts.length c] 56)) 100 #[.int .i64 0, .string ⟨#[]⟩, .string ⟨#[]⟩, .slice none 0 0]
  rw [World.size_alloc] at R
  generalize hn1 : ts.length = n1 at *
  have hn1' := Lib.hid hn1
  have hrow' := Lib.hid hrow
  have htys' := Lib.hid htys
  have bB' := Lib.hid bB
  have R' := Lib.hid R
  clear hn1 hrow htys bA bB R
  go_enter Tryz.func56, Tryz.ntmps56
  go_wp2_with fail
  go_loopw [15] (fun i wr => ∃ j : Nat, j ≤ n1 ∧ i = .int .i64 j ∧ Blk wr (w.heap.size + 1) 100 #[.int .i64 0, .string ⟨#[]⟩, .string ⟨#[]⟩, .slice none 0 0] ∧ Below w.heap.size w wr) (fun i _ => n1 - (intOf i).toNat)
  case atStart => exact ⟨0, Nat.zero_le _, rfl, R'.out, bB'.out⟩
  case round =>
    obtain ⟨j, hj, rfl, hR, hB⟩ := hrel
    have hR' := Lib.hid hR
    have hB' := Lib.hid hB
    by_cases hlt : j < n1
    · have hl1 : j < ts.length := by rw [hn1'.out]; exact hlt
      have hq1 : ts[j]? = some (ts[j].1, ts[j].2) := List.getElem?_eq_getElem hl1
      obtain ⟨g1, o1, rfl, hc1, hcell1⟩ := hrow'.out.cell (by omega)
      obtain ⟨N, q, cc, rcs, -, l1, x0w, x1w, hrr, hrels⟩ := TysV.part htys'.out hcell1 hq1
      have x0 := (hB.cell (p := ⟨g1, o1 + j * 2, none⟩) l1).trans x0w
      have x1 := (hB.cell (p := ⟨g1, o1 + j * 2 + 1, none⟩) l1).trans x1w
      have l1' : g1 < wr.heap.size := by have := hB.size; omega
      generalize ts[j].2 = rels at *
      generalize hn2 : rels.length = n2 at *
      have hmax2 := hrr.1
      unfold maxLen at hmax2
      have XA := Blk.new wr 96 #[.string N, .slice q n2 cc]
      have bA := (Below.refl wr.heap.size wr).alloc (Nat.le_refl _) (.cells #[.string N, .slice q n2 cc] 96)
      have hBA := Lib.hid (hB.trans (bA.mono hB.size))
      have hRA := Lib.hid (hR.below bA hR.lt)
      have hrrA := Lib.hid hrr
      have hrelsA := Lib.hid hrels
      have hn2' := Lib.hid hn2
      have XAc := XA.cell
      clear hcell1 hq1 hrr hrels bA hl1 hn2 hR hB XA x0w x1w
      cases he : (N.toList == typ.toList)
      · have hne : (N.toList != typ.toList) = true := by simp [bne, he]
        go_wp2_with fail
        go_roundw
        case rel => exact ⟨j + 1, by omega, by go_num, hRA.out, hBA.out⟩
        case measure => simp [intOf]; omega
      · have hne : (N.toList != typ.toList) = false := by simp [bne, he]
        go_wp2_with fail
        clear x0 x1 XAc
        obtain ⟨wo, rfl⟩ : ∃ wo : World, wo = wr := ⟨_, rfl⟩
        go_loopw [26] (fun i wx => ∃ j2 : Nat, j2 ≤ n2 ∧ i = .int .i64 j2 ∧ Blk wx (w.heap.size + 1) 100 #[.int .i64 0, .string ⟨#[]⟩, .string ⟨#[]⟩, .slice none 0 0] ∧ Below w.heap.size w wx) (fun i _ => n2 - (intOf i).toNat)
        case atStart => exact ⟨0, Nat.zero_le _, rfl, hRA.out, hBA.out⟩
        case round =>
          obtain ⟨j2, hj2, rfl, hR, hB⟩ := hrel
          by_cases hlt2 : j2 < n2
          · have hl2 : j2 < rels.length := by rw [hn2'.out]; exact hlt2
            have hq2 : rels[j2]? = some (rels[j2].1, rels[j2].2) := List.getElem?_eq_getElem hl2
            obtain ⟨g2, o2, rfl, hc2, hcell2⟩ := hrrA.out.cell (by omega)
            obtain ⟨M, k, a, b, q2, c2, -, l2, z0, z1, z2, z3, z4, hv⟩ := RelsV.part hrelsA.out hcell2 hq2
            have y0 := (hB.cell (p := ⟨g2, o2 + j2 * 5, none⟩) l2).trans z0
            have y1 := (hB.cell (p := ⟨g2, o2 + j2 * 5 + 1, none⟩) l2).trans z1
            have y2 := (hB.cell (p := ⟨g2, o2 + j2 * 5 + 2, none⟩) l2).trans z2
            have y3 := (hB.cell (p := ⟨g2, o2 + j2 * 5 + 3, none⟩) l2).trans z3
            have y4 := (hB.cell (p := ⟨g2, o2 + j2 * 5 + 4, none⟩) l2).trans z4
            have l2' : g2 < wr.heap.size := by have := hB.size; omega
            generalize rels[j2].2 = rr at *
            have YA := Blk.new wr 103 #[.string M, .int .i64 k, .string a, .string b, .slice q2 rr.parts.length c2]
            have bA := (Below.refl wr.heap.size wr).alloc (Nat.le_refl _) (.cells #[.string M, .int .i64 k, .string a, .string b, .slice q2 rr.parts.length c2] 103)
            have hB2 := Lib.hid (hB.trans (bA.mono hB.size))
            have hR2 := hR.below bA hR.lt
            have hv2 := Lib.hid hv
            have YAc := YA.cell
            clear hcell2 hq2 hl2 bA hv hR hB YA z0 z1 z2 z3 z4
            cases heq : (M.toList == rel.toList)
            · have hR3 := Lib.hid hR2
              clear hR2
              go_wp2_with fail
              go_roundw
              case rel => exact ⟨j2 + 1, by omega, by go_num, hR3.out, hB2.out⟩
              case measure => simp [intOf]; omega
            · obtain ⟨W, eW, hBW, hKW⟩ := put4b rfl hR2 (.int .i64 k) (.string a) (.string b) (.slice q2 rr.parts.length c2)
              have xc := hR2.cell
              have xf := hR2.frozen
              have xl := hR2.lt
              have hW' := Lib.hid (And.intro hBW hKW)
              clear hBW hKW hR2
              go_wp2_with fail
              have c5 := hW'.out.1.cell
              refine bodyPost_ret (v := .tuple #[.agg #[.int .i64 k, .string a, .string b, .slice q2 rr.parts.length c2], .bool true]) (by simp [results, Tryz.results56, go_sem, c5]) rfl ?_
              exact ⟨_, _, _, _, _, _, _, _, rfl, hv2.out.later (Keeps.below_step hB2.out hB2.out.size hW'.out.2 (fun i e => by omega)), Keeps.below_step hB2.out (by have := hB2.out.size; omega) hW'.out.2 (fun i e => by omega)⟩
          · obtain rfl : j2 = n2 := by omega
            obtain ⟨W, eW, hBW, hKW⟩ := put4b rfl hR (.int .i64 0) (.string ⟨#[]⟩) (.string ⟨#[]⟩) (.slice none 0 0)
            have xc := hR.cell
            have xf := hR.frozen
            have xl := hR.lt
            have hW' := Lib.hid (And.intro hBW hKW)
            have hB2 := Lib.hid hB
            clear hBW hKW hR hB
            go_wp2_with fail
            have c5 := hW'.out.1.cell
            refine bodyPost_ret (v := .tuple #[.agg #[.int .i64 0, .string ⟨#[]⟩, .string ⟨#[]⟩, .slice none 0 0], .bool false]) (by simp [results, Tryz.results56, go_sem, c5]) rfl ?_
            exact ⟨_, _, _, _, _, _, _, _, rfl, leafV _ _ _ _, Keeps.below_step hB2.out (by have := hB2.out.size; omega) hW'.out.2 (fun i e => by omega)⟩
    · obtain rfl : j = n1 := by omega
      obtain ⟨W, eW, hBW, hKW⟩ := put4b rfl hR (.int .i64 0) (.string ⟨#[]⟩) (.string ⟨#[]⟩) (.slice none 0 0)
      have xc := hR.cell
      have xf := hR.frozen
      have xl := hR.lt
      have hW' := Lib.hid (And.intro hBW hKW)
      clear hBW hKW hR hB
      go_wp2_with fail
      have c5 := hW'.out.1.cell
      refine bodyPost_ret (v := .tuple #[.agg #[.int .i64 0, .string ⟨#[]⟩, .string ⟨#[]⟩, .slice none 0 0], .bool false]) (by simp [results, Tryz.results56, go_sem, c5]) rfl ?_
      exact ⟨_, _, _, _, _, _, _, _, rfl, leafV _ _ _ _, Keeps.below_step hB'.out (by have := hB'.out.size; omega) hW'.out.2 (fun i e => by omega)⟩
end Go.Proofs.YtaikedlkkjnffaaGreatDoor
namespace Go.Proofs.YtaikedlkkjnffaaGreatDoor
open Go.RowKit
def WritesSaid (t : Tup) (w : World) (e : Ending) (w' : World) : Prop := (∃ n : Int, e = .returned (.int .i64 n) ∧ (n = 0 → t.ok = true)) ∧ Below w.heap.size w w'
set_option maxHeartbeats 4000000 in
set_option maxRecDepth 100000 in
theorem writes_calls (p : Option Addr) (c : Nat) (ts : List TyD) (t : Tup) (w : World) (h : SchV w (.slice p ts.length c) ts) (ht : t.fits) :
    Calls Tryz.prog 41 #[.agg #[.slice p ts.length c], t.v] w (WritesSaid t w) := by
  have bA := (Below.refl w.heap.size w).alloc (Nat.le_refl _) (.cells #[.slice p ts.length c] 56)
  have bB := bA.alloc (by simp) (.cells #[.string t.a, .string t.b, .string t.c, .string t.d, .string t.e, .string t.f] 60)
  have X1 := (Blk.new w 56 #[.slice p ts.length c]).alloc (.cells #[.string t.a, .string t.b, .string t.c, .string t.d, .string t.e, .string t.f] 60)
  have X2 := Blk.new (w.alloc (.cells #[.slice p ts.length c] 56)) 60 #[.string t.a, .string t.b, .string t.c, .string t.d, .string t.e, .string t.f]
  simp only [World.size_alloc] at X2
  have hC := Lib.hid (fun W => refCheck_calls t W ht)
  have h' := Lib.hid h
  have B0 := Lib.hid bB
  have X1' := Lib.hid X1
  have X2' := Lib.hid X2
  clear h bA bB X1 X2
  unfold Tup.v at hC ⊢
  cases hok : t.ok
  · have e1 : t.check = 2 := by simp [Tup.check, hok]
    rw [e1] at hC
    go_enter Tryz.func41, Tryz.ntmps41
    go_wp2_with fail
    refine (hC.out _).mono ?_
    rintro e w1 ⟨rfl, hb⟩
    have B1 := Lib.hid (B0.out.trans (hb.mono (by simp; omega)))
    clear hb
    go_wp2_with fail
    go_ret
    exact ⟨⟨_, rfl, fun e => by omega⟩, B1.out⟩
  · have e1 : t.check = 0 := by simp [Tup.check, hok]
    rw [e1] at hC
    have hok' := Lib.hid hok
    clear hok e1
    obtain ⟨tcs, hrow, htys⟩ := h'.out
    have hmax := hrow.1
    unfold maxLen at hmax
    have hrow' := Lib.hid hrow
    have htys' := Lib.hid htys
    have hF := Lib.hid (fun typ rel W (hb : Below w.heap.size w W) => find_calls p c ts typ rel W (h'.out.later hb))
    clear hrow htys h'
    generalize hn1 : ts.length = n1 at *
    have hn1' := Lib.hid hn1
    clear hn1
    go_enter Tryz.func41, Tryz.ntmps41
    go_wp2_with fail
    refine (hC.out _).mono ?_
    rintro e w1 ⟨rfl, hb⟩
    have B1 := Lib.hid (B0.out.trans (hb.mono (by simp; omega)))
    have Y1 := Lib.hid (X1'.out.below hb X1'.out.lt)
    have Z1 := Lib.hid (X2'.out.below hb X2'.out.lt)
    clear hb hC B0 X1' X2'
    have yc := Y1.out.cell
    have zc := Z1.out.cell
    have yl := Y1.out.lt
    have zl := Z1.out.lt
    have F1 := Lib.hid (fun typ rel => hF.out typ rel w1 B1.out)
    go_wp2_with fail
    refine (F1.out _ _).mono ?_
    rintro e w2 ⟨k, a, b, p3, n3, c3, tr, x1, rfl, hv, hb⟩
    have bR := (Below.refl w2.heap.size w2).alloc (Nat.le_refl _) (.cells #[.int .i64 k, .string a, .string b, .slice p3 n3 c3] 100)
    have R2 := Lib.hid (Blk.new w2 100 #[.int .i64 k, .string a, .string b, .slice p3 n3 c3])
    have Y2 := Lib.hid ((Y1.out.below hb Y1.out.lt).below bR (Y1.out.below hb Y1.out.lt).lt)
    have Z2 := Lib.hid ((Z1.out.below hb Z1.out.lt).below bR (Z1.out.below hb Z1.out.lt).lt)
    have V2 := Lib.hid (hv.later bR)
    have B2a := B1.out.trans (hb.mono B1.out.size)
    have B2 := Lib.hid (B2a.trans (bR.mono B2a.size))
    clear hb hv bR B2a Y1 Z1 B1 F1 yc zc yl zl
    have yc := Y2.out.cell
    have yl := Y2.out.lt
    obtain ⟨b6, hb6⟩ : ∃ b6, w2.heap.size = b6 := ⟨_, rfl⟩
    rw [hb6] at R2
    have hb6' := Lib.hid hb6
    go_wp2_with fail
    clear yc yl hb6 hb6'
    go_loopw [8, 31] (fun v i wx => ∃ (j : Nat) (x : Bool), v = .bool x ∧ i = .int .i64 j ∧ j ≤ n1 ∧ Below w.heap.size w wx ∧ Blk wx w.heap.size 56 #[.slice p n1 c] ∧ Blk wx (w.heap.size + 1) 60 #[.string t.a, .string t.b, .string t.c, .string t.d, .string t.e, .string t.f] ∧ Blk wx b6 100 #[.int .i64 k, .string a, .string b, .slice p3 n3 c3] ∧ RV wx [.int .i64 k, .string a, .string b, .slice p3 n3 c3] tr) (fun _ i _ => n1 - (intOf i).toNat)
    case atStart => exact ⟨0, false, rfl, rfl, Nat.zero_le _, B2.out, Y2.out, Z2.out, R2.out, V2.out⟩
    case round =>
      obtain ⟨j, x, rfl, rfl, hj, hB, hY, hZ, hR, hV⟩ := hrel
      by_cases hlt : j < n1
      · have hl1 : j < ts.length := by rw [hn1'.out]; exact hlt
        obtain ⟨ty, hty⟩ : ∃ ty, ts[j]? = some ty := ⟨_, List.getElem?_eq_getElem hl1⟩
        have hq1 : ts[j]? = some (ty.1, ty.2) := hty
        obtain ⟨g1, o1, rfl, hc1, hcell1⟩ := hrow'.out.cell (by omega)
        obtain ⟨N, q, cc, rcs, -, l1, x0w, x1w, -, -⟩ := TysV.part htys'.out hcell1 hq1
        have u0 := (hB.cell (p := ⟨g1, o1 + j * 2, none⟩) l1).trans x0w
        have u1 := (hB.cell (p := ⟨g1, o1 + j * 2 + 1, none⟩) l1).trans x1w
        have l1' : g1 < wr.heap.size := by have := hB.size; omega
        have XA := Blk.new wr 96 #[.string N, .slice q ty.2.length cc]
        have bA := (Below.refl wr.heap.size wr).alloc (Nat.le_refl _) (.cells #[.string N, .slice q ty.2.length cc] 96)
        have zc := (hZ.below bA hZ.lt).cell
        have zl := hZ.lt
        have XAc := XA.cell
        have hI := Lib.hid (And.intro (hB.trans (bA.mono hB.size)) (And.intro (hY.below bA hY.lt) (And.intro (hZ.below bA hZ.lt) (And.intro (hR.below bA hR.lt) (hV.later bA)))))
        clear hcell1 hq1 hty hl1 x0w x1w XA bA hB hY hZ hR hV
        generalize ty.2.length = n2 at *
        cases x
        · cases he : (N.toList == t.d.toList)
          · go_wp2_with fail
            go_roundw
            case rel => exact ⟨j + 1, _, rfl, by go_num, by omega, hI.out.1, hI.out.2.1, hI.out.2.2.1, hI.out.2.2.2.1, hI.out.2.2.2.2⟩
            case measure => simp [intOf]; omega
          · go_wp2_with fail
            go_roundw
            case rel => exact ⟨j + 1, _, rfl, by go_num, by omega, hI.out.1, hI.out.2.1, hI.out.2.2.1, hI.out.2.2.2.1, hI.out.2.2.2.2⟩
            case measure => simp [intOf]; omega
        · go_wp2_with fail
          go_roundw
          case rel => exact ⟨j + 1, _, rfl, by go_num, by omega, hI.out.1, hI.out.2.1, hI.out.2.2.1, hI.out.2.2.2.1, hI.out.2.2.2.2⟩
          case measure => simp [intOf]; omega
      · obtain rfl : j = n1 := by omega
        have yc := hY.cell
        have zc := hZ.cell
        have yl := hY.lt
        have zl := hZ.lt
        have F2 := Lib.hid (fun typ rel => hF.out typ rel wr hB)
        have hok := hok'.out
        cases he : (t.f.toList == [])
        · have hne : (t.f.toList != []) = true := by simp [bne, he]
          have H := Lib.hid (And.intro hB (And.intro hR hV))
          clear hB hY hZ hR hV
          go_wp2_with fail
          refine (F2.out _ _).mono ?_
          rintro e w4 ⟨k4, a4, b4, p4, n4, c4, tr4, x4, rfl, hv4, hb⟩
          have bR := (Below.refl w4.heap.size w4).alloc (Nat.le_refl _) (.cells #[.int .i64 k4, .string a4, .string b4, .slice p4 n4 c4] 100)
          have b4' := hb.trans (bR.mono hb.size)
          have H4 := Lib.hid (And.intro (H.out.1.trans (b4'.mono H.out.1.size)) (And.intro (H.out.2.2.later b4') (H.out.2.1.below b4' H.out.2.1.lt)))
          clear hb bR b4' H F2 hv4 yc zc yl zl
          cases x <;> cases x4 <;> cases x1
          all_goals
            try
              (go_wp2_with fail
               go_ret
               exact ⟨⟨_, rfl, fun _ => hok⟩, H4.out.1⟩)
          have CT := Lib.hid (this_calls _ _ _ H4.out.2.1)
          have rc := H4.out.2.2.cell
          have rl := H4.out.2.2.lt
          go_wp2_with fail
          refine CT.out.mono ?_
          rintro e w9 ⟨⟨x9, rfl⟩, hb9⟩
          have B9 := Lib.hid (H4.out.1.trans (hb9.mono H4.out.1.size))
          clear hb9 CT rc rl
          cases x9
          · go_wp2_with fail
            go_ret
            exact ⟨⟨_, rfl, fun _ => hok⟩, B9.out⟩
          · go_wp2_with fail
            go_ret
            exact ⟨⟨_, rfl, fun _ => hok⟩, B9.out⟩
        · have hne : (t.f.toList != []) = false := by simp [bne, he]
          have H4 := Lib.hid (And.intro hB (And.intro hV hR))
          clear hB hY hZ hR hV
          cases x <;> cases x1
          all_goals
            try
              (go_wp2_with fail
               go_ret
               exact ⟨⟨_, rfl, fun _ => hok⟩, H4.out.1⟩)
          have CT := Lib.hid (this_calls _ _ _ H4.out.2.1)
          have rc := H4.out.2.2.cell
          have rl := H4.out.2.2.lt
          go_wp2_with fail
          refine CT.out.mono ?_
          rintro e w9 ⟨⟨x9, rfl⟩, hb9⟩
          have B9 := Lib.hid (H4.out.1.trans (hb9.mono H4.out.1.size))
          clear hb9 CT rc rl
          cases x9
          · go_wp2_with fail
            go_ret
            exact ⟨⟨_, rfl, fun _ => hok⟩, B9.out⟩
          · go_wp2_with fail
            go_ret
            exact ⟨⟨_, rfl, fun _ => hok⟩, B9.out⟩
end Go.Proofs.YtaikedlkkjnffaaGreatDoor
namespace Go.Proofs.YtaikedlkkjnffaaGreatDoor
open Go.RowKit
attribute [local go_sem ↓] dapp_op
attribute [local go_sem ↓] eql_tup
/-- tuples that were made: owned, few, short, each may be -/
structure Lot (B : Nat) (w : World) (v : Value) (l : List Tup) (n : Nat) : Prop where
  own : TOwn B w v l
  len : l.length ≤ n
  short : ∀ t ∈ l, t.short
  ok : ∀ t ∈ l, t.ok = true
def TuplesSaid (tp : Nat) (w : World) (e : Ending) (w' : World) : Prop := ∃ v l, e = .returned v ∧ Lot w.heap.size w' v l 20 ∧ TapeAt w' tp ∧ OnTape tp w w'
theorem Lot.keeps {B n : Nat} {w w' : World} {v : Value} {l : List Tup} {S : Nat → Prop} (h : Lot B w v l n) (hk : Keeps S w w') (hs : ∀ j, B ≤ j → ¬ S j) : Lot B w' v l n := ⟨h.own.keeps hk fun j hj => hs j (h.own.lt j hj).1, h.len, h.short, h.ok⟩
theorem Lot.later {B n : Nat} {w w' : World} {v : Value} {l : List Tup} (h : Lot B w v l n) (hb : Below w.heap.size w w') : Lot B w' v l n := ⟨h.own.later hb, h.len, h.short, h.ok⟩
/-- amid: the schema's place, what is made so far -/
structure LInv (tp : Nat) (w wx : World) (p : Option Addr) (n c : Nat) (v : Value) (l : List Tup) (k : Nat) : Prop where
  box : Blk wx w.heap.size 56 #[.slice p n c]
  lot : Lot (w.heap.size + 1) wx v l 20
  room : l.length + k ≤ 20
  tape : TapeAt wx tp
  on : OnTape tp w wx
  tl : tp < w.heap.size
theorem LInv.step {tp : Nat} {w wx wy : World} {p : Option Addr} {n c : Nat} {v : Value} {l : List Tup} {k : Nat} (h : LInv tp w wx p n c v l k) (hk : OnTape tp wx wy) (hT : TapeAt wy tp) : LInv tp w wy p n c v l k := by
  have := h.tl
  exact ⟨h.box.keeps hk (by omega), h.lot.keeps hk (fun j hj e => by omega), h.room, hT, h.on.trans hk, h.tl⟩
theorem LInv.later {tp : Nat} {w wx wy : World} {p : Option Addr} {n c : Nat} {v : Value} {l : List Tup} {k : Nat} (h : LInv tp w wx p n c v l k) (hb : Below wx.heap.size wx wy) : LInv tp w wy p n c v l k := h.step (.of_below hb) (h.tape.later hb)
set_option maxHeartbeats 8000000 in
set_option maxRecDepth 100000 in
theorem tuples_calls (tp B : Nat) (p : Option Addr) (c : Nat) (us : List Value) (ts : List TyD) (w : World) (hT : TapeAt w tp) (hM : Made B w (.slice p ts.length c) us ts) (hok : TsOk ts) (hn0 : ts.length ≠ 0) (hn : ts.length ≤ 3) (htB : tp < B) :
    Calls Tryz.prog 19 #[.pointer (some ⟨tp, 0, none⟩), .agg #[.slice p ts.length c], .int .i64 20] w (TuplesSaid tp w) := by
  have htl := hT.lt
  have hN := Lib.hid (show ∀ W, TapeAt W tp → Calls Tryz.prog 37 #[.pointer (some ⟨tp, 0, none⟩), .int .i64 21] W (NextSaid 21 tp W) from fun W h => next_calls 21 tp W (by omega) h)
  have hTu := Lib.hid (fun (W : World) (hk : OnTape tp w W) (h : TapeAt W tp) => tuple_calls tp B p c us ts W h (hM.keeps hk fun j hj e => by omega) hok hn0 hn htB)
  have hW := Lib.hid (fun (W : World) (t : Tup) (hk : OnTape tp w W) (h : t.fits) => writes_calls p c ts t W ((hM.keeps hk fun j hj e => by omega).read (N := 4) (by decide) (hok.small (by omega))) h)
  have b1 := (Below.refl w.heap.size w).alloc (Nat.le_refl _) (.cells #[.slice p ts.length c] 56)
  have X1 := Blk.new w 56 #[.slice p ts.length c]
  have L0 := Lib.hid (show LInv tp w _ p ts.length c (.slice none 0 0) [] 20 from ⟨X1, ⟨TOwn.nil _ _, by simp, fun t ht => by simp at ht, fun t ht => by simp at ht⟩, by simp, hT.later b1, .of_below b1, htl⟩)
  clear b1 X1 hT hM hok
  generalize hn1 : ts.length = n1 at *
  clear hn1
  go_enter Tryz.func19, Tryz.ntmps19
  go_wp2_with fail
  refine (hN.out _ L0.out.tape).mono ?_
  rintro e w1 ⟨k0, rfl, hk0, hT1, hk⟩
  have L1 := Lib.hid (L0.out.step hk hT1)
  have hk021 : k0 < 21 := by omega
  clear hk hT1 L0 hk0
  go_wp2_with fail
  go_loopw [7, 8] (fun v i wx => ∃ (k : Nat) (l : List Tup), i = .int .i64 k ∧ k ≤ 20 ∧ LInv tp w wx p n1 c v l k) (fun _ i _ => (intOf i).toNat)
  case atStart => exact ⟨k0, [], rfl, by omega, { L1.out with room := by simp; omega }⟩
  case round =>
    obtain ⟨k, l, rfl, hk, hL⟩ := hrel
    obtain ⟨ps, cs, rfl⟩ := hL.lot.own.slice
    have hL' := Lib.hid hL
    have bc := hL.box.cell
    have bl := hL.box.lt
    have hroom := hL.room
    obtain ⟨M, hM⟩ : ∃ M, l.length = M := ⟨_, rfl⟩
    rw [hM] at hL' hroom ⊢
    have hM' := Lib.hid hM
    clear hL hM L1
    cases k with
    | zero =>
      go_wp2_with fail
      go_ret
      exact ⟨_, l, rfl, ⟨TOwn.mono hL'.out.lot.own (by omega), hL'.out.lot.len, hL'.out.lot.short, hL'.out.lot.ok⟩, hL'.out.tape, hL'.out.on⟩
    | succ k =>
      have C1 := Lib.hid (hTu.out wr hL'.out.on hL'.out.tape)
      go_wp2_with fail
      refine C1.out.mono ?_
      rintro e w2 ⟨t, rfl, hts, hT2, hk2⟩
      have bA := (Below.refl w2.heap.size w2).alloc (Nat.le_refl _) (.cells #[.string t.a, .string t.b, .string t.c, .string t.d, .string t.e, .string t.f] 60)
      have L2a := hL'.out.step hk2 hT2
      have L2 := Lib.hid (L2a.later bA)
      have X2 := Lib.hid (Blk.new w2 60 #[.string t.a, .string t.b, .string t.c, .string t.d, .string t.e, .string t.f])
      have hts' := Lib.hid hts
      have gl : w.heap.size + 1 ≤ w2.heap.size := by have := L2a.box.lt; omega
      clear C1 hT2 hk2 bA L2a hL' hts bc bl
      have C2 := Lib.hid (hW.out _ t L2.out.on hts'.out.fits)
      have bc := L2.out.box.cell
      have bl := L2.out.box.lt
      have xc := X2.out.cell
      unfold Tup.v at C2
      go_wp2_with fail
      refine C2.out.mono ?_
      rintro e w3 ⟨⟨n, rfl, hno⟩, hb3⟩
      have L3 := Lib.hid (L2.out.later hb3)
      have X3 := Lib.hid (X2.out.below hb3 X2.out.lt)
      have hno' := Lib.hid hno
      clear hb3 hno L2 X2 C2 bc bl xc
      obtain ⟨b9, hb9⟩ : ∃ b9, w2.heap.size = b9 := ⟨_, rfl⟩
      rw [hb9] at X3 gl ⊢
      clear hb9
      go_wp2_with fail
      obtain ⟨wo, rfl⟩ : ∃ wo : World, wo = wr := ⟨_, rfl⟩
      go_loopw [10, 30] (fun v i wx => ∃ (b : Bool) (j : Nat), v = .bool b ∧ i = .int .i64 j ∧ j ≤ M ∧ (b = false → t.ok = true) ∧ LInv tp w wx p n1 c (.slice ps M cs) l (k + 1) ∧ Blk wx b9 60 #[.string t.a, .string t.b, .string t.c, .string t.d, .string t.e, .string t.f]) (fun _ i _ => M - (intOf i).toNat)
      case atStart => exact ⟨_, 0, rfl, rfl, Nat.zero_le _, fun h => hno'.out (by simpa using h), L3.out, X3.out⟩
      case round =>
        obtain ⟨b, j, rfl, rfl, hj, hb, hL, hX⟩ := hrel
        have hb' := Lib.hid hb
        clear hb L3 X3 hno'
        by_cases hlt : j < M
        · obtain ⟨y, hy⟩ : ∃ y, l[j]? = some y := ⟨_, List.getElem?_eq_getElem (by rw [hM'.out]; exact hlt)⟩
          obtain ⟨a1, b1, rfl, ha, hbl, x0, x1, x2, x3, x4, x5⟩ := hL.lot.own.holds j y hy
          have bA := (Below.refl wr.heap.size wr).alloc (Nat.le_refl _) (.cells #[.string y.a, .string y.b, .string y.c, .string y.d, .string y.e, .string y.f] 60)
          have Y := (Blk.new wr 60 #[.string y.a, .string y.b, .string y.c, .string y.d, .string y.e, .string y.f]).cell
          have XA := hX.below bA hX.lt
          have xc := XA.cell
          have xl := hX.lt
          have H := Lib.hid (And.intro (hL.later bA) XA)
          obtain ⟨r, hr⟩ : ∃ r, same6 t.a t.b t.c t.d t.e t.f y.a y.b y.c y.d y.e y.f = r := ⟨_, rfl⟩
          clear hy hL hX bA XA
          cases b
          · cases r
            · go_wp2_with fail
              go_roundw
              case rel => exact ⟨_, j + 1, rfl, by go_num, by omega, fun _ => hb'.out rfl, H.out.1, H.out.2⟩
              case measure => simp [intOf]; omega
            · go_wp2_with fail
              go_roundw
              case rel => exact ⟨_, j + 1, rfl, by go_num, by omega, fun _ => hb'.out rfl, H.out.1, H.out.2⟩
              case measure => simp [intOf]; omega
          · go_wp2_with fail
            go_roundw
            case rel => exact ⟨_, j + 1, rfl, by go_num, by omega, fun h => hb'.out h, H.out.1, H.out.2⟩
            case measure => simp [intOf]; omega
        · obtain rfl : j = M := by omega
          cases b
          · have hok := Lib.hid (hb'.out rfl)
            have bA := (Below.refl wr.heap.size wr).alloc (Nat.le_refl _) (.cells #[.string t.a, .string t.b, .string t.c, .string t.d, .string t.e, .string t.f] 60)
            have LA := hL.later bA
            have hwl := LA.box.lt
            obtain ⟨p5, c5, w5, e5, o5, k5⟩ := LA.lot.own.app (t := t) (by omega) (Blk.new wr 60 #[.string t.a, .string t.b, .string t.c, .string t.d, .string t.e, .string t.f]) (by have := hL.lot.len; omega)
            have hlow := fun i (e : (Value.slice ps j cs).ownBlock = some i) => (LA.lot.own.lt i e).1
            have htl' := hL.tl
            have L5 := Lib.hid (show LInv tp w w5 p n1 c (.slice p5 (l.length + 1) c5) (l ++ [t]) k from ⟨LA.box.keeps k5 (fun e => by have := hlow _ e; omega), ⟨o5, by have := hL.room; simp; omega, fun x hx => by
              rcases List.mem_append.1 hx with hx | hx
              · exact hL.lot.short x hx
              · rw [List.mem_singleton.1 hx]; exact hts'.out, fun x hx => by
              rcases List.mem_append.1 hx with hx | hx
              · exact hL.lot.ok x hx
              · rw [List.mem_singleton.1 hx]; exact hok.out⟩, by have := hL.room; simp; omega, LA.tape.keeps k5 (fun i hi e => by have := hlow _ e; omega), LA.on.step k5 (fun i e => .inr (by have := hlow _ e; omega)), hL.tl⟩)
            have xc := hX.cell
            have xl := hX.lt
            rw [hM'.out] at e5 L5
            clear bA LA o5 k5 hlow hL hX
            go_wp2_with fail
            go_roundw
            case rel => exact ⟨k, l ++ [t], by go_num, by omega, L5.out⟩
            case measure => simp [intOf] <;> omega
          · have H := Lib.hid { hL with room := by have := hL.room; omega : LInv tp w wr p n1 c (.slice ps j cs) l k }
            clear hL hX
            go_wp2_with fail
            go_roundw
            case rel => exact ⟨k, l, by go_num, by omega, H.out⟩
            case measure => simp [intOf] <;> omega
end Go.Proofs.YtaikedlkkjnffaaGreatDoor
namespace Go.Proofs.YtaikedlkkjnffaaGreatDoor
open Go.RowKit Go.Maps
attribute [local go_sem ↓] eql_sub
attribute [local go_sem ↓] eql_pt
def NilSaid (w : World) (e : Ending) (w' : World) : Prop := e = .returned (.tuple #[.slice none 0 0, .int .i64 0]) ∧ Below w.heap.size w w'
theorem nilSubs_calls (a b c : ByteArray) (w : World) : Calls Tryz.prog 9 #[.pointer none, .agg #[.string a, .string b, .string c]] w (NilSaid w) := by
  go_enter Tryz.func9, Tryz.ntmps9
  go_wp2_with fail
  go_ret2
  exact ⟨rfl, (Below.refl _ _).alloc (Nat.le_refl _) _⟩
theorem nilPoints_calls (a b c : ByteArray) (w : World) : Calls Tryz.prog 10 #[.pointer none, .agg #[.string a, .string b, .string c]] w (NilSaid w) := by
  go_enter Tryz.func10, Tryz.ntmps10
  go_wp2_with fail
  go_ret2
  exact ⟨rfl, (Below.refl _ _).alloc (Nat.le_refl _) _⟩
theorem nilObjects_calls (a : ByteArray) (w : World) : Calls Tryz.prog 11 #[.pointer none, .string a] w (NilSaid w) := by
  go_enter Tryz.func11, Tryz.ntmps11
  go_wp2_with fail
  go_ret2
  exact ⟨rfl, Below.refl _ _⟩
theorem subs_has {l : List Tup} {x : Tup} (hx : x ∈ l) (hok : x.ok = true) : x.sb ∈ subsD (setT l) x.pt := by
  unfold subsD
  rw [List.mem_map]
  exact ⟨x, List.mem_filter.2 ⟨(setT_mem l x).2 ⟨hx, hok⟩, by simp⟩, rfl⟩
theorem points_has {l : List Tup} {x : Tup} (hx : x ∈ l) (hok : x.ok = true) : x.pt ∈ pointsD (setT l) x.sb := by
  unfold pointsD
  rw [List.mem_map]
  exact ⟨x, List.mem_filter.2 ⟨(setT_mem l x).2 ⟨hx, hok⟩, by simp⟩, rfl⟩
/-- what is passed over has not that one -/
def Passed (L : List Tri) (x : Tri) (j : Nat) (b : Bool) : Prop := b = false → ∀ i, i < j → L[i]? ≠ some x
theorem Passed.end_ {L : List Tri} {x : Tri} {b : Bool} (h : Passed L x L.length b) (hx : x ∈ L) : b = true := by
  cases b with
  | true => rfl
  | false =>
    obtain ⟨i, hi, e⟩ := List.mem_iff_getElem.1 hx
    exact absurd (by rw [List.getElem?_eq_getElem hi, e]) (h rfl i hi)
theorem Passed.next {L : List Tri} {x y : Tri} {j : Nat} (h : Passed L x j false) (hy : L[j]? = some y) : Passed L x (j + 1) (y.same x) := by
  intro hs i hi e
  by_cases hij : i = j
  · subst hij
    rw [hy] at e
    rw [Option.some.inj e, Tri.same_eq.2 rfl] at hs
    cases hs
  · exact h rfl i (by omega) e
/-- amid a round: all that is held -/
structure Amid2 (w wx : World) (l : List Tup) (M : Nat) (p3 : Option Addr) (c3 BB g bs bp bo N : Nat) (f : Value → Option Value) (t : Tup) (b8 : Nat) (p6 p7 : Option Addr) (S P : List Tri) : Prop where
  below : Below w.heap.size w wx
  lot : Lot 0 wx (.slice p3 M c3) l 20
  book : BookAt wx BB g bs bp bo N f (subsD (setT l)) (pointsD (setT l)) (allO (setT l))
  tup : Blk wx b8 60 #[.string t.a, .string t.b, .string t.c, .string t.d, .string t.e, .string t.f]
  pt : Blk wx (b8 + 1) 26 #[.string t.a, .string t.b, .string t.c]
  rs : rkS.At wx p6 S
  rp : rkP.At wx p7 P
theorem Amid2.later {w wx wy : World} {l : List Tup} {M : Nat} {p3 : Option Addr} {c3 BB g bs bp bo N : Nat} {f : Value → Option Value} {t : Tup} {b8 : Nat} {p6 p7 : Option Addr} {S P : List Tri} (h : Amid2 w wx l M p3 c3 BB g bs bp bo N f t b8 p6 p7 S P) (hb : Below wx.heap.size wx wy) : Amid2 w wy l M p3 c3 BB g bs bp bo N f t b8 p6 p7 S P :=
  ⟨h.below.trans (hb.mono h.below.size), h.lot.later hb, h.book.below hb, h.tup.below hb h.tup.lt, h.pt.below hb h.pt.lt, h.rs.below hb, h.rp.below hb⟩
structure BytesAt (w : World) (p : Option Addr) (n : Nat) : Prop where
  byte : ∀ k, k < n → ∃ (a : Addr) (b : Nat), p = some a ∧ (a.add k).block < w.heap.size ∧ b < 256 ∧ w.cell? (a.add k) = some (.int .u8 b)
theorem BytesAt.tape {w w1 : World} {p : Option Addr} {n c : Nat} (h : BytesAt w p n) (hn : n ≤ 1000000) (hb : Below w.heap.size w w1) : TapeAt (w1.alloc (.cells #[.slice p n c, .int .i64 0] 53)) w1.heap.size :=
  ⟨p, n, c, 0, Blk.new _ _ _, Nat.zero_le _, hn, fun k hk => by
    obtain ⟨a, b, h1, h2, h3, h4⟩ := h.byte k hk
    have hz := hb.size
    refine ⟨a, b, h1, by omega, h3, ?_⟩
    rw [((Below.refl w1.heap.size w1).alloc (Nat.le_refl _) (.cells #[.slice p n c, .int .i64 0] 53)).cell (by omega), hb.cell h2, h4]⟩
set_option maxHeartbeats 8000000 in
set_option maxRecDepth 100000 in
theorem factsBoth_calls (p0 : Option Addr) (n0 c0 : Nat) (w : World) (hn : n0 ≤ maxLen) (hB : BytesAt w p0 n0) :
    Calls Tryz.prog 4 #[.slice p0 n0 c0] w fun e w' => e = .returned (.bool true) ∧ Below w.heap.size w w' := by
  unfold maxLen at hn
  have F := Lib.hid (fun W => fixed_calls W)
  have hB' := Lib.hid hB
  clear hB
  by_cases h300 : n0 ≤ 300
  · have h3 : ¬ (300 : Int) < (n0 : Int) := by omega
    go_enter Tryz.func4, Tryz.ntmps4
    go_wp2_with fail
    refine (F.out _).mono ?_
    rintro e w1 ⟨rfl, hb⟩
    have B1 := Lib.hid hb
    have T1 := Lib.hid (hB'.out.tape (c := c0) (by omega) hb)
    have B2 := Lib.hid (hb.alloc hb.size (.cells #[.slice p0 n0 c0, .int .i64 0] 53))
    have hz1 := hb.size
    clear hb F
    have S1 := Lib.hid (schema_calls w1.heap.size _ T1.out)
    go_wp2_with fail
    refine S1.out.mono ?_
    rintro e w2 ⟨p2, c2, us, ts, rfl, hM, hok, hlo, hhi, hT2, hk⟩
    have hz2 := hk.size
    rw [World.size_alloc] at hz2
    have bS := (Below.refl w2.heap.size w2).alloc (Nat.le_refl _) (.cells #[.slice p2 ts.length c2] 56)
    have X3 := (Blk.new w2 56 #[.slice p2 ts.length c2]).cell
    have hM3 := (hM.later bS)
    rw [World.size_alloc] at hM3
    have S2 := Lib.hid (tuples_calls w1.heap.size (w1.heap.size + 1) p2 c2 us ts _ (hT2.later bS) hM3 hok (by omega) hhi (by omega))
    have B3 := Lib.hid ((B2.out.trans (hk.below (B := w.heap.size) (fun k _ e => by omega) (by simp; omega))).trans (bS.mono (by omega)))
    clear hM hok hT2 hk bS hM3 S1 T1 B1 B2
    generalize ts.length = nt at *
    go_wp2_with fail
    refine S2.out.mono ?_
    rintro e w3 ⟨v3, l, rfl, hL, _, hk⟩
    obtain ⟨p3, c3, rfl⟩ := hL.own.slice
    have B4 := Lib.hid (B3.out.trans (hk.below (B := w.heap.size) (fun k _ e => by omega) (by simp; omega)))
    have L4 := Lib.hid hL
    have N4 := Lib.hid (newBook_calls l p3 c3 w3 (by have := hL.len; omega) hL.own.holds (fun t ht => (hL.short t ht).fits))
    have hl20 := hL.len
    clear hL hk S2 B3 X3
    obtain ⟨M, hMl⟩ : ∃ M, l.length = M := ⟨_, rfl⟩
    rw [hMl] at N4 hl20 ⊢
    have hMl' := Lib.hid hMl
    clear hMl
    go_wp2_with fail
    refine N4.out.mono ?_
    rintro e w4 ⟨g, bs, bp, bo, N, f, rfl, hbk, hN1, hb⟩
    have B5 := Lib.hid (B4.out.trans (hb.mono B4.out.size))
    have L5 := Lib.hid (L4.out.later hb)
    have K5 := Lib.hid hbk
    clear hbk hb B4 L4 N4
    go_wp2_with fail
    rw [hMl'.out] at L5
    go_loopw [44] (fun i wx => ∃ k : Nat, k ≤ M ∧ i = .int .i64 k ∧ Below w.heap.size w wx ∧ Lot 0 wx (.slice p3 M c3) l 20 ∧ BookAt wx w3.heap.size g bs bp bo N f (subsD (setT l)) (pointsD (setT l)) (allO (setT l))) (fun i _ => M - (intOf i).toNat)
    case atStart => exact ⟨0, Nat.zero_le _, rfl, B5.out, ⟨L5.out.own.mono (Nat.zero_le _), L5.out.len, L5.out.short, L5.out.ok⟩, K5.out⟩
    case round =>
      obtain ⟨k, hk, rfl, hB, hL, hK⟩ := hrel
      by_cases hlt : k < M
      · obtain ⟨t, ht⟩ : ∃ t, l[k]? = some t := ⟨_, List.getElem?_eq_getElem (by rw [hMl'.out]; exact hlt)⟩
        have htm := List.mem_of_getElem? ht
        have hts := hL.short t htm
        have hm1 := Lib.hid (subs_has htm (hL.ok t htm))
        have hm2 := Lib.hid (points_has htm (hL.ok t htm))
        obtain ⟨a1, b1, rfl, ha, hbl, x0, x1, x2, x3, x4, x5⟩ := hL.own.holds k t ht
        have bA := (Below.refl wr.heap.size wr).alloc (Nat.le_refl _) (.cells #[.string t.a, .string t.b, .string t.c, .string t.d, .string t.e, .string t.f] 60)
        have bC := bA.alloc (by simp) (.cells #[.string t.a, .string t.b, .string t.c] 26)
        have X8 := (Blk.new wr 60 #[.string t.a, .string t.b, .string t.c, .string t.d, .string t.e, .string t.f])
        have X8' := X8.alloc (.cells #[.string t.a, .string t.b, .string t.c] 26)
        have X9 := Blk.new (wr.alloc (.cells #[.string t.a, .string t.b, .string t.c, .string t.d, .string t.e, .string t.f] 60)) 26 #[.string t.a, .string t.b, .string t.c]
        rw [World.size_alloc] at X9
        have hsz := hts.fits
        have q1 : (t.pt).x.size ≤ maxLen ∧ (t.pt).y.size ≤ maxLen ∧ (t.pt).z.size ≤ maxLen := ⟨hsz _ (t.part_mem 0 (by omega)), hsz _ (t.part_mem 1 (by omega)), hsz _ (t.part_mem 2 (by omega))⟩
        have q2 : (t.sb).x.size ≤ maxLen ∧ (t.sb).y.size ≤ maxLen ∧ (t.sb).z.size ≤ maxLen := ⟨hsz _ (t.part_mem 3 (by omega)), hsz _ (t.part_mem 4 (by omega)), hsz _ (t.part_mem 5 (by omega))⟩
        have hset := setT_len l l.length
        rw [List.take_of_length_le (Nat.le_refl _), hMl'.out] at hset
        have hl1 := subsD_len (setT l) t.pt
        have hl2 := pointsD_len (setT l) t.sb
        have HB := Lib.hid (hB.trans (bC.mono hB.size))
        have HL := Lib.hid (hL.later bC)
        have HK := Lib.hid (hK.below bC)
        have H8 := Lib.hid X8'
        have H9 := Lib.hid X9
        have C1 := Lib.hid (bookSubs_calls (hK.below bC) t.pt q1 (by omega))
        have Q2 := Lib.hid q2
        have x8c := X8.cell
        have y8c := X8'.cell
        have y9c := X9.cell
        have l8 := X8'.lt
        have l9 := X9.lt
        clear ht htm hts hB hL hK bA bC X8 X8' X9 hsz q1 q2
        obtain ⟨b8, hb8⟩ : ∃ b8, wr.heap.size = b8 := ⟨_, rfl⟩
        go_wp2_with fail
        refine C1.out.mono ?_
        rintro e w6 ⟨v6, rfl, hv6, hb⟩
        obtain ⟨p6, c6, rfl⟩ := hv6.slice
        have R6 := Lib.hid (hv6.at_ rkS_ok)
        have HB6 := Lib.hid (HB.out.trans (hb.mono HB.out.size))
        have HL6 := Lib.hid (HL.out.later hb)
        have HK6 := Lib.hid (HK.out.below hb)
        have H86 := Lib.hid (H8.out.below hb H8.out.lt)
        have H96 := Lib.hid (H9.out.below hb H9.out.lt)
        rw [hb8] at H86 H96
        have C2 := Lib.hid (bookPoints_calls HK6.out t.sb Q2.out (by omega))
        clear hv6 hb HB HL HK H8 H9 C1 x8c y8c y9c l8 l9 x0 x1 x2 x3 x4 x5 hb8
        have tc := H86.out.cell
        have tl := H86.out.lt
        go_wp2_with fail
        refine C2.out.mono ?_
        rintro e w7 ⟨v7, rfl, hv7, hb⟩
        obtain ⟨p7, c7, rfl⟩ := hv7.slice
        obtain ⟨S, hS⟩ : ∃ S, subsD (setT l) t.pt = S := ⟨_, rfl⟩
        obtain ⟨P, hP⟩ : ∃ P, pointsD (setT l) t.sb = P := ⟨_, rfl⟩
        rw [hS] at R6 hm1 hl1 ⊢
        rw [hP] at hv7 hm2 hl2 ⊢
        have A7 := Lib.hid (show Amid2 w w7 l M (some a1) c3 w3.heap.size g bs bp bo N f t b8 p6 p7 S P from ⟨HB6.out.trans (hb.mono HB6.out.size), HL6.out.later hb, HK6.out.below hb, H86.out.below hb H86.out.lt, H96.out.below hb H96.out.lt, R6.out.below hb, hv7.at_ rkP_ok⟩)
        clear hv7 hb HB6 HL6 HK6 H86 H96 R6 C2 tc tl hS hP Q2
        obtain ⟨nS, hSn0⟩ : ∃ n, S.length = n := ⟨_, rfl⟩
        obtain ⟨nP, hPn0⟩ : ∃ n, P.length = n := ⟨_, rfl⟩
        rw [hSn0] at hl1 ⊢
        rw [hPn0] at hl2 ⊢
        have hSn := Lib.hid hSn0
        have hPn := Lib.hid hPn0
        clear hSn0 hPn0
        go_wp2_with fail
        obtain ⟨wo14, rfl⟩ : ∃ wo : World, wo = wr := ⟨_, rfl⟩
        go_loopw [14, 68] (fun v i wx => ∃ (b : Bool) (j : Nat), v = .bool b ∧ i = .int .i64 j ∧ j ≤ nS ∧ Passed S t.sb j b ∧ Amid2 w wx l M (some a1) c3 w3.heap.size g bs bp bo N f t b8 p6 p7 S P) (fun _ i _ => nS - (intOf i).toNat)
        case atStart => exact ⟨false, 0, rfl, rfl, Nat.zero_le _, fun _ i hi => absurd hi (by omega), A7.out⟩
        case round =>
          obtain ⟨b, j, rfl, rfl, hj, hb, hA⟩ := hrel
          have hb' := Lib.hid hb
          clear hb A7
          by_cases hlt2 : j < nS
          · obtain ⟨y, hy⟩ : ∃ y, S[j]? = some y := ⟨_, List.getElem?_eq_getElem (by rw [hSn.out]; exact hlt2)⟩
            obtain ⟨a2, b2, rfl, ha2, hbl2, z0, z1, z2⟩ := hA.rs.three rfl rfl hy
            have bA := (Below.refl wr.heap.size wr).alloc (Nat.le_refl _) (.cells #[.string y.x, .string y.y, .string y.z] 27)
            have Y := (Blk.new wr 27 #[.string y.x, .string y.y, .string y.z]).cell
            have tc := (hA.later bA).tup.cell
            have tl := hA.tup.lt
            have qc := (hA.later bA).pt.cell
            have ql := hA.pt.lt
            have H := Lib.hid (hA.later bA)
            have hy' := Lib.hid hy
            clear hy hA bA
            cases b
            · obtain ⟨r, hr⟩ : ∃ r, same3 y.x y.y y.z t.d t.e t.f = r := ⟨_, rfl⟩
              have hn := Lib.hid (Passed.next (x := t.sb) hb'.out hy'.out)
              have hn' : Hid (Passed S t.sb (j + 1) r) := by
                have e : y.same t.sb = r := hr
                rw [e] at hn; exact hn
              clear hn
              cases r
              · go_wp2_with fail
                go_roundw
                case rel => exact ⟨_, j + 1, rfl, by go_num, by omega, hn'.out, H.out⟩
                case measure => simp [intOf]; omega
              · go_wp2_with fail
                go_roundw
                case rel => exact ⟨_, j + 1, rfl, by go_num, by omega, hn'.out, H.out⟩
                case measure => simp [intOf]; omega
            · go_wp2_with fail
              go_roundw
              case rel => exact ⟨_, j + 1, rfl, by go_num, by omega, fun h => (by cases h), H.out⟩
              case measure => simp [intOf]; omega
          · obtain rfl : j = nS := by omega
            obtain rfl : b = true := Passed.end_ (by rw [hSn.out]; exact hb'.out) hm1.out
            have A7 := Lib.hid hA
            clear hA hb'
            go_wp2_with fail
            obtain ⟨wo15, rfl⟩ : ∃ wo : World, wo = wr := ⟨_, rfl⟩
            go_loopw [15, 82] (fun v i wx => ∃ (b : Bool) (j : Nat), v = .bool b ∧ i = .int .i64 j ∧ j ≤ nP ∧ Passed P t.pt j b ∧ Amid2 w wx l M (some a1) c3 w3.heap.size g bs bp bo N f t b8 p6 p7 S P) (fun _ i _ => nP - (intOf i).toNat)
            case atStart => exact ⟨false, 0, rfl, rfl, Nat.zero_le _, fun _ i hi => absurd hi (by omega), A7.out⟩
            case round =>
              obtain ⟨b, j, rfl, rfl, hj, hb, hA⟩ := hrel
              have hb' := Lib.hid hb
              clear hb A7
              by_cases hlt2 : j < nP
              · obtain ⟨y, hy⟩ : ∃ y, P[j]? = some y := ⟨_, List.getElem?_eq_getElem (by rw [hPn.out]; exact hlt2)⟩
                obtain ⟨a2, b2, rfl, ha2, hbl2, z0, z1, z2⟩ := hA.rp.three rfl rfl hy
                have bA := (Below.refl wr.heap.size wr).alloc (Nat.le_refl _) (.cells #[.string y.x, .string y.y, .string y.z] 26)
                have Y := (Blk.new wr 26 #[.string y.x, .string y.y, .string y.z]).cell
                have tc := (hA.later bA).tup.cell
                have tl := hA.tup.lt
                have qc := (hA.later bA).pt.cell
                have ql := hA.pt.lt
                have H := Lib.hid (hA.later bA)
                have hy' := Lib.hid hy
                clear hy hA bA
                cases b
                · obtain ⟨r, hr⟩ : ∃ r, same3 y.x y.y y.z t.a t.b t.c = r := ⟨_, rfl⟩
                  have hn := Lib.hid (Passed.next (x := t.pt) hb'.out hy'.out)
                  have hn' : Hid (Passed P t.pt (j + 1) r) := by
                    have e : y.same t.pt = r := hr
                    rw [e] at hn; exact hn
                  clear hn
                  cases r
                  · go_wp2_with fail
                    go_roundw
                    case rel => exact ⟨_, j + 1, rfl, by go_num, by omega, hn'.out, H.out⟩
                    case measure => simp [intOf]; omega
                  · go_wp2_with fail
                    go_roundw
                    case rel => exact ⟨_, j + 1, rfl, by go_num, by omega, hn'.out, H.out⟩
                    case measure => simp [intOf]; omega
                · go_wp2_with fail
                  go_roundw
                  case rel => exact ⟨_, j + 1, rfl, by go_num, by omega, fun h => (by cases h), H.out⟩
                  case measure => simp [intOf]; omega
              · obtain rfl : j = nP := by omega
                obtain rfl : b = true := Passed.end_ (by rw [hPn.out]; exact hb'.out) hm2.out
                have A7 := Lib.hid hA
                clear hA hb'
                go_wp2_with fail
                go_roundw
                case rel => exact ⟨k + 1, by omega, by go_num, A7.out.below, A7.out.lot, A7.out.book⟩
                case measure => simp [intOf]; omega
      · obtain rfl : k = M := by omega
        have HB := Lib.hid hB
        clear hB hL hK
        have D1 := Lib.hid (fun a b c W => nilSubs_calls a b c W)
        have D2 := Lib.hid (fun a b c W => nilPoints_calls a b c W)
        have D3 := Lib.hid (fun a W => nilObjects_calls a W)
        go_wp2_with fail
        refine (D1.out _ _ _ _).mono ?_
        rintro e w6 ⟨rfl, hb⟩
        have HB6 := Lib.hid (HB.out.trans (hb.mono HB.out.size))
        clear hb HB
        go_wp2_with fail
        refine (D2.out _ _ _ _).mono ?_
        rintro e w7 ⟨rfl, hb⟩
        have HB7 := Lib.hid (HB6.out.trans (hb.mono HB6.out.size))
        clear hb HB6
        go_wp2_with fail
        refine (D3.out _ _).mono ?_
        rintro e w8 ⟨rfl, hb⟩
        have HB8 := Lib.hid (HB7.out.trans (hb.mono HB7.out.size))
        clear hb HB7
        go_wp2_with fail
        go_ret
        exact ⟨rfl, HB8.out⟩
  · have h3 : (300 : Int) < (n0 : Int) := by omega
    go_enter Tryz.func4, Tryz.ntmps4
    go_wp2_with fail
    refine (F.out _).mono ?_
    rintro e w1 ⟨rfl, hb⟩
    have hb' := Lib.hid hb
    clear hb
    go_wp2_with fail
    go_ret
    exact ⟨rfl, hb'.out⟩
end Go.Proofs.YtaikedlkkjnffaaGreatDoor
namespace Go.Proofs.YtaikedlkkjnffaaGreatDoor
open Go.ChangeShapes Go.WideShapes Go.ChangeAt Go.RowKit Go.Deep
open Go.ChangeMaps (open_string shut_string)

def layCells (cs : Array Value) : Obj → Obj
  | .cells _ t frozen => .cells cs t frozen
  | o => o
/-- a world in which the two tables of the library hold what their initialisers lay -/
noncomputable def laidWorld (os : Os) : World :=
  { World.holding Tryz.prog os ⟨#[], #[], []⟩ with heap := ((World.holding Tryz.prog os ⟨#[], #[], []⟩).heap.modify 1 (layCells (Go.Pinned.utf8FirstZ.map fun (n : Nat) => Value.int .u8 (n : Int)).toArray)).modify 2 (layCells (([128, 191, 160, 191, 128, 159, 144, 191, 128, 143, 0, 0, 0, 0, 0, 0, 0, 0, 0, 0, 0, 0, 0, 0, 0, 0, 0, 0, 0, 0, 0, 0] : List Nat).map fun (n : Nat) => Value.int .u8 (n : Int)).toArray) }
end Go.Proofs.YtaikedlkkjnffaaGreatDoor
namespace Go.Proofs.YtaikedlkkjnffaaGreatDoor
open Go.ChangeShapes Go.WideShapes Go.ChangeAt Go.RowKit Go.Deep
theorem laidOut : laidOutB Tryz.prog = true := by kernel_rfl
theorem cellsU8 : Tryz.prog.cellsOf 5 = 1 := by kernel_rfl
theorem u8_nat {n : Int} (h : (Lit.int .u8 n).wf = true) : ∃ m : Nat, n = (m : Int) ∧ m < 256 := by
  simp only [Lit.wf, Bool.and_eq_true, decide_eq_true_eq] at h
  obtain ⟨h1, h2⟩ := h
  have e1 : IntKind.u8.min = 0 := by decide
  have e2 : IntKind.u8.max = 255 := by decide
  rw [e1] at h1
  rw [e2] at h2
  exact ⟨n.toNat, by omega, by omega⟩
section
variable {H : Type} {enc : TypeId × Value → H} {w : World} {base : Nat} {spare : Nat → Bool} {held : Bool}
theorem open_bytes {fuel : Nat} {p : Option Addr} {len cap : Nat} {x : DataW H × List MemPlace} (h : DataW.trod enc Tryz.prog w base spare held fuel 50 [.slice p len cap] = some x) :
    len ≤ maxLen ∧ BytesAt w p len := by
  rcases open_ints Tryz.underlying50 Tryz.underlying5 cellsU8 h with ⟨hcs, _⟩ | ⟨a, len', cap', zs, hcs, _, hl, hm, hz, _, hcell, hwz⟩
  · simp at hcs
    obtain ⟨_, rfl, _⟩ := hcs
    exact ⟨Nat.zero_le _, ⟨fun k hk => absurd hk (by omega)⟩⟩
  · simp at hcs
    obtain ⟨rfl, rfl, rfl⟩ := hcs
    have hlz : len ≤ zs.length := by rw [hz]; split <;> omega
    refine ⟨by omega, ⟨fun k hk => ?_⟩⟩
    have hc := hcell k (by omega)
    have hzi : zs[k]? = some zs[k] := List.getElem?_eq_getElem (by omega)
    rw [List.getD_eq_getElem?_getD, hzi] at hc
    obtain ⟨m, hm1, hm2⟩ := u8_nat (hwz zs[k] (List.getElem_mem _))
    simp only [Option.getD_some] at hc
    rw [hm1] at hc
    exact ⟨a, m, rfl, World.block_lt_of_cell? w _ hc, hm2, hc⟩
end
def bothArgs : Array Value := #[.slice none 0 0]
theorem both_laid (os : Os) : laidMet Tryz.prog Rows.factsBothRow.laid ((laidWorld os).forCall (fun _ _ => 0) ⟨#[], bothArgs, []⟩).memory :=
  laidMet_of_run' 8 (by kernel_rfl) (by kernel_rfl)
theorem both_reads (os : Os) {H : Type} (enc : TypeId × Value → H) : ∃ places, DataW.whole enc Tryz.prog ((laidWorld os).forCall (fun _ _ => 0) ⟨#[], bothArgs, []⟩).memory Tryz.f4.params.toList Rows.factsBothSpec.vars false bothArgs.toList 8 = some ([.nil], [], places) :=
  ⟨[], by kernel_rfl⟩
set_option maxRecDepth 100000 in
theorem both_lifted (os : Os) (started : os.Started) (H : Type) (enc : TypeId × Value → H) (F : Stop.Interp) :
    ReturnsInHanded {} Tryz.checked os 4 .any ((OpenSpec.ofChange Rows.factsBothSpec).preRow enc Tryz.prog Tryz.f4 Rows.factsBothRow.domain false Rows.factsBothRow.laid) (((OpenSpec.ofChange Rows.factsBothSpec).at F).post enc Tryz.prog Tryz.f4 false true false false) := by
  obtain ⟨places, hx⟩ := both_reads os enc
  refine returnsInHanded_of_row (C := Tryz.checked) (s := OpenSpec.ofChange Rows.factsBothSpec) own started (by kernel_rfl) Tryz.func4
    (witness_row_at (enc := enc) (C := Tryz.checked) false (laidWorld os) bothArgs rfl (by kernel_rfl) (by kernel_rfl) (by kernel_rfl)
      (OpenSpec.preRow_of_cond 8 hx (by kernel_rfl) (fun k hk => by cases hk) (by kernel_rfl) (both_laid os))) ?_
  intro W base args ds gs before hval0 hW _ _ _ _ _ _
  have hval : ∀ (j : Nat) t v, Tryz.f4.params[j]? = some t → args[j]? = some v → Value.okWide Tryz.prog W .any base t v := hval0
  have hW' := hW
  obtain ⟨p, q, hA0, hV, rfl, hfz, hnd⟩ := hW
  have hA : DataW.TrodAll enc Tryz.prog W 0 (fun _ => true) true Tryz.f4.params.toList args.toList ds p := hA0
  rw [Tryz.params4] at hA hval
  obtain ⟨v0, d0, rfl, rfl, h0⟩ := trodAll_one hA
  obtain ⟨rfl, rfl⟩ := trodVars_none hV
  obtain ⟨a0, len, cap, rfl⟩ := okWide_slice Tryz.underlying50 (hval 0 50 v0 rfl rfl)
  have h0k := h0
  obtain ⟨fuel, hf⟩ := h0
  clear hA0 hval0
  simp only [List.append_nil] at hW'
  have hlt : ∀ x ∈ p, x.block < W.heap.size := fun x hx => by simpa using hW'.lt x hx
  have hargs : ∀ (W' : World), Below W.heap.size W W' → DataW.Trod enc Tryz.prog W' 0 (fun b => decide (b < W.heap.size)) true 50 (.slice a0 len cap) d0 p :=
    fun W' hn => Below.trod laidOut (by kernel_rfl) (of_decide_eq_true (by kernel_rfl)) h0k hn hlt
  obtain ⟨hlm, hby⟩ := open_bytes hf
  refine (factsBoth_calls a0 len cap W hlm hby).mono fun e W' ⟨he, hB⟩ => ?_
  subst he
  exact ⟨_, rfl, _, _, _, [], p, [], hW', trodAll_mk1 (shut_bool Tryz.underlying4 _), trodAll_mk1 (hargs _ hB), rfl, hB.frame _, fun h => by cases h⟩
theorem both_said : Rows.FactsBothSaid :=
  OpenClaim.holds_of_cond 4 Tryz.f4 rfl rfl rfl rfl rfl rfl rfl ⟨rfl, rfl, rfl, rfl, rfl⟩ rfl rfl rfl rfl rfl (by kernel_rfl) Tryz.func4 (by kernel_rfl)
    (of_decide_eq_true (by kernel_rfl)) (by unfold Func.isWrapper; first | (rw [if_pos (by decide +kernel)]; kernel_rfl) | (rw [if_neg (by decide +kernel)]; exact ⟨rfl, rfl⟩))
    (fun os started H enc _ F => by rw [OpenClaim.pre_eq_preRow]; exact both_lifted os started H enc F)
theorem both_plain (f : FuncId) (fn : Func) (hf : Tryz.pinned.checked.prog.funcNamed "sentry/sentrylaw25.FactsBoth" = some f) (hfn : Tryz.pinned.checked.prog.funcs[f]? = some fn) :
    false = Tryz.pinned.checked.prog.looks [] ∧ ∀ (j : Nat) t, fn.params[j]? = some t → Tryz.pinned.checked.prog.wantsStandIn t = false := by
  obtain rfl : f = 4 := Option.some.inj ((show Tryz.prog.funcNamed "sentry/sentrylaw25.FactsBoth" = some 4 by kernel_rfl).symm.trans hf) |>.symm
  obtain rfl : fn = Tryz.f4 := (Option.some.inj (Tryz.func4.symm.trans hfn)).symm
  refine ⟨by kernel_rfl, fun j t ht => ?_⟩
  rw [Tryz.params4] at ht
  obtain rfl : t = 50 := by simpa using Array.mem_of_getElem? ht
  exact (show Tryz.prog.wantsStandIn 50 = false by kernel_rfl)
theorem both_card : Rows.FactsBothCardSaid :=
  Claim7.holds_tied_plain_at .later [] _ _ _ _ both_said (fun _ h => by cases h) (by kernel_rfl) (fun _ h => by cases h) factsBoth_row_tie rfl ⟨rfl, rfl⟩ (by kernel_rfl) rfl both_plain (by kernel_rfl)
#print axioms both_card
end Go.Proofs.YtaikedlkkjnffaaGreatDoor
