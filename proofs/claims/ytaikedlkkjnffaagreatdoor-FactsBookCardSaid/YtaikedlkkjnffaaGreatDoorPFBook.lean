/- Walk: the law FactsBook. The law FactsBook holds, for every slice of tuples, nil too, every point, subject and type: no condition; its tied card. -/
import Derived.Test.YtaikedlkkjnffaaGreatDoorFN
import Derived.Test.YtaikedlkkjnffaaGreatDoorFR4
import Derived.Test.YtaikedlkkjnffaaGreatDoorUY2
import Derived.Test.YtaikedlkkjnffaaGreatDoorLaid
import Derived.Deep.Slices
import Derived.Carry
namespace Go.Proofs.YtaikedlkkjnffaaGreatDoor
open Go.RowKit Go.Maps
theorem objs_eq {O s : List Ob} {typ : ByteArray} (hs : SortedG cmpO s) (hm : ∀ o, o ∈ s ↔ o ∈ O ∧ o.t = typ) : s = objsG O typ := by
  unfold objsG
  obtain ⟨h1, h2⟩ := foldl_insG cmpO_ok (O.filter fun o => decide (o.t = typ)) [] List.Pairwise.nil
  refine SortedG.ext cmpO_ok hs h1 fun o => ?_
  rw [h2 o, hm o, List.mem_filter]
  simp
set_option maxHeartbeats 4000000 in
set_option maxRecDepth 100000 in
theorem factsBook_calls (l : List Tup) (p0 : Option Addr) (c0 : Nat) (q s : Tri) (typ : ByteArray) (w : World) (hl : l.length ≤ maxLen) (hT : holdsT w p0 l) (hf : ∀ t ∈ l, t.fits)
    (hq : q.x.size ≤ maxLen ∧ q.y.size ≤ maxLen ∧ q.z.size ≤ maxLen) (hs : s.x.size ≤ maxLen ∧ s.y.size ≤ maxLen ∧ s.z.size ≤ maxLen) (ht : typ.size ≤ maxLen) :
    Calls Tryz.prog 3 #[.slice p0 l.length c0, .agg #[.string q.x, .string q.y, .string q.z], .agg #[.string s.x, .string s.y, .string s.z], .string typ] w fun e w' => e = .returned (.bool true) ∧ Below w.heap.size w w' := by
  obtain ⟨n, hN⟩ : ∃ n, l.length = n := ⟨_, rfl⟩
  have hsl : (setT l).length ≤ n := by
    have := setT_len l l.length
    rw [List.take_of_length_le (Nat.le_refl _), hN] at this
    omega
  have F := Lib.hid (fun W => fixed_calls W)
  have W0 := Lib.hid (fun W hW => few_calls l p0 c0 W hl hW hf)
  have NB := Lib.hid (fun W hn hW => newBook_calls l p0 c0 W hn hW hf)
  have ST := Lib.hid (fun W hn hW => set_calls l p0 c0 W hn hW hf)
  have B2 := (Below.refl w.heap.size w).alloc (Nat.le_refl _) (.cells #[.string q.x, .string q.y, .string q.z] 26)
  have X2 := Blk.new w 26 #[.string q.x, .string q.y, .string q.z]
  have bb := (Below.refl _ (w.alloc (.cells #[.string q.x, .string q.y, .string q.z] 26))).alloc (Nat.le_refl _) (.cells #[.string s.x, .string s.y, .string s.z] 27)
  have X3 := X2.below bb X2.lt
  have Y3 := Blk.new (w.alloc (.cells #[.string q.x, .string q.y, .string q.z] 26)) 27 #[.string s.x, .string s.y, .string s.z]
  rw [World.size_alloc] at Y3
  have B3 := B2.alloc (by simp) (.cells #[.string s.x, .string s.y, .string s.z] 27)
  have hT' := Lib.hid hT
  have X := Lib.hid X3
  have Y := Lib.hid Y3
  have B := Lib.hid B3
  have hq' := Lib.hid hq
  have hs' := Lib.hid hs
  have hsl' := Lib.hid hsl
  clear B2 X2 bb X3 Y3 B3 hT hf hq hs hsl
  rw [hN] at W0 NB ST hl ⊢
  have hN' := Lib.hid hN
  clear hN
  go_enter Tryz.func3, Tryz.ntmps3
  go_wp2_with fail
  refine (F.out _).mono ?_
  rintro e w1 ⟨rfl, hb⟩
  have X1 := Lib.hid (X.out.below hb X.out.lt)
  have Y1 := Lib.hid (Y.out.below hb Y.out.lt)
  have B1 := Lib.hid (B.out.trans (hb.mono B.out.size))
  clear hb X Y B F
  have hF := Lib.hid (W0.out w1 (hT'.out.below B1.out))
  clear W0
  go_wp2_with fail
  refine hF.out.mono ?_
  rintro e w2 ⟨⟨b, rfl, hb60⟩, hb⟩
  have X2 := Lib.hid (X1.out.below hb X1.out.lt)
  have Y2 := Lib.hid (Y1.out.below hb Y1.out.lt)
  have B2 := Lib.hid (B1.out.trans (hb.mono B1.out.size))
  clear hb X1 Y1 B1 hF
  cases b
  · clear hb60
    go_wp2_with fail
    go_ret
    exact ⟨rfl, B2.out⟩
  · have hn60 : n ≤ 60 := hb60 rfl
    clear hb60
    have hB := Lib.hid (NB.out w2 (by omega) (hT'.out.below B2.out))
    clear NB
    go_wp2_with fail
    refine hB.out.mono ?_
    rintro e w3 ⟨g, bs, bp, bo, N, f, rfl, hbk, hN1, hb⟩
    have X3 := Lib.hid (X2.out.below hb X2.out.lt)
    have Y3 := Lib.hid (Y2.out.below hb Y2.out.lt)
    have B3 := Lib.hid (B2.out.trans (hb.mono B2.out.size))
    have K3 := Lib.hid hbk
    have hS := Lib.hid (ST.out w3 (by omega) (hT'.out.below B3.out))
    clear hb X2 Y2 B2 hB hbk ST
    go_wp2_with fail
    refine hS.out.mono ?_
    rintro e w4 ⟨v4, rfl, hset, hb⟩
    obtain ⟨p4, c4, rfl⟩ := hset.slice
    have X4 := Lib.hid (X3.out.below hb X3.out.lt)
    have Y4 := Lib.hid (Y3.out.below hb Y3.out.lt)
    have B4 := Lib.hid (B3.out.trans (hb.mono B3.out.size))
    have K4 := Lib.hid (K3.out.below hb)
    obtain ⟨S, hSd⟩ : ∃ S, setT l = S := ⟨_, rfl⟩
    rw [hSd] at hset hsl' K4 ⊢
    have hSl : S.length ≤ 60 := by have := hsl'.out; omega
    have T4 := Lib.hid hset.holds
    have S1 := Lib.hid (bookSubs_calls K4.out q hq'.out (by have := subsD_len S q; omega))
    clear hb X3 Y3 B3 K3 hS hset hsl'
    have cx := X4.out.cell
    go_wp2_with fail
    refine S1.out.mono ?_
    rintro e w5 ⟨v5, rfl, hv5, hb⟩
    obtain ⟨p5, c5, rfl⟩ := hv5.slice
    have X5 := Lib.hid (X4.out.below hb X4.out.lt)
    have Y5 := Lib.hid (Y4.out.below hb Y4.out.lt)
    have B5 := Lib.hid (B4.out.trans (hb.mono B4.out.size))
    have K5 := Lib.hid (K4.out.below hb)
    have T5 := Lib.hid (T4.out.below hb)
    have V5 := Lib.hid (hv5.at_ rkS_ok)
    have S2 := Lib.hid (bookPoints_calls K5.out s hs'.out (by have := pointsD_len S s; omega))
    clear hb X4 Y4 B4 K4 S1 hv5 T4 cx
    have cy := Y5.out.cell
    go_wp2_with fail
    refine S2.out.mono ?_
    rintro e w6 ⟨v6, rfl, hv6, hb⟩
    obtain ⟨p6, c6, rfl⟩ := hv6.slice
    have X6 := Lib.hid (X5.out.below hb X5.out.lt)
    have Y6 := Lib.hid (Y5.out.below hb Y5.out.lt)
    have B6 := Lib.hid (B5.out.trans (hb.mono B5.out.size))
    have K6 := Lib.hid (K5.out.below hb)
    have T6 := Lib.hid (T5.out.below hb)
    have V6 := Lib.hid (V5.out.below hb)
    have U6 := Lib.hid (hv6.at_ rkP_ok)
    have S3 := Lib.hid (bookObjects_calls K6.out (by omega) typ ht)
    clear hb X5 Y5 B5 K5 S2 hv6 T5 V5 cy
    go_wp2_with fail
    refine S3.out.mono ?_
    rintro e w7 ⟨v7, so, rfl, ⟨hso1, hso2⟩, hv7, hb⟩
    obtain rfl := objs_eq hso1 hso2
    obtain ⟨p7, c7, rfl⟩ := hv7.slice
    have X7 := Lib.hid (X6.out.below hb X6.out.lt)
    have Y7 := Lib.hid (Y6.out.below hb Y6.out.lt)
    have B7 := Lib.hid (B6.out.trans (hb.mono B6.out.size))
    have T7 := Lib.hid (T6.out.below hb)
    have V7 := Lib.hid (V6.out.below hb)
    have U7 := Lib.hid (U6.out.below hb)
    have O7 := Lib.hid (hv7.at_ rkO_ok)
    have L1 := Lib.hid (show (subsD S q).length ≤ 1000000 by have := subsD_len S q; omega)
    have L2 := Lib.hid (show (pointsD S s).length ≤ 1000000 by have := pointsD_len S s; omega)
    have L3 := Lib.hid (show (objsG (allO S) typ).length ≤ 1000000 by have := objsG_len (allO S) typ; rw [allO_len] at this; omega)
    have R1 := Lib.hid (fun W h => refSubs_calls S p4 c4 q W (by omega) h)
    have R2 := Lib.hid (fun W h => refPoints_calls S p4 c4 s W (by omega) h)
    have R3 := Lib.hid (fun W h => refObjects_calls S p4 c4 typ W (by omega) h)
    clear hb X6 Y6 B6 K6 S3 hv7 T6 V6 U6 hso1 hso2
    have cx := X7.out.cell
    have lx := X7.out.lt
    go_wp2_with fail
    refine (R1.out _ T7.out).mono ?_
    rintro e w8 ⟨v8, rfl, hv8, hb⟩
    obtain ⟨p8, c8, rfl⟩ := hv8.slice
    have Y8 := Lib.hid (Y7.out.below hb Y7.out.lt)
    have B8 := Lib.hid (B7.out.trans (hb.mono B7.out.size))
    have T8 := Lib.hid (T7.out.below hb)
    have U8 := Lib.hid (U7.out.below hb)
    have O8 := Lib.hid (O7.out.below hb)
    have E8 := Lib.hid (sameSubs_calls (subsD S q) p5 p8 c5 c8 w8 L1.out (V7.out.below hb) (hv8.at_ rkS_ok))
    clear hb X7 Y7 B7 T7 V7 U7 O7 hv8 R1 cx lx
    go_wp2_with fail
    refine E8.out.mono ?_
    rintro e w9 ⟨rfl, hb⟩
    have Y9 := Lib.hid (Y8.out.below hb Y8.out.lt)
    have B9 := Lib.hid (B8.out.trans (hb.mono B8.out.size))
    have T9 := Lib.hid (T8.out.below hb)
    have U9 := Lib.hid (U8.out.below hb)
    have O9 := Lib.hid (O8.out.below hb)
    clear hb Y8 B8 T8 U8 O8 E8
    have cy := Y9.out.cell
    have ly := Y9.out.lt
    go_wp2_with fail
    refine (R2.out _ T9.out).mono ?_
    rintro e w10 ⟨v10, rfl, hv10, hb⟩
    obtain ⟨p10, c10, rfl⟩ := hv10.slice
    have B10 := Lib.hid (B9.out.trans (hb.mono B9.out.size))
    have T10 := Lib.hid (T9.out.below hb)
    have O10 := Lib.hid (O9.out.below hb)
    have E10 := Lib.hid (samePoints_calls (pointsD S s) p6 p10 c6 c10 w10 L2.out (U9.out.below hb) (hv10.at_ rkP_ok))
    clear hb Y9 B9 T9 U9 O9 hv10 R2 cy ly
    go_wp2_with fail
    refine E10.out.mono ?_
    rintro e w11 ⟨rfl, hb⟩
    have B11 := Lib.hid (B10.out.trans (hb.mono B10.out.size))
    have T11 := Lib.hid (T10.out.below hb)
    have O11 := Lib.hid (O10.out.below hb)
    clear hb B10 T10 O10 E10
    go_wp2_with fail
    refine (R3.out _ T11.out).mono ?_
    rintro e w12 ⟨v12, rfl, hv12, hb⟩
    obtain ⟨p12, c12, rfl⟩ := hv12.slice
    have B12 := Lib.hid (B11.out.trans (hb.mono B11.out.size))
    have E12 := Lib.hid (sameObjs_calls (objsG (allO S) typ) p7 p12 c7 c12 w12 L3.out (O11.out.below hb) (hv12.at_ rkO_ok))
    clear hb B11 T11 O11 hv12 R3
    go_wp2_with fail
    refine E12.out.mono ?_
    rintro e w13 ⟨rfl, hb⟩
    have B13 := Lib.hid (B12.out.trans (hb.mono B12.out.size))
    clear hb B12 E12
    go_wp2_with fail
    go_ret
    exact ⟨rfl, B13.out⟩
end Go.Proofs.YtaikedlkkjnffaaGreatDoor
namespace Go.Proofs.YtaikedlkkjnffaaGreatDoor
open Go.ChangeShapes Go.WideShapes Go.ChangeAt Go.RowKit Go.Deep
open Go.ChangeMaps (open_string shut_string)
theorem laidOut : laidOutB Tryz.prog = true := by kernel_rfl
section
variable {H : Type} {enc : TypeId × Value → H} {w : World} {base : Nat} {spare : Nat → Bool} {held : Bool}
theorem add_split (a : Addr) (n j : Nat) (hj : 0 < j) : a.add (n + j) = ⟨(a.add n).block, (a.add n).off + j, none⟩ := by
  have h1 : ¬(n + j = 0) := by omega
  unfold Addr.add
  rw [if_neg h1]
  by_cases h : n = 0
  · subst h; simp
  · simp [h, Nat.add_assoc]
def atT (w : World) (a : Addr) (k : Nat) (x : Tup) : Prop := (a.add (k * 6)).block < w.heap.size ∧ ∀ j, j < 6 → w.cell? (a.add (k * 6 + j)) = x.cells.toList[j]?
set_option maxRecDepth 100000 in
theorem open_tuples {fuel : Nat} {p : Option Addr} {len cap : Nat} {x : DataW H × List MemPlace} (h : DataW.trod enc Tryz.prog w base spare held fuel 22 [.slice p len cap] = some x) :
    ∃ l : List Tup, l.length = len ∧ len ≤ maxLen ∧ holdsT w p l ∧ (∀ y ∈ l, y.fits) ∧ (p = none → cap = 0) := by
  rcases open_slice Tryz.underlying22 h with ⟨hcs, _⟩ | ⟨a, len', cap', m, n, D, Pl, hcs, _, hle, hcm, hm, _, hi⟩
  · simp at hcs
    obtain ⟨_, rfl, hc⟩ := hcs
    exact ⟨[], rfl, Nat.zero_le _, fun k y hy => by simp at hy, fun y hy => by simp at hy, fun _ => hc⟩
  · simp at hcs
    obtain ⟨rfl, rfl, rfl⟩ := hcs
    have hlm : len ≤ m := by rw [hm]; split <;> omega
    have hall : ∀ i, ∃ y : Tup, i < len → atT w a i y ∧ y.fits := by
      intro i
      by_cases hil : i < len
      · obtain ⟨cs', hc, ht⟩ := hi i (by omega)
        rw [cellsTup] at hc
        obtain ⟨_, hcl, hat⟩ := World.cells?_some hc
        obtain ⟨c0, c1, c2, c3, c4, c5, rfl⟩ := list6 hcl
        obtain ⟨y, hy, _, hf⟩ := trod_tup ht
        have g : ∀ j, j < 6 → w.cell? (a.add (i * 6 + j)) = y.cells.toList[j]? := by
          intro j hj
          rw [← hy, ← hat j hj, Go.Deep.add_add]
        have g0 : w.cell? (a.add (i * 6)) = some (.string y.a) := g 0 (by omega)
        have hb := World.block_lt_of_cell? w _ g0
        exact ⟨y, fun _ => ⟨⟨hb, g⟩, hf⟩⟩
      · exact ⟨Tup.zero, fun h => absurd h hil⟩
    obtain ⟨f, hf⟩ := Classical.axiomOfChoice hall
    refine ⟨(List.range len).map f, by simp, by omega, ?_, ?_, fun e => by cases e⟩
    · intro k y hy
      have hkl : k < len := by
        have := (List.getElem?_eq_some_iff.1 hy).1
        simpa using this
      have e : f k = y := by
        rw [List.getElem?_map, List.getElem?_range hkl] at hy
        simpa using hy
      obtain ⟨⟨h1, h2⟩, _⟩ := hf k hkl
      rw [e] at h2
      refine ⟨a, _, rfl, rfl, h1, h2 0 (by omega), ?_, ?_, ?_, ?_, ?_⟩
      · rw [← add_split a _ 1 (by omega)]; exact h2 1 (by omega)
      · rw [← add_split a _ 2 (by omega)]; exact h2 2 (by omega)
      · rw [← add_split a _ 3 (by omega)]; exact h2 3 (by omega)
      · rw [← add_split a _ 4 (by omega)]; exact h2 4 (by omega)
      · rw [← add_split a _ 5 (by omega)]; exact h2 5 (by omega)
    · intro y hy
      simp at hy
      obtain ⟨k, hk, rfl⟩ := hy
      exact (hf k hk).2
set_option maxRecDepth 100000 in
theorem trod_pt {fuel : Nat} {c0 c1 c2 : Value} {x : DataW H × List MemPlace} (h : DataW.trod enc Tryz.prog w base spare held fuel 26 [c0, c1, c2] = some x) :
    ∃ a b c : ByteArray, c0 = .string a ∧ c1 = .string b ∧ c2 = .string c ∧ a.size ≤ maxLen ∧ b.size ≤ maxLen ∧ c.size ≤ maxLen := by
  obtain ⟨xs, n, _, hx, _, hlen, hg⟩ := DataW.trod_struct Tryz.underlying26 h
  match xs, hlen with
  | [y0, y1], _ =>
    obtain ⟨a, b, e0, e1, r0, k0, k1⟩ := trod_obj (by simpa [cellsObj] using hg 0 _ rfl : DataW.trod enc Tryz.prog w base spare held n 24 [c0, c1] = some y0)
    obtain ⟨c, e2, r2, k2⟩ := DataW.trod_string Tryz.underlying9 (by simpa [cellsStr, cellsObj] using hg 1 _ rfl : DataW.trod enc Tryz.prog w base spare held n 9 [c2] = some y1)
    simp only [List.cons.injEq, and_true] at e2
    exact ⟨a, b, c, e0, e1, e2, k0, k1, k2⟩
theorem list3 {l : List Value} (h : l.length = 3) : ∃ a b c, l = [a, b, c] := by
  match l, h with
  | [a, b, c], _ => exact ⟨a, b, c, rfl⟩
theorem cellsPt : Tryz.prog.cellsOf 26 = 3 := by kernel_rfl
def triFits (q : Tri) : Prop := q.x.size ≤ maxLen ∧ q.y.size ≤ maxLen ∧ q.z.size ≤ maxLen
set_option maxRecDepth 100000 in
theorem open_pt {r : Reach} {b0 : Nat} {v : Value} {d : DataW H} {p : List MemPlace} (hv : Value.okWide Tryz.prog w r b0 26 v) (h : DataW.Trod enc Tryz.prog w base spare held 26 v d p) :
    ∃ q : Tri, v = .agg #[.string q.x, .string q.y, .string q.z] ∧ triFits q := by
  obtain ⟨cs, rfl, hsz⟩ := okWide_struct Tryz.underlying26 hv
  obtain ⟨fuel, hf⟩ := h
  obtain ⟨a, b, c, hl⟩ := list3 (l := cs.toList) (by simpa [cellsPt] using hsz)
  simp only [Value.cells, hl] at hf
  obtain ⟨x, y, z, rfl, rfl, rfl, k0, k1, k2⟩ := trod_pt hf
  refine ⟨⟨x, y, z⟩, ?_, k0, k1, k2⟩
  show Value.agg cs = _
  congr 1
  exact Array.toList_inj.1 hl
set_option maxRecDepth 100000 in
theorem open_sb {r : Reach} {b0 : Nat} {v : Value} {d : DataW H} {p : List MemPlace} (hv : Value.okWide Tryz.prog w r b0 27 v) (h : DataW.Trod enc Tryz.prog w base spare held 27 v d p) :
    ∃ q : Tri, v = .agg #[.string q.x, .string q.y, .string q.z] ∧ triFits q := by
  obtain ⟨cs, rfl, hsz⟩ := okWide_struct Tryz.underlying27 hv
  obtain ⟨fuel, hf⟩ := h
  obtain ⟨a, b, c, hl⟩ := list3 (l := cs.toList) (by simpa [cellsSub] using hsz)
  simp only [Value.cells, hl] at hf
  obtain ⟨x, y, z, rfl, rfl, rfl, _, k0, k1, k2⟩ := trod_sub hf
  refine ⟨⟨x, y, z⟩, ?_, k0, k1, k2⟩
  show Value.agg cs = _
  congr 1
  exact Array.toList_inj.1 hl
end
def bookArgs : Array Value := #[.slice none 0 0, .agg zero3, .agg zero3, .string ⟨#[]⟩]
theorem book_laid (os : Os) : laidMet Tryz.prog Rows.factsBookRow.laid ((laidWorld os).forCall (fun _ _ => 0) ⟨#[], bookArgs, []⟩).memory :=
  laidMet_of_run' 8 (by kernel_rfl) (by kernel_rfl)
theorem book_reads (os : Os) {H : Type} (enc : TypeId × Value → H) : ∃ places, DataW.whole enc Tryz.prog ((laidWorld os).forCall (fun _ _ => 0) ⟨#[], bookArgs, []⟩).memory Tryz.f3.params.toList Rows.factsBookSpec.vars false bookArgs.toList 8 = some ([.nil, .agg [.agg [strD ⟨#[]⟩, strD ⟨#[]⟩], strD ⟨#[]⟩], .agg [.agg [strD ⟨#[]⟩, strD ⟨#[]⟩], strD ⟨#[]⟩], strD ⟨#[]⟩], [], places) :=
  ⟨[], by kernel_rfl⟩
set_option maxRecDepth 100000 in
theorem book_lifted (os : Os) (started : os.Started) (H : Type) (enc : TypeId × Value → H) (F : Stop.Interp) :
    ReturnsInHanded {} Tryz.checked os 3 .any ((OpenSpec.ofChange Rows.factsBookSpec).preRow enc Tryz.prog Tryz.f3 Rows.factsBookRow.domain false Rows.factsBookRow.laid) (((OpenSpec.ofChange Rows.factsBookSpec).at F).post enc Tryz.prog Tryz.f3 false true false false) := by
  obtain ⟨places, hx⟩ := book_reads os enc
  refine returnsInHanded_of_row (C := Tryz.checked) (s := OpenSpec.ofChange Rows.factsBookSpec) own started (by kernel_rfl) Tryz.func3
    (witness_row_at (enc := enc) (C := Tryz.checked) false (laidWorld os) bookArgs rfl (by kernel_rfl) (by kernel_rfl) (by kernel_rfl)
      (OpenSpec.preRow_of_cond 8 hx (by kernel_rfl) (fun k hk => by cases hk) (by kernel_rfl) (book_laid os))) ?_
  intro W base args ds gs before hval0 hW _ _ _ hlaid _ _
  have hval : ∀ (j : Nat) t v, Tryz.f3.params[j]? = some t → args[j]? = some v → Value.okWide Tryz.prog W .any base t v := hval0
  have hW' := hW
  obtain ⟨p, q, hA0, hV, rfl, hfz, hnd⟩ := hW
  have hA : DataW.TrodAll enc Tryz.prog W 0 (fun _ => true) true Tryz.f3.params.toList args.toList ds p := hA0
  rw [Tryz.params3] at hA hval
  obtain ⟨v0, v1, v2, v3, d0, d1, d2, d3, p0, p1, p2, p3, rfl, rfl, rfl, h0, h1, h2, h3⟩ := trodAll_four hA
  obtain ⟨rfl, rfl⟩ := trodVars_none hV
  obtain ⟨a0, len, cap, rfl⟩ := okWide_slice Tryz.underlying22 (hval 0 22 v0 rfl rfl)
  obtain ⟨q, rfl, hq⟩ := open_pt (hval 1 26 v1 rfl rfl) h1
  obtain ⟨s, rfl, hs⟩ := open_sb (hval 2 27 v2 rfl rfl) h2
  obtain ⟨y, rfl, rfl, rfl, hy⟩ := open_string Tryz.underlying9 (hval 3 9 v3 rfl rfl) h3
  have h0k := h0
  obtain ⟨fuel, hf⟩ := h0
  clear hA0 hval0
  simp only [List.append_nil] at hW'
  have hlt : ∀ x ∈ p0 ++ p1 ++ p2, x.block < W.heap.size := fun x hx => by simpa using hW'.lt x (by simpa using hx)
  have hargs0 : ∀ (W' : World), Below W.heap.size W W' → DataW.Trod enc Tryz.prog W' 0 (fun b => decide (b < W.heap.size)) true 22 (.slice a0 len cap) d0 p0 :=
    fun W' hn => Below.trod laidOut (by kernel_rfl) (of_decide_eq_true (by kernel_rfl)) h0k hn (fun x hx => hlt x (by simp [hx]))
  have hargs1 : ∀ (W' : World), Below W.heap.size W W' → DataW.Trod enc Tryz.prog W' 0 (fun b => decide (b < W.heap.size)) true 26 (.agg #[.string q.x, .string q.y, .string q.z]) d1 p1 :=
    fun W' hn => Below.trod laidOut (by kernel_rfl) (of_decide_eq_true (by kernel_rfl)) h1 hn (fun x hx => hlt x (by simp [hx]))
  have hargs2 : ∀ (W' : World), Below W.heap.size W W' → DataW.Trod enc Tryz.prog W' 0 (fun b => decide (b < W.heap.size)) true 27 (.agg #[.string s.x, .string s.y, .string s.z]) d2 p2 :=
    fun W' hn => Below.trod laidOut (by kernel_rfl) (of_decide_eq_true (by kernel_rfl)) h2 hn (fun x hx => hlt x (by simp [hx]))
  obtain ⟨l, rfl, hlm, hh, hfits, hnc⟩ := open_tuples hf
  refine (factsBook_calls l a0 cap q s y W hlm hh hfits hq hs hy).mono fun e W' ⟨he, hB⟩ => ?_
  subst he
  exact ⟨_, rfl, _, _, _, [], _, [], hW', trodAll_mk1 (shut_bool Tryz.underlying4 _), trodAll_mk4 (hargs0 _ hB) (hargs1 _ hB) (hargs2 _ hB) (shut_string Tryz.underlying9 hy), rfl, hB.frame _, fun h => by cases h⟩
theorem book_said : Rows.FactsBookSaid :=
  OpenClaim.holds_of_cond 3 Tryz.f3 rfl rfl rfl rfl rfl rfl rfl ⟨rfl, rfl, rfl, rfl, rfl⟩ rfl rfl rfl rfl rfl (by kernel_rfl) Tryz.func3 (by kernel_rfl)
    (of_decide_eq_true (by kernel_rfl)) (by unfold Func.isWrapper; first | (rw [if_pos (by decide +kernel)]; kernel_rfl) | (rw [if_neg (by decide +kernel)]; exact ⟨rfl, rfl⟩))
    (fun os started H enc _ F => by rw [OpenClaim.pre_eq_preRow]; exact book_lifted os started H enc F)
theorem book_plain (f : FuncId) (fn : Func) (hf : Tryz.pinned.checked.prog.funcNamed "sentry/sentrylaw25.FactsBook" = some f) (hfn : Tryz.pinned.checked.prog.funcs[f]? = some fn) :
    false = Tryz.pinned.checked.prog.looks [] ∧ ∀ (j : Nat) t, fn.params[j]? = some t → Tryz.pinned.checked.prog.wantsStandIn t = false := by
  obtain rfl : f = 3 := Option.some.inj ((show Tryz.prog.funcNamed "sentry/sentrylaw25.FactsBook" = some 3 by kernel_rfl).symm.trans hf) |>.symm
  obtain rfl : fn = Tryz.f3 := (Option.some.inj (Tryz.func3.symm.trans hfn)).symm
  refine ⟨by kernel_rfl, fun j t ht => ?_⟩
  rw [Tryz.params3] at ht
  rcases j with _ | _ | _ | _ | j
  · obtain rfl := Option.some.inj ht; exact (show Tryz.prog.wantsStandIn 22 = false by kernel_rfl)
  · obtain rfl := Option.some.inj ht; exact (show Tryz.prog.wantsStandIn 26 = false by kernel_rfl)
  · obtain rfl := Option.some.inj ht; exact (show Tryz.prog.wantsStandIn 27 = false by kernel_rfl)
  · obtain rfl := Option.some.inj ht; exact (show Tryz.prog.wantsStandIn 9 = false by kernel_rfl)
  · simp at ht
theorem book_card : Rows.FactsBookCardSaid :=
  Claim7.holds_tied_plain_at .later [] _ _ _ _ book_said (fun _ h => by cases h) (by kernel_rfl) (fun _ h => by cases h) factsBook_row_tie rfl ⟨rfl, rfl⟩ (by kernel_rfl) rfl book_plain (by kernel_rfl)
#print axioms book_card
end Go.Proofs.YtaikedlkkjnffaaGreatDoor
