/- Walk: the law FilesLoads. How a number comes in as an argument; what a claim of this seat asks at its end. A world in which the library's tables and errors hold what their initialisers lay; what the row's condition gives. Versions and edits as arguments: how they come in. The law FilesLoads holds, for all names, all bytes, every version and every number: no condition; its tied card. -/
import Derived.Test.YtabcdodjkfknlaaGreatDoorPL21
import Derived.Test.YtabcdodjkfknlaaGreatDoorPL27
import Derived.Test.YtabcdodjkfknlaaGreatDoorPL30
import Derived.Test.YtabcdodjkfknlaaGreatDoorRows
import Derived.Test.YtabcdodjkfknlaaGreatDoorPL01
import Derived.ProofKit
import Derived.Deep.Strs
import Derived.Test.YtabcdodjkfknlaaGreatDoorPL15
import Derived.Test.YtabcdodjkfknlaaGreatDoorShelfB
import Derived.Test.YtabcdodjkfknlaaGreatDoorCards
import Derived.Test.YtabcdodjkfknlaaGreatDoorTie
import Derived.Deep.Slices
import Derived.Deep.DeepHandedRow
import Derived.Lib.LaidTab
import Derived.Stop.LaidErr
namespace Go.Proofs.YtabcdodjkfknlaaGreatDoor
open Go.RowKit
attribute [local go_sem ↓] dapp_op dslK_op
attribute [local go_sem] Oper.semAt_some
theorem foldB_good : ∀ (fs : List (List UInt8)) (v v' : Ver) (n : Nat), v.good n → foldB v fs = some v' → v'.good (n + sumLen fs)
  | [], v, v', n, h, e => by obtain rfl := Option.some.inj e; exact h
  | f :: fs, v, v', n, h, e => by
    unfold foldB at e
    split at e
    · cases e
    · split at e
      · cases e
      · have := foldB_good fs _ _ _ (applyV_good h (decodeE_good f)) e
        refine this.mono ?_
        unfold sumLen
        rw [List.map_cons, List.sum_cons]
        omega
theorem loadR_good {r : RD} (hb : ∀ s, (r.readB s).length ≤ 20000) : (loadR r).1.good 20000 := by
  unfold loadR
  split
  · exact Ver.zero_good _
  · split
    · rename_i k n _
      split
      · exact Ver.zero_good _
      · split
        · exact Ver.zero_good _
        · rw [loadM_all]
          split
          · exact Ver.zero_good _
          · split
            · rename_i v hv
              have h1 := foldB_good _ _ _ 0 (first_good 0) hv
              have h2 := sumLen_all _ (r.readB (r.readB currentL)) rfl
              have h3 := hb (r.readB currentL)
              exact h1.mono (by omega)
            · exact Ver.zero_good _
    · exact Ver.zero_good _
theorem names_short {r : RD} {c : Nat} (h : OkL r c) : ∀ s ∈ r.list, s.length ≤ 10000000 := fun s hs => by
  rw [list_up h.ok] at hs
  obtain ⟨n, hn, rfl⟩ := List.mem_map.1 hs
  have := h.names n hn
  unfold dName at this
  simp only [Bool.and_eq_true, decide_eq_true_eq] at this
  omega
theorem Two.listlen {w0 w : World} {L : Nat → Prop} {D g m : Nat} {rp rr : RD} (h : Two w0 w L D g rp rr m) (hok : Okd rr) : rr.list.length ≤ m := by
  obtain ⟨k, bl, O, O2, t⟩ := h
  rw [list_up hok, List.length_map]
  exact t.rok.dir
set_option maxHeartbeats 8000000 in
set_option maxRecDepth 100000 in
theorem filesLoads_calls (p q pv : Option Addr) (c d cv : Nat) (ns : List ByteArray) (zs : List SlH) (fs : List (List UInt8)) (x : Ver) (num : Int) (w : World) (hs : StdF w) (hN : rkN.At w p ns) (hns : ∀ s ∈ ns, s.size ≤ maxLen) (hZ : rkB.At w q zs) (hF : BytesRow w zs fs) (hzl : zs.length ≤ maxLen)
    (hT : rkT.At w pv x.tables) (hTl : x.tables.length ≤ maxLen) (hlang : ∀ t ∈ x.tables, t.lang) (hnum : x.floor < 18446744073709551616 ∧ x.head < 18446744073709551616 ∧ -9223372036854775808 ≤ x.log ∧ x.log < 9223372036854775808 ∧ -9223372036854775808 ≤ x.next ∧ x.next < 9223372036854775808) :
    Calls Tryz.prog 7 #[.slice p ns.length c, .slice q zs.length d, Ver.agg pv cv x, .int .i64 num] w fun e w' => e = .returned (.bool true) ∧ Below w.heap.size w w' := by
  obtain ⟨W1, hW1⟩ : ∃ W1, w.alloc (.cells (Ver.cellsA pv cv x) 30) = W1 := ⟨_, rfl⟩
  have bV : Blk W1 w.heap.size 30 (Ver.cellsA pv cv x) := by rw [← hW1]; exact Blk.new w _ _
  have hB1 : Below w.heap.size w W1 := by rw [← hW1]; exact (Below.refl _ w).alloc (Nat.le_refl _) _
  have hFx := Lib.hid (fixed21_calls W1 (hs.next hB1))
  obtain ⟨N, hNN⟩ : ∃ N, ns.length = N := ⟨_, rfl⟩
  obtain ⟨M, hM⟩ : ∃ M, zs.length = M := ⟨_, rfl⟩
  rw [hNN]
  rw [hM] at hzl ⊢
  have hzl' : M ≤ 9223372036854775807 := hzl
  have hs' := Lib.hid hs
  have hN' := Lib.hid hN
  have hns' := Lib.hid hns
  have hZ' := Lib.hid hZ
  have hF' := Lib.hid hF
  have hT' := Lib.hid hT
  have hTl' := Lib.hid hTl
  have hlang' := Lib.hid hlang
  have hNN' := Lib.hid hNN
  have hM' := Lib.hid hM
  have hnum' := Lib.hid hnum
  have bV' := Lib.hid bV
  have hB1' := Lib.hid hB1
  clear hs hN hns hZ hF hT hTl hlang hNN hM bV hB1 hzl hnum
  go_enter Tryz.func7, Tryz.ntmps7
  go_wp2_with fail
  refine hFx.out.mono ?_
  rintro e w2 ⟨rfl, hb2⟩
  have bV2 := Lib.hid (bV'.out.below hb2 bV'.out.lt)
  have hB2 := Lib.hid (hB1'.out.trans (hb2.mono hB1'.out.size))
  clear hb2 hFx bV' hB1'
  by_cases h20 : 20 < N
  · have t1 : (20 : Int) < (N : Int) := by omega
    go_wp2_with fail
    go_ret
    exact ⟨rfl, hB2.out⟩
  · have t1 : ¬ (20 : Int) < (N : Int) := by omega
    have cV2 := bV2.out.cell
    have hC := Lib.hid (few21_any pv cv x.tables x.floor x.head x.log x.next w2 (hT'.out.below hB2.out) hTl'.out)
    go_wp2_with fail
    refine hC.out.mono ?_
    rintro e w3 ⟨bb, rfl, hbb, hb3⟩
    have bV3 := Lib.hid (bV2.out.below hb3 bV2.out.lt)
    have hB3 := Lib.hid (hB2.out.trans (hb3.mono hB2.out.size))
    clear hb3 hC bV2 hB2 cV2
    cases bb with
    | false =>
      go_wp2_with fail
      go_ret
      exact ⟨rfl, hB3.out⟩
    | true =>
      have h40 := hbb rfl
      have hxv : VerIs w (Ver.agg pv cv x) x := ⟨⟨pv, cv, rfl, hT'.out⟩, by omega, hlang'.out, hnum'.out⟩
      have hx' := Lib.hid hxv
      clear hbb hxv hT' hTl' hlang' hnum'
      go_wp2_with fail
      go_loopw [32] (fun i wr => ∃ k : Nat, i = .int .i64 k ∧ k ≤ M ∧ (∀ (j : Nat) (f : List UInt8), j < k → fs[j]? = some f → f.length ≤ 1000) ∧ w3 = wr) (fun i _ => M - (intOf i).toNat)
      case atStart => exact ⟨0, rfl, Nat.zero_le _, fun j f h => absurd h (by omega), rfl⟩
      case round =>
        obtain ⟨k, rfl, hk, hsh, rfl⟩ := hrel
        by_cases hlt : k < M
        · obtain ⟨z, hz⟩ : ∃ z, zs[k]? = some z := ⟨_, List.getElem?_eq_getElem (by rw [hM'.out]; exact hlt)⟩
          obtain ⟨f, hf, hBy⟩ := hF'.out.2 k z hz
          obtain ⟨a, rfl, hab, hc⟩ := (hZ'.out.below hB3.out) k z hz
          have hc0 := hc 0 _ rfl
          rw [show rkB.K = 1 from rfl, Nat.mul_one, Nat.add_zero] at hc0
          obtain ⟨z1, z2, z3⟩ := z
          simp only at hBy hc0
          obtain ⟨p4, c4, e4⟩ := hBy.slice
          obtain ⟨rfl, rfl, rfl⟩ : z1 = p4 ∧ z2 = f.length ∧ z3 = c4 := by injection e4 with a b c; exact ⟨a, b, c⟩
          have hnext : f.length ≤ 1000 → ∀ (j : Nat) (y : List UInt8), j < k + 1 → fs[j]? = some y → y.length ≤ 1000 := fun hl j y hj hy => by
            by_cases e : j = k
            · subst e; rw [hf] at hy; obtain rfl := Option.some.inj hy; exact hl
            · exact hsh j y (by omega) hy
          have hnext' := Lib.hid hnext
          have n1 : 0 < M := by omega
          clear hz hf hBy hc hsh hnext e4
          by_cases hl : 1000 < f.length
          · have t2 : (1000 : Int) < (f.length : Int) := by omega
            go_wp2_with fail
            go_ret
            exact ⟨rfl, hB3.out⟩
          · have t2 : ¬ (1000 : Int) < (f.length : Int) := by omega
            have hl2 : f.length ≤ 1000 := by omega
            go_wp2_with fail
            go_roundw
            case rel => exact ⟨k + 1, by go_num, by omega, hnext'.out hl2, trivial⟩
            case measure => simp [intOf]; omega
        · obtain rfl : k = M := by omega
          have hall : ∀ f ∈ fs, f.length ≤ 1000 := fun f hf => by
            obtain ⟨j, hj⟩ := List.getElem?_of_mem hf
            exact hsh j f (by have := (List.getElem?_eq_some_iff.1 hj).1; rw [← hF'.out.1, hM'.out] at this; exact this) hj
          have hOk := Lib.hid (bothR_ok (ns := ns) hall (by rw [hNN'.out]; omega))
          have hBo := both21_calls p q c d ns zs fs w3 (hN'.out.below hB3.out) (by rw [hNN'.out]; omega) hns'.out (hZ'.out.below hB3.out) (hF'.out.later hB3.out) hall (by rw [hM'.out]; exact hzl')
          obtain ⟨R, hR⟩ : ∃ R, bothR ns fs = R := ⟨_, rfl⟩
          rw [hR] at hBo hOk
          rw [hNN'.out, hM'.out] at hBo
          have hBo' := Lib.hid hBo
          clear hsh hall hBo hR hZ' hF' hN' hns'
          go_wp2_with fail
          refine hBo'.out.mono ?_
          rintro e w6 ⟨D, g, rfl, hT6⟩
          have hrb : ∀ s, (R.readB s).length ≤ 20000 := fun s => hOk.out.readB s
          have hB6 := Lib.hid (hB3.out.trans (hT6.below.mono hB3.out.size))
          have hLd := load_calls hT6.at_ (by omega) (fun s => Nat.le_trans (hrb s) (by omega)) (hs'.out.next hB6.out)
          have hgd := loadR_good hrb
          have hrd := Lib.hid (fun W (hb : Below w6.heap.size w6 W) => load21_calls (hT6.later hb) (by omega) hrb)
          obtain ⟨X, hX⟩ : ∃ X, loadR R = X := ⟨_, rfl⟩
          rw [hX] at hLd hgd hrd
          have hLd' := Lib.hid hLd
          have hgd' := Lib.hid hgd
          have hT6' := Lib.hid hT6
          have bV6 := Lib.hid (bV3.out.below hT6.below bV3.out.lt)
          clear hLd hgd hT6 hX hBo' hrb
          go_wp2_with fail
          refine hLd'.out.mono ?_
          rintro e w7 ⟨va, rfl, hOa, hb7⟩
          obtain ⟨sva, rfl, oa⟩ := hOa
          obtain ⟨pa, ca, rfl⟩ := oa.slice
          have hal7 := (Below.refl w7.heap.size w7).alloc (Nat.le_refl _) (.cells (Ver.cellsA pa ca X.1) 30)
          have bA := Lib.hid (Blk.new w7 30 (Ver.cellsA pa ca X.1))
          have oa8 := Lib.hid (oa.later hal7)
          have hb8 := hb7.trans (hal7.mono hb7.size)
          have hb8' := Lib.hid hb8
          have hrd8 := Lib.hid (hrd.out _ hb8)
          clear oa hal7 hb7 hb8 hrd hLd'
          obtain ⟨XV, XN, XE⟩ := X
          simp only at oa8 hrd8 hgd' bA
          obtain ⟨w8, hw8⟩ : ∃ w8, w7.alloc (.cells (Ver.cellsA pa ca XV) 30) = w8 := ⟨_, rfl⟩
          obtain ⟨GA, hGA⟩ : ∃ GA, w7.heap.size = GA := ⟨_, rfl⟩
          have hw8' := Lib.hid hw8
          rw [hw8] at bA oa8 hrd8 hb8'
          rw [hGA] at bA
          have hGA' := Lib.hid hGA
          clear hw8 hGA
          go_wp2_with fail
          rw [hw8'.out, hGA'.out]
          refine hrd8.out.mono ?_
          rintro e w9 ⟨vb, rfl, hOb, hb9⟩
          obtain ⟨svb, rfl, ob⟩ := hOb
          obtain ⟨pb, cb, rfl⟩ := ob.slice
          have hal9 := (Below.refl w9.heap.size w9).alloc (Nat.le_refl _) (.cells (Ver.cellsA pb cb XV) 30)
          have bB := Lib.hid (Blk.new w9 30 (Ver.cellsA pb cb XV))
          have ob10 := Lib.hid (ob.later hal9)
          have hb10 := hb9.trans (hal9.mono hb9.size)
          have bA10 := Lib.hid (bA.out.below hb10 bA.out.lt)
          have oa10 := Lib.hid (oa8.out.later hb10)
          have hb610 := Lib.hid (hb8'.out.trans (hb10.mono hb8'.out.size))
          simp only at ob10
          clear ob hal9 hb9 hb10 bA oa8 hrd8 hb8'
          obtain ⟨w10, hw10⟩ : ∃ w10, w9.alloc (.cells (Ver.cellsA pb cb XV) 30) = w10 := ⟨_, rfl⟩
          obtain ⟨GB, hGB⟩ : ∃ GB, w9.heap.size = GB := ⟨_, rfl⟩
          have hw10' := Lib.hid hw10
          rw [hw10] at bB ob10 bA10 oa10 hb610
          rw [hGB] at bB
          have hGB' := Lib.hid hGB
          clear hw10 hGB
          have hT10 := Lib.hid (hT6'.out.later hb610.out)
          have hBw10 := Lib.hid (hB6.out.trans (hb610.out.mono hB6.out.size))
          have bV10 := Lib.hid (bV6.out.below hb610.out bV6.out.lt)
          have hE := Lib.hid (extra21_calls hT10.out (by omega) (names_short hOk.out) pv cv x num (hx'.out.later hBw10.out))
          have cV10 := bV10.out.cell
          have hmm : R.list.length ≤ 80 := hT10.out.listlen hOk.out.ok
          obtain ⟨xs, hxs⟩ : ∃ xs, extraP x num R.list = xs := ⟨_, rfl⟩
          have hxl : xs.length ≤ 80 := by rw [← hxs]; exact Nat.le_trans (List.length_filter_le _ _) hmm
          have hxs' := Lib.hid hxs
          rw [hxs] at hE
          obtain ⟨LX, hLX⟩ : ∃ LX, xs.length = LX := ⟨_, rfl⟩
          have hLX' := Lib.hid hLX
          clear hxs hT6' bV6
          subst hLX
          have hw10q := hw10'.out
          have hw8q := hw8'.out
          clear hmm
          dsimp only
          go_wp2_with fail
          rw [hGB'.out]
          refine hE.out.mono ?_
          rintro e w11 ⟨px, cx, rfl, oX, hb11⟩
          have bA11 := Lib.hid (bA10.out.below hb11 bA10.out.lt)
          have bB11 := Lib.hid (bB.out.below hb11 bB.out.lt)
          have bV11 := Lib.hid (bV10.out.below hb11 bV10.out.lt)
          have oa11 := oa10.out.later hb11
          have ob11 := ob10.out.later hb11
          have hT11 := Lib.hid (hT10.out.later hb11)
          have hBw11 := Lib.hid (hBw10.out.trans (hb11.mono hBw10.out.size))
          have oX11 := Lib.hid oX
          have hSm := same21_calls (Ver.agg pa ca XV) (Ver.agg pb cb XV) XV XV w11 (VerOwn.is ⟨_, rfl, oa11⟩ hgd'.out (by omega)) (VerOwn.is ⟨_, rfl, ob11⟩ hgd'.out (by omega))
          have hSm' := Lib.hid hSm
          have c1 := bA11.out.cell
          have c2 := bB11.out.cell
          have c3 := bV11.out.cell
          have t3 : (XE != XE) = false := by simp
          have t4 : (XN != XN) = false := by simp
          clear oX hb11 oa11 ob11 hSm hE bA10 bB bV10 oa10 ob10 hT10 hBw10 cV10 hb610 hw10' hw8' hGA' hGB' hw10q hw8q
          go_wp2_with fail
          refine hSm'.out.mono ?_
          rintro e w12 ⟨bb, rfl, hbb, hb12⟩
          obtain rfl : bb = true := hbb.2 trivial
          have bV12 := Lib.hid (bV11.out.below hb12 bV11.out.lt)
          have hT12 := Lib.hid (hT11.out.later hb12)
          have hBw12 := Lib.hid (hBw11.out.trans (hb12.mono hBw11.out.size))
          have oX12 := Lib.hid (oX11.out.later hb12)
          have hE2 := extra_calls hT12.out (by omega) (hs'.out.next hBw12.out) (names_short hOk.out) pv cv x num (hx'.out.later hBw12.out)
          rw [hxs'.out] at hE2
          have hE2' := Lib.hid hE2
          clear hE2 hbb hb12 hSm' bV11 hT11 hBw11 oX11 c1 c2 c3 bA11 bB11
          have c4 := bV12.out.cell
          go_wp2_with fail
          refine hE2'.out.mono ?_
          rintro e w13 ⟨py, cy, rfl, oY, hb13⟩
          have bV13 := Lib.hid (bV12.out.below hb13 bV12.out.lt)
          have hT13 := Lib.hid (hT12.out.later hb13)
          have hBw13 := Lib.hid (hBw12.out.trans (hb13.mono hBw12.out.size))
          have hS1 := Lib.hid (same11_calls xs (.slice py xs.length cy) (.slice px xs.length cx) w13 oY.row (oX12.out.later hb13).row (by omega))
          clear oY hb13 hE2' bV12 hT12 hBw12 c4 oX12
          go_wp2_with fail
          refine hS1.out.mono ?_
          rintro e w14 ⟨rfl, hb14⟩
          have bV14 := Lib.hid (bV13.out.below hb14 bV13.out.lt)
          have hT14 := Lib.hid (hT13.out.later hb14)
          have hBw14 := Lib.hid (hBw13.out.trans (hb14.mono hBw13.out.size))
          have hCl := clean_calls hT14.out (c := 20000) (by have := hT14.out.listlen hOk.out.ok; omega) (hs'.out.next hBw14.out) hOk.out (names_short hOk.out) pv cv x num (hx'.out.later hBw14.out)
          rw [hxs'.out] at hCl
          have hCl' := Lib.hid hCl
          have c5 := bV14.out.cell
          clear hb14 hS1 bV13 hT13 hBw13 hCl
          go_wp2_with fail
          refine hCl'.out.mono ?_
          rintro e w15 ⟨r', rfl, hTP, hok', hd'⟩
          have hT15 := Lib.hid (hTP.1.more (m' := 300) (by omega))
          have bV15 := Lib.hid (bV14.out.keeps hTP.2 fun e => e (by show w.heap.size < w3.heap.size; exact bV3.out.lt))
          have hBw15 := Lib.hid (hB3.out.trans (hTP.1.below.mono hB3.out.size))
          rw [← hxs'.out] at hd'
          obtain ⟨_, g2, g3⟩ := clean_end hOk.out hok' hd'
          rw [hxs'.out] at g3
          have hE3 := extra_calls hT15.out (by omega) (hs'.out.next hBw15.out) (names_short hok') pv cv x num (hx'.out.later hBw15.out)
          rw [g2] at hE3
          have hE3' := Lib.hid hE3
          have g3' := Lib.hid g3
          have c6 := bV15.out.cell
          clear hTP hok' hd' g2 g3 hE3 hCl' bV14 hT14 hBw14 c5
          go_wp2_with fail
          refine hE3'.out.mono ?_
          rintro e w16 ⟨pz, cz, rfl, oZ, hb16⟩
          have hT16 := Lib.hid (hT15.out.later hb16)
          have hBw16 := Lib.hid (hBw15.out.trans (hb16.mono hBw15.out.size))
          have hP1 := Lib.hid (p_list hT16.out (by omega))
          clear oZ hb16 hE3' hT15 bV15 hBw15 c6
          dsimp only [List.length_nil]
          go_wp2_with fail
          refine hP1.out.mono ?_
          rintro e w17 ⟨⟨vp, rfl, oP, _, hb17⟩, _⟩
          obtain ⟨pp, cp, rfl⟩ := own_slice oP
          obtain ⟨LA, hLA⟩ : ∃ LA, r'.list.length = LA := ⟨_, rfl⟩
          rw [hLA]
          have hLA' := Lib.hid hLA
          clear hLA
          have hT17 := Lib.hid (hT16.out.later hb17)
          have hBw17 := Lib.hid (hBw16.out.trans (hb17.mono hBw16.out.size))
          have hP2 := Lib.hid (r_list hT17.out (by omega))
          have hb17' := Lib.hid hb17
          clear oP hb17 hP1 hT16 hBw16
          go_wp2_with fail
          refine hP2.out.mono ?_
          rintro e w18 ⟨vr, rfl, oR, hRl, hb18⟩
          obtain ⟨pr, cr, rfl⟩ := own_slice oR
          have hBw18 := Lib.hid (hBw17.out.trans (hb18.mono hBw17.out.size))
          have g4 := g3'.out
          obtain ⟨LX, hLX⟩ : ∃ LX, xs.length = LX := ⟨_, rfl⟩
          obtain ⟨LR, hLR⟩ : ∃ LR, R.list.length = LR := ⟨_, rfl⟩
          rw [hLA'.out, hLX, hLR] at g4
          rw [hLR] at hRl
          rw [hLX, hLR]
          have t8 : ((LA : Int) == (LR : Int) - (LX : Int)) = true := by rw [beq_iff_eq]; omega
          clear oR hb18 hP2 hT17 hBw17 hLX hLR
          go_wp2_with fail
          go_ret
          exact ⟨by first | rfl | simp [t8], hBw18.out⟩
end Go.Proofs.YtabcdodjkfknlaaGreatDoor
namespace Go.Proofs.YtabcdodjkfknlaaGreatDoor
open Go.ChangeShapes Go.WideShapes Go.ChangeAt Go.RowKit Go.Deep
section
variable {H : Type} {enc : TypeId × Value → H} {P : Program}
end

theorem own : ownKnob Tryz.prog.godebug = none := by kernel_rfl
theorem laidOut : laidOutB Tryz.prog = true := by kernel_rfl
end Go.Proofs.YtabcdodjkfknlaaGreatDoor
namespace Go.Proofs.YtabcdodjkfknlaaGreatDoor
open Go.ChangeShapes Go.WideShapes Go.ChangeAt Go.RowKit Go.Deep
def layCells (cs : Array Value) : Obj → Obj
  | .cells _ t frozen => .cells cs t frozen
  | o => o
def litCell : DataW Unit → Value
  | .lit (.int k z) => .int k z
  | _ => .int .u8 0
def litCells : DataW Unit → Array Value
  | .agg ps => (ps.map litCell).toArray
  | _ => #[]
abbrev synS : ByteArray := { data := #[105, 110, 118, 97, 108, 105, 100, 32, 115, 121, 110, 116, 97, 120] }
abbrev rngS : ByteArray := { data := #[118, 97, 108, 117, 101, 32, 111, 117, 116, 32, 111, 102, 32, 114, 97, 110, 103, 101] }
/-- so many blocks has the settled world -/
noncomputable def lowB : Nat := (World.holding Tryz.prog default ⟨#[], #[], []⟩).heap.size
/-- a world in which the three tables and the two errors of the library hold what their initialisers lay -/
noncomputable def laidWorld (os : Os) : World :=
  { World.holding Tryz.prog os ⟨#[.cells #[.string rngS] 226, .cells #[.string synS] 226], #[], []⟩ with heap := (((((World.holding Tryz.prog os ⟨#[.cells #[.string rngS] 226, .cells #[.string synS] 226], #[], []⟩).heap.modify 4 (layCells (litCells Rows.laid_math_bits_deBruijn32tab))).modify 5 (layCells (litCells Rows.laid_math_bits_deBruijn64tab))).modify 3 (layCells (litCells Rows.laid_internal_strconv_uint64pow10))).modify 2 (layCells #[.iface 224 (.pointer (some ⟨lowB, 0, none⟩))])).modify 1 (layCells #[.iface 224 (.pointer (some ⟨lowB + 1, 0, none⟩))]) }
abbrev laidList : List (String × DataW Unit) := [("math/bits.deBruijn32tab", Rows.laid_math_bits_deBruijn32tab), ("math/bits.deBruijn64tab", Rows.laid_math_bits_deBruijn64tab), ("internal/strconv.uint64pow10", Rows.laid_internal_strconv_uint64pow10), ("strconv.ErrRange", Rows.laid_strconv_ErrRange), ("strconv.ErrSyntax", Rows.laid_strconv_ErrSyntax)]
theorem pow10_is : (Rows.laid_internal_strconv_uint64pow10 : DataW Unit) = Lib.tabData .u64 Lib.pow10Tab := by
  simp [Rows.laid_internal_strconv_uint64pow10, Lib.tabData, Lib.pow10Tab, List.range_succ]
theorem tb_of_laid {W : World} (h : laidMet Tryz.prog laidList W) : Lib.TabBelow Tryz.prog W.heap.size W "internal/strconv.uint64pow10" .u64 Lib.pow10Tab := by
  have h3 := h.tail.tail
  rw [pow10_is] at h3
  exact Lib.tabBelow_of_tabIs (Lib.tabIs_of_head (g := 3) (by kernel_rfl) (by kernel_rfl) Tryz.underlying228 Tryz.underlying28 (by kernel_rfl) (by kernel_rfl) h3)
theorem starE : "*" ++ "errors.errorString" = "*errors.errorString" := by decide
theorem rowE (u : TypeId) (h : Tryz.prog.typeName? 3 u = some "*errors.errorString") : u = 224 :=
  typeName_ptr_named (nm := "errors.errorString") (by rw [starE]; kernel_rfl) (by kernel_rfl) (by decide) u (by rw [starE]; exact h)
theorem gER : Tryz.prog.globalNamed "strconv.ErrRange" = some 2 := by kernel_rfl
theorem gES : Tryz.prog.globalNamed "strconv.ErrSyntax" = some 1 := by kernel_rfl
theorem er_of_laid {W : World} (h : laidMet Tryz.prog laidList W) : ErrIn 2 W := by
  obtain ⟨a, s, hv, -, -, -⟩ := laid_sentinel h.tail.tail.tail gER (by kernel_rfl) Tryz.underlying70 rowE Tryz.underlying224 Tryz.underlying226 rfl rfl Tryz.underlying9 (by kernel_rfl) (by kernel_rfl)
  have h0 := World.var?_cell gER hv 0
  exact ⟨_, by simpa using h0, .inr ⟨_, _, rfl⟩⟩
theorem es_of_laid {W : World} (h : laidMet Tryz.prog laidList W) : ErrIn 1 W := by
  obtain ⟨a, s, hv, -, -, -⟩ := laid_sentinel h.tail.tail.tail.tail gES (by kernel_rfl) Tryz.underlying70 rowE Tryz.underlying224 Tryz.underlying226 rfl rfl Tryz.underlying9 (by kernel_rfl) (by kernel_rfl)
  have h0 := World.var?_cell gES hv 0
  exact ⟨_, by simpa using h0, .inr ⟨_, _, rfl⟩⟩
theorem maxLen_cell {W : World} (h : W.ShapedOpen Tryz.prog) : ∃ m, W.cell? ⟨0, 0, none⟩ = some (.int .i64 m) :=
  cell_of_shapedOpen_int (zero := #[.int .i64 0]) (t := 3) h (of_decide_eq_true (by kernel_rfl)) (by kernel_rfl) rfl (by kernel_rfl) (by kernel_rfl) Tryz.underlying3
theorem std_of_laid {W : World} (h : laidMet Tryz.prog laidList W) (hs : W.ShapedOpen Tryz.prog) : StdF W := ⟨tb_of_laid h, maxLen_cell hs, er_of_laid h, es_of_laid h⟩
theorem u8_nat {n : Int} (h : (Lit.int .u8 n).wf = true) : ∃ m : Nat, n = (m : Int) ∧ m < 256 := by
  simp only [Lit.wf, Bool.and_eq_true, decide_eq_true_eq] at h
  obtain ⟨h1, h2⟩ := h
  have e1 : IntKind.u8.min = 0 := by decide
  have e2 : IntKind.u8.max = 255 := by decide
  rw [e1] at h1
  rw [e2] at h2
  exact ⟨n.toNat, by omega, by omega⟩
theorem i64_bd {n : Int} (h : (Lit.int .i64 n).wf = true) : -9223372036854775808 ≤ n ∧ n < 9223372036854775808 := by
  simp only [Lit.wf, Bool.and_eq_true, decide_eq_true_eq] at h
  obtain ⟨h1, h2⟩ := h
  have e1 : IntKind.i64.min = -9223372036854775808 := by decide
  have e2 : IntKind.i64.max = 9223372036854775807 := by decide
  rw [e1] at h1
  rw [e2] at h2
  omega
end Go.Proofs.YtabcdodjkfknlaaGreatDoor
namespace Go.Proofs.YtabcdodjkfknlaaGreatDoor
open Go.ChangeShapes Go.WideShapes Go.ChangeAt Go.RowKit Go.Deep
theorem cellsStr : Tryz.prog.cellsOf 9 = 1 := by kernel_rfl
theorem cellsInt : Tryz.prog.cellsOf 3 = 1 := by kernel_rfl
theorem cellsU64 : Tryz.prog.cellsOf 28 = 1 := by kernel_rfl
theorem cellsTbl : Tryz.prog.cellsOf 76 = 5 := by kernel_rfl
theorem cellsTbls : Tryz.prog.cellsOf 27 = 1 := by kernel_rfl
theorem cellsVer : Tryz.prog.cellsOf 30 = 5 := by kernel_rfl
theorem u64_nat {n : Int} (h : (Lit.int .u64 n).wf = true) : ∃ m : Nat, n = (m : Int) ∧ m < 18446744073709551616 := by
  simp only [Lit.wf, Bool.and_eq_true, decide_eq_true_eq] at h
  obtain ⟨h1, h2⟩ := h
  have e1 : IntKind.u64.min = 0 := by decide
  have e2 : IntKind.u64.max = 18446744073709551615 := by decide
  rw [e1] at h1
  rw [e2] at h2
  exact ⟨n.toNat, by omega, by omega⟩
section
variable {H : Type} {enc : TypeId × Value → H} {w : World} {base : Nat} {spare : Nat → Bool} {held : Bool}
/-- a slice's elements, of a kind -/
theorem open_rowsK {α : Type} (r : RowK α) (ok : r.Ok Tryz.prog) (hK : Tryz.prog.cellsOf r.e = r.K) {Q : α → DataW H → Prop} {fuel : Nat} {c : Value} {x : DataW H × List MemPlace} (h : DataW.trod enc Tryz.prog w base spare held fuel r.s [c] = some x)
    (hel : ∀ (n : Nat) (cs : List Value) (y : DataW H × List MemPlace), cs.length = r.K → DataW.trod enc Tryz.prog w base spare held n r.e cs = some y → ∃ z, cs = r.en z ∧ Q z y.1) :
    ∃ (zs : List α) (ds : List (DataW H)) (p : Option Addr) (cap : Nat), c = .slice p zs.length cap ∧ zs.length ≤ cap ∧ (p = none → cap = 0) ∧ r.At w p zs ∧ ds.length = zs.length ∧ Rows.uptoBulkAll ds + 1 ≤ Rows.uptoBulk x.1 ∧ ∀ (i : Nat) (z : α), zs[i]? = some z → ∃ d, ds[i]? = some d ∧ Q z d := by
  rcases DataW.trod_slice ok.hs h with ⟨hcs, hx⟩ | ⟨a, len, cap, elems, rest, n, hn, hcs, hx, hb, hl, hm, hlen, hi, _, _⟩
  · simp at hcs
    subst hcs
    exact ⟨[], [], none, 0, rfl, Nat.le_refl _, fun _ => rfl, (fun k x hx => (by cases hx)), rfl, by rw [hx]; exact Nat.le_refl _, fun i z hz => by simp at hz⟩
  · simp at hcs
    subst hcs
    have hbk : Rows.uptoBulkAll (elems.map (·.1)) + 1 ≤ Rows.uptoBulk x.1 := by
      rw [hx]
      show _ ≤ Rows.uptoBulkAll (elems.map (·.1)) + Rows.uptoBulkAll (rest.map (·.1)) + 1
      omega
    have each : ∀ i, i < len → ∃ z : α, (∀ j, j < r.K → w.cell? (a.add (i * r.K + j)) = (r.en z)[j]?) ∧ ∃ d, (elems.map (·.1))[i]? = some d ∧ Q z d := fun i hil => by
      have hx := hi i hil
      have hei : elems[i]? = some (elems[i]'(by omega)) := List.getElem?_eq_getElem (by omega)
      rw [hei] at hx
      obtain ⟨cs', h1, h2⟩ := Option.bind_eq_some_iff.1 hx
      rw [hK] at h1
      obtain ⟨_, hcl, hat⟩ := World.cells?_some h1
      obtain ⟨z, rfl, hz⟩ := hel n cs' _ hcl h2
      exact ⟨z, fun j hj => by rw [← hat j hj, Go.Deep.add_add], _, by rw [List.getElem?_map, hei]; rfl, hz⟩
    have hall : ∀ i, ∃ q : Option α, i < len → ∃ z, q = some z ∧ (∀ j, j < r.K → w.cell? (a.add (i * r.K + j)) = (r.en z)[j]?) ∧ ∃ d, (elems.map (·.1))[i]? = some d ∧ Q z d := fun i => by
      by_cases hil : i < len
      · obtain ⟨z, g1, g2⟩ := each i hil
        exact ⟨some z, fun _ => ⟨z, rfl, g1, g2⟩⟩
      · exact ⟨none, fun h => absurd h hil⟩
    obtain ⟨f, hf⟩ := Classical.axiomOfChoice hall
    have hfm : ∀ n, n ≤ len → ((List.range n).filterMap f).length = n ∧ ∀ i, i < n → ((List.range n).filterMap f)[i]? = f i := by
      intro n
      induction n with
      | zero => intro _; exact ⟨rfl, fun i hi => by omega⟩
      | succ n ih =>
        intro hn
        obtain ⟨i1, i2⟩ := ih (by omega)
        obtain ⟨z, hz, _⟩ := hf n (by omega)
        have e : (List.range (n + 1)).filterMap f = (List.range n).filterMap f ++ [z] := by
          rw [List.range_succ, List.filterMap_append]
          simp [hz]
        rw [e]
        refine ⟨by rw [List.length_append, i1]; rfl, fun i hi => ?_⟩
        by_cases hin : i < n
        · rw [List.getElem?_append_left (by omega)]; exact i2 i hin
        · obtain rfl : i = n := by omega
          rw [List.getElem?_append_right (by omega), i1, Nat.sub_self, hz]; rfl
    obtain ⟨hL, hget⟩ := hfm len (Nat.le_refl _)
    have hat : ∀ (i : Nat) (z : α), ((List.range len).filterMap f)[i]? = some z → (∀ j, j < r.K → w.cell? (a.add (i * r.K + j)) = (r.en z)[j]?) ∧ ∃ d, (elems.map (·.1))[i]? = some d ∧ Q z d := fun i z hiz => by
      have hil : i < len := by
        have := (List.getElem?_eq_some_iff.1 hiz).1
        omega
      rw [hget i hil] at hiz
      obtain ⟨z', e1, e2⟩ := hf i hil
      rw [hiz] at e1
      obtain rfl := Option.some.inj e1
      exact e2
    refine ⟨(List.range len).filterMap f, elems.map (·.1), some a, cap, by rw [hL], by rw [hL]; exact hl, (fun e => (by cases e)), fun k z hz => ?_, by rw [List.length_map, hlen, hL], hbk, fun i z hz => (hat i z hz).2⟩
    obtain ⟨h1, _⟩ := hat k z hz
    have hen := ok.len z
    refine ⟨a, rfl, ?_, fun j u hu => ?_⟩
    · have h2 := h1 0 ok.pos
      rw [List.getElem?_eq_getElem (by rw [hen]; exact ok.pos)] at h2
      have := World.block_lt_of_cell? w _ h2
      rwa [addK_blk] at this
    · have hj := (List.getElem?_eq_some_iff.1 hu).1
      rw [hen] at hj
      rw [h1 j hj, hu]
theorem list5 {l : List Value} (h : l.length = 5) : ∃ a b c d e, l = [a, b, c, d, e] := by
  match l, h with
  | [a, b, c, d, e], _ => exact ⟨a, b, c, d, e, rfl⟩
/-- a table: its numbers the language's, its texts no longer than its bulk -/
def tblQ (z : Tbl) (d : DataW H) : Prop := 2 ≤ Rows.uptoBulk d ∧ z.lang ∧ z.first.size ≤ Rows.uptoBulk d ∧ z.last.size ≤ Rows.uptoBulk d
set_option maxRecDepth 100000 in
theorem open_tbl (fuel : Nat) (cs : List Value) (x : DataW H × List MemPlace) (hl : cs.length = 5) (h : DataW.trod enc Tryz.prog w base spare held fuel 76 cs = some x) : ∃ z : Tbl, cs = Tbl.cells z ∧ tblQ z x.1 := by
  obtain ⟨c0, c1, c2, c3, c4, rfl⟩ := list5 hl
  obtain ⟨xs, n, hfn, hx, _, hlen, hg⟩ := DataW.trod_struct Tryz.underlying76 h
  match xs, hlen with
  | [y0, y1, y2, y3, y4], _ =>
    obtain ⟨k0, e0, _, w0⟩ := DataW.trod_int Tryz.underlying3 (by simpa [cellsInt] using hg 0 _ rfl : DataW.trod enc Tryz.prog w base spare held n 3 [c0] = some y0)
    obtain ⟨k1, e1, _, w1⟩ := DataW.trod_int Tryz.underlying3 (by simpa [cellsInt] using hg 1 _ rfl : DataW.trod enc Tryz.prog w base spare held n 3 [c1] = some y1)
    obtain ⟨k2, e2, _, w2⟩ := DataW.trod_int Tryz.underlying3 (by simpa [cellsInt] using hg 2 _ rfl : DataW.trod enc Tryz.prog w base spare held n 3 [c2] = some y2)
    obtain ⟨a, e3, r3, _⟩ := DataW.trod_string Tryz.underlying9 (by simpa [cellsStr] using hg 3 _ rfl : DataW.trod enc Tryz.prog w base spare held n 9 [c3] = some y3)
    obtain ⟨b, e4, r4, _⟩ := DataW.trod_string Tryz.underlying9 (by simpa [cellsStr] using hg 4 _ rfl : DataW.trod enc Tryz.prog w base spare held n 9 [c4] = some y4)
    simp only [List.cons.injEq, and_true] at e0 e1 e2 e3 e4
    subst e0 e1 e2 e3 e4
    have b3 : Rows.uptoBulk y3.1 = a.data.toList.length + 1 := by rw [r3]; rfl
    have b4 : Rows.uptoBulk y4.1 = b.data.toList.length + 1 := by rw [r4]; rfl
    have s3 := Lib.size_eq a
    have s4 := Lib.size_eq b
    obtain ⟨i0, j0⟩ := i64_bd w0
    obtain ⟨i1, j1⟩ := i64_bd w1
    obtain ⟨i2, j2⟩ := i64_bd w2
    have hb : Rows.uptoBulk x.1 = Rows.uptoBulk y0.1 + (Rows.uptoBulk y1.1 + (Rows.uptoBulk y2.1 + (Rows.uptoBulk y3.1 + (Rows.uptoBulk y4.1 + 0)))) + 1 := by rw [hx]; rfl
    refine ⟨⟨k0, k1, k2, a, b⟩, rfl, by omega, ⟨i0, j0, i1, j1, i2, j2⟩, ?_, ?_⟩
    · show a.size ≤ _; omega
    · show b.size ≤ _; omega
end
end Go.Proofs.YtabcdodjkfknlaaGreatDoor
namespace Go.Proofs.YtabcdodjkfknlaaGreatDoor
open Go.ChangeShapes Go.WideShapes Go.ChangeAt Go.RowKit Go.Deep
theorem cellsU8L : Tryz.prog.cellsOf 5 = 1 := by kernel_rfl
theorem cellsBys : Tryz.prog.cellsOf 43 = 1 := by kernel_rfl
section
variable {H : Type} {enc : TypeId × Value → H} {w : World} {base : Nat} {spare : Nat → Bool} {held : Bool}
theorem open_bytesL {fuel : Nat} {c3 : Value} {x : DataW H × List MemPlace} (h : DataW.trod enc Tryz.prog w base spare held fuel 43 [c3] = some x) :
    ∃ l : List UInt8, Bytes w c3 l := by
  rcases open_ints Tryz.underlying43 Tryz.underlying5 cellsU8L h with ⟨hcs, _⟩ | ⟨a, len, cap, zs, hcs, _, hl, hm, hz, _, hcell, hwz⟩
  · simp at hcs
    subst hcs
    exact ⟨[], .inl (.inl ⟨rfl, rfl⟩)⟩
  · simp at hcs
    subst hcs
    have hlz : len ≤ zs.length := by rw [hz]; split <;> omega
    by_cases h0 : len = 0
    · subst h0
      exact ⟨[], .inr ⟨a, cap, rfl, rfl⟩⟩
    · obtain ⟨ab, ao, spot⟩ := a
      have hspot : spot = none := by simpa [Addr.add] using World.cell?_spot (hcell 0 (by omega))
      subst hspot
      refine ⟨(zs.take len).map fun n => UInt8.ofNat n.toNat, .inl (.inr ⟨ab, ao, cap, ?_, ?_, fun i y hy => ?_⟩)⟩
      · rw [List.length_map, List.length_take, Nat.min_eq_left hlz]
      · rw [List.length_map, List.length_take]; omega
      · rw [List.getElem?_map, List.getElem?_take] at hy
        split at hy
        · rename_i hi
          have hzi : zs[i]? = some zs[i] := List.getElem?_eq_getElem (by omega)
          rw [hzi] at hy
          obtain rfl := Option.some.inj hy
          have hc := hcell i (by omega)
          rw [Addr.add_lit, List.getD_eq_getElem?_getD, hzi] at hc
          obtain ⟨m, hm1, hm2⟩ := u8_nat (hwz zs[i] (List.getElem_mem _))
          rw [hc]
          simp only [Option.getD_some]
          rw [hm1]
          simp only [Int.toNat_natCast, UInt8.toNat_ofNat']
          rw [Nat.mod_eq_of_lt hm2]
        · cases hy
theorem open_cap {t e : TypeId} (ht : Tryz.prog.underlying t = some (.slice e)) {fuel : Nat} {p : Option Addr} {n c : Nat} {x : DataW H × List MemPlace} (h : DataW.trod enc Tryz.prog w base spare held fuel t [.slice p n c] = some x) : n ≤ maxLen := by
  rcases DataW.trod_slice ht h with ⟨hcs, hx⟩ | ⟨a, len, cap, elems, rest, n', hn, hcs, hx, hb, hl, hm, _⟩
  · injection hcs with hcs _
    injection hcs with _ e2 _
    rw [e2]; exact Nat.zero_le _
  · injection hcs with hcs _
    injection hcs with _ e2 _
    rw [e2]; omega
theorem open_name (fuel : Nat) (cs : List Value) (x : DataW H × List MemPlace) (_hl : cs.length = 1) (h : DataW.trod enc Tryz.prog w base spare held fuel 9 cs = some x) : ∃ z : ByteArray, cs = rkN.en z ∧ z.size ≤ maxLen := by
  obtain ⟨s, e, _, hs⟩ := DataW.trod_string Tryz.underlying9 h
  exact ⟨s, e, hs⟩
theorem open_by1 (fuel : Nat) (cs : List Value) (x : DataW H × List MemPlace) (hl : cs.length = 1) (h : DataW.trod enc Tryz.prog w base spare held fuel 43 cs = some x) : ∃ z : SlH, cs = rkB.en z ∧ ∃ f, Bytes w (.slice z.1 z.2.1 z.2.2) f := by
  obtain ⟨c3, rfl⟩ : ∃ c3, cs = [c3] := List.length_eq_one_iff.1 hl
  obtain ⟨l, hb⟩ := open_bytesL h
  obtain ⟨p, c, rfl⟩ := hb.slice
  exact ⟨(p, l.length, c), rfl, l, hb⟩
set_option maxRecDepth 100000 in
theorem open_verA {fuel : Nat} {cs : Array Value} {x : DataW H × List MemPlace} (hl : cs.size = 5) (h : DataW.trod enc Tryz.prog w base spare held fuel 30 cs.toList = some x) :
    ∃ (p : Option Addr) (c : Nat) (v : Ver), cs = Ver.cellsA p c v ∧ rkT.At w p v.tables ∧ v.tables.length ≤ maxLen ∧ (∀ t ∈ v.tables, t.lang) ∧ (v.floor < 18446744073709551616 ∧ v.head < 18446744073709551616 ∧ -9223372036854775808 ≤ v.log ∧ v.log < 9223372036854775808 ∧ -9223372036854775808 ≤ v.next ∧ v.next < 9223372036854775808) := by
  obtain ⟨c0, c1, c2, c3, c4, hcs⟩ := list5 (l := cs.toList) (by simpa using hl)
  rw [hcs] at h
  obtain ⟨xs, n, hfn, hx, _, hlen, hg⟩ := DataW.trod_struct Tryz.underlying30 h
  match xs, hlen with
  | [y0, y1, y2, y3, y4], _ =>
    have h0 : DataW.trod enc Tryz.prog w base spare held n 27 [c0] = some y0 := by simpa [cellsTbls] using hg 0 _ rfl
    obtain ⟨k1, e1, _, w1⟩ := DataW.trod_int Tryz.underlying28 (by simpa [cellsU64] using hg 1 _ rfl : DataW.trod enc Tryz.prog w base spare held n 28 [c1] = some y1)
    obtain ⟨k2, e2, _, w2⟩ := DataW.trod_int Tryz.underlying28 (by simpa [cellsU64] using hg 2 _ rfl : DataW.trod enc Tryz.prog w base spare held n 28 [c2] = some y2)
    obtain ⟨k3, e3, _, w3⟩ := DataW.trod_int Tryz.underlying3 (by simpa [cellsInt] using hg 3 _ rfl : DataW.trod enc Tryz.prog w base spare held n 3 [c3] = some y3)
    obtain ⟨k4, e4, _, w4⟩ := DataW.trod_int Tryz.underlying3 (by simpa [cellsInt] using hg 4 _ rfl : DataW.trod enc Tryz.prog w base spare held n 3 [c4] = some y4)
    obtain ⟨zs, ds, p, cap, rfl, hcap, _, hat, hdl, hbk, hq⟩ := open_rowsK rkT rkT_ok cellsTbl (Q := tblQ) h0 open_tbl
    have hzm := open_cap Tryz.underlying27 h0
    simp only [List.cons.injEq, and_true] at e1 e2 e3 e4
    obtain ⟨m1, rfl, b1⟩ := u64_nat w1
    obtain ⟨m2, rfl, b2⟩ := u64_nat w2
    obtain ⟨i3, j3⟩ := i64_bd w3
    obtain ⟨i4, j4⟩ := i64_bd w4
    have hin : ∀ t ∈ zs, t.lang := fun t ht => by
      obtain ⟨i, hi⟩ := List.getElem?_of_mem ht
      obtain ⟨d, h1, _, h2, _, _⟩ := hq i t hi
      exact h2
    refine ⟨p, cap, ⟨zs, m1, m2, k3, k4⟩, ?_, hat, hzm, hin, b1, b2, i3, j3, i4, j4⟩
    rw [← Array.toList_inj, hcs, e1, e2, e3, e4]
end
theorem rows_of {w : World} : ∀ (zs : List SlH), (∀ z ∈ zs, ∃ f, Bytes w (.slice z.1 z.2.1 z.2.2) f) → ∃ fs, BytesRow w zs fs
  | [], _ => ⟨[], BytesRow.nil w⟩
  | z :: zs, h => by
    obtain ⟨f, hf⟩ := h z List.mem_cons_self
    obtain ⟨fs, h1, h2⟩ := rows_of zs fun y hy => h y (List.mem_cons_of_mem _ hy)
    refine ⟨f :: fs, by simp [h1], fun i y hy => ?_⟩
    cases i with
    | zero => obtain rfl := Option.some.inj hy; exact ⟨f, rfl, hf⟩
    | succ i => exact h2 i y (by simpa using hy)
def floadsArgs : Array Value := #[.slice none 0 0, .slice none 0 0, .agg #[.slice none 0 0, .int .u64 0, .int .u64 0, .int .i64 0, .int .i64 0], .int .i64 0]
theorem floads_laid (os : Os) : laidMet Tryz.prog Rows.filesLoadsRow.laid ((laidWorld os).forCall (fun _ _ => 0) ⟨#[], floadsArgs, []⟩).memory :=
  laidMet_of_run' 8 (by kernel_rfl) (by kernel_rfl)
theorem floads_reads (os : Os) {H : Type} (enc : TypeId × Value → H) : ∃ places, DataW.whole enc Tryz.prog ((laidWorld os).forCall (fun _ _ => 0) ⟨#[], floadsArgs, []⟩).memory Tryz.f7.params.toList Rows.filesLoadsSpec.vars false floadsArgs.toList 8 = some ([.nil, .nil, .agg [.nil, .lit (.int .u64 0), .lit (.int .u64 0), .lit (.int .i64 0), .lit (.int .i64 0)], .lit (.int .i64 0)], [], places) :=
  ⟨[], by kernel_rfl⟩
set_option maxRecDepth 100000 in
theorem floads_lifted (os : Os) (started : os.Started) (H : Type) (enc : TypeId × Value → H) (F : Stop.Interp) :
    ReturnsInHanded {} Tryz.checked os 7 .any ((OpenSpec.ofChange Rows.filesLoadsSpec).preRow enc Tryz.prog Tryz.f7 Rows.filesLoadsRow.domain false Rows.filesLoadsRow.laid) (((OpenSpec.ofChange Rows.filesLoadsSpec).at F).post enc Tryz.prog Tryz.f7 false true false false) := by
  obtain ⟨places, hx⟩ := floads_reads os enc
  refine returnsInHanded_of_row (C := Tryz.checked) (s := OpenSpec.ofChange Rows.filesLoadsSpec) own started (by kernel_rfl) Tryz.func7
    (witness_row_at (enc := enc) (C := Tryz.checked) false (laidWorld os) floadsArgs rfl (by kernel_rfl) (by kernel_rfl) (by kernel_rfl)
      (OpenSpec.preRow_of_cond 8 hx (by kernel_rfl) (fun k hk => by cases hk) (by kernel_rfl) (floads_laid os))) ?_
  intro W base args ds gs before hval0 hW _ _ _ hlaid hsh _
  have hval : ∀ (j : Nat) t v, Tryz.f7.params[j]? = some t → args[j]? = some v → Value.okWide Tryz.prog W .any base t v := hval0
  have hW' := hW
  obtain ⟨p, q, hA0, hV, rfl, hfz, hnd⟩ := hW
  have hA : DataW.TrodAll enc Tryz.prog W 0 (fun _ => true) true Tryz.f7.params.toList args.toList ds p := hA0
  rw [Tryz.params7] at hA hval
  obtain ⟨v0, v1, v2, v3, d0, d1, d2, d3, p0, p1, p2, p3, rfl, rfl, rfl, h0, h1, h2, h3⟩ := trodAll_four hA
  obtain ⟨rfl, rfl⟩ := trodVars_none hV
  obtain ⟨q0, m0, c0, rfl⟩ := okWide_slice Tryz.underlying51 (hval 0 51 v0 rfl rfl)
  obtain ⟨q1, m1, c1, rfl⟩ := okWide_slice Tryz.underlying58 (hval 1 58 v1 rfl rfl)
  obtain ⟨cs2, rfl, hsz2⟩ := okWide_struct Tryz.underlying30 (hval 2 30 v2 rfl rfl)
  obtain ⟨n, rfl, rfl, rfl, hn⟩ := open_int Tryz.underlying3 (hval 3 3 v3 rfl rfl) h3
  have h0k := h0
  have h1k := h1
  have h2k := h2
  obtain ⟨fuel0, hf0⟩ := h0
  obtain ⟨fuel1, hf1⟩ := h1
  obtain ⟨fuel2, hf2⟩ := h2
  clear hA0 hval0
  simp only [List.append_nil] at hW'
  have hlt : ∀ x ∈ p0 ++ (p1 ++ p2), x.block < W.heap.size := fun x hx => by simpa using hW'.lt x (by simpa using hx)
  have hargs0 : ∀ (W' : World), Below W.heap.size W W' → DataW.Trod enc Tryz.prog W' 0 (fun b => decide (b < W.heap.size)) true 51 (.slice q0 m0 c0) d0 p0 :=
    fun W' hn => Below.trod laidOut (by kernel_rfl) (of_decide_eq_true (by kernel_rfl)) h0k hn fun x hx => hlt x (List.mem_append.2 (.inl hx))
  have hargs1 : ∀ (W' : World), Below W.heap.size W W' → DataW.Trod enc Tryz.prog W' 0 (fun b => decide (b < W.heap.size)) true 58 (.slice q1 m1 c1) d1 p1 :=
    fun W' hn => Below.trod laidOut (by kernel_rfl) (of_decide_eq_true (by kernel_rfl)) h1k hn fun x hx => hlt x (List.mem_append.2 (.inr (List.mem_append.2 (.inl hx))))
  have hargs2 : ∀ (W' : World), Below W.heap.size W W' → DataW.Trod enc Tryz.prog W' 0 (fun b => decide (b < W.heap.size)) true 30 (.agg cs2) d2 p2 :=
    fun W' hn => Below.trod laidOut (by kernel_rfl) (of_decide_eq_true (by kernel_rfl)) h2k hn fun x hx => hlt x (List.mem_append.2 (.inr (List.mem_append.2 (.inr hx))))
  simp only [Value.cells] at hf0 hf1 hf2
  obtain ⟨pv, cv, v, rfl, hT, hTl, hlang, hnum⟩ := open_verA (by simpa [cellsVer] using hsz2) hf2
  obtain ⟨ns, dn, pn, cn, en, _, _, hN, _, _, hqn⟩ := open_rowsK rkN rkN_ok cellsStr (Q := fun s _ => s.size ≤ maxLen) hf0 open_name
  obtain ⟨rfl, rfl, rfl⟩ : q0 = pn ∧ m0 = ns.length ∧ c0 = cn := by injection en with a b c; exact ⟨a, b, c⟩
  obtain ⟨zs, dz, pz, cz, ez, _, _, hZ, _, _, hqz⟩ := open_rowsK rkB rkB_ok cellsBys (Q := fun z _ => ∃ f, Bytes W (.slice z.1 z.2.1 z.2.2) f) hf1 open_by1
  obtain ⟨rfl, rfl, rfl⟩ : q1 = pz ∧ m1 = zs.length ∧ c1 = cz := by injection ez with a b c; exact ⟨a, b, c⟩
  have hzl := open_cap Tryz.underlying58 hf1
  obtain ⟨fs, hF⟩ := rows_of zs fun z hz => by
    obtain ⟨i, hi⟩ := List.getElem?_of_mem hz
    obtain ⟨_, _, h⟩ := hqz i z hi
    exact h
  have hns : ∀ s ∈ ns, s.size ≤ maxLen := fun s hs => by
    obtain ⟨i, hi⟩ := List.getElem?_of_mem hs
    obtain ⟨_, _, h⟩ := hqn i s hi
    exact h
  refine (filesLoads_calls q0 q1 pv c0 c1 cv ns zs fs v n W (std_of_laid hlaid hsh) hN hns hZ hF hzl hT hTl hlang hnum).mono fun e W' ⟨he, hB⟩ => ?_
  subst he
  exact ⟨_, rfl, _, _, _, [], _, [], hW', trodAll_mk1 (shut_bool Tryz.underlying4 _), trodAll_mk4 (hargs0 _ hB) (hargs1 _ hB) (hargs2 _ hB) (shut_int Tryz.underlying3 hn), rfl, hB.frame _, fun h => by cases h⟩
theorem floads_said : Rows.FilesLoadsSaid :=
  OpenClaim.holds_of_cond 7 Tryz.f7 rfl rfl rfl rfl rfl rfl rfl ⟨rfl, rfl, rfl, rfl, rfl⟩ rfl rfl rfl rfl rfl (by kernel_rfl) Tryz.func7 (by kernel_rfl)
    (of_decide_eq_true (by kernel_rfl)) (by unfold Func.isWrapper; first | (rw [if_pos (by decide +kernel)]; kernel_rfl) | (rw [if_neg (by decide +kernel)]; exact ⟨rfl, rfl⟩))
    (fun os started H enc _ F => by rw [OpenClaim.pre_eq_preRow]; exact floads_lifted os started H enc F)
theorem floads_plain (f : FuncId) (fn : Func) (hf : Tryz.pinned.checked.prog.funcNamed "sentry/sentrylaw21.FilesLoads" = some f) (hfn : Tryz.pinned.checked.prog.funcs[f]? = some fn) :
    true = Tryz.pinned.checked.prog.looks [] ∧ ∀ (j : Nat) t, fn.params[j]? = some t → Tryz.pinned.checked.prog.wantsStandIn t = false := by
  obtain rfl : f = 7 := Option.some.inj ((show Tryz.prog.funcNamed "sentry/sentrylaw21.FilesLoads" = some 7 by kernel_rfl).symm.trans hf) |>.symm
  obtain rfl : fn = Tryz.f7 := (Option.some.inj (Tryz.func7.symm.trans hfn)).symm
  refine ⟨by kernel_rfl, fun j t ht => ?_⟩
  rw [Tryz.params7] at ht
  have hm : t = 51 ∨ t = 58 ∨ t = 30 ∨ t = 3 := by simpa using Array.mem_of_getElem? ht
  rcases hm with rfl | rfl | rfl | rfl
  · exact (show Tryz.prog.wantsStandIn 51 = false by kernel_rfl)
  · exact (show Tryz.prog.wantsStandIn 58 = false by kernel_rfl)
  · exact (show Tryz.prog.wantsStandIn 30 = false by kernel_rfl)
  · exact (show Tryz.prog.wantsStandIn 3 = false by kernel_rfl)
theorem floads_card : Rows.FilesLoadsCardSaid :=
  Claim7.holds_tied_plain_at .later [] _ _ _ _ floads_said (fun _ h => by cases h) (by kernel_rfl) (fun _ h => by cases h) filesLoads_row_tie rfl ⟨rfl, rfl⟩ (by kernel_rfl) rfl floads_plain (by kernel_rfl)
#print axioms floads_card
end Go.Proofs.YtabcdodjkfknlaaGreatDoor
