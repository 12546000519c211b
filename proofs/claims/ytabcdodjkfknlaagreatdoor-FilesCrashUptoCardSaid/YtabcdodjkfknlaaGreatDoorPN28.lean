/- Walks: the fixed calls of layer 21's laws; the law FilesNames. How a number comes in as an argument; what a claim of this seat asks at its end. A world in which the library's tables and errors hold what their initialisers lay; what the row's condition gives. The law FilesNames holds, for every kind, number and name: no condition; its tied card. -/
import Derived.Test.YtabcdodjkfknlaaGreatDoorPN26
import Derived.Test.YtabcdodjkfknlaaGreatDoorPN27
import Derived.Test.YtabcdodjkfknlaaGreatDoorRows
import Derived.Test.YtabcdodjkfknlaaGreatDoorPN01
import Derived.ProofKit
import Derived.Deep.Strs
import Derived.Test.YtabcdodjkfknlaaGreatDoorPN21
import Derived.Test.YtabcdodjkfknlaaGreatDoorShelf
import Derived.Test.YtabcdodjkfknlaaGreatDoorCards
import Derived.Test.YtabcdodjkfknlaaGreatDoorTie
import Derived.Deep.Slices
import Derived.Deep.DeepHandedRow
import Derived.Lib.LaidTab
import Derived.Stop.LaidErr
namespace Go.Proofs.YtabcdodjkfknlaaGreatDoor
open Go.RowKit
attribute [local go_sem] Oper.semAt_some
theorem keeps_below {w w' : World} {B : Nat} {O : Nat → Prop} (hk : Keeps O w w') (hO : ∀ j, O j → B ≤ j) (hB : B ≤ w.heap.size) : Below B w w' := hk.below (fun j _ e => hO j e) hB
/-- a version's bounds as they stand in memory -/
theorem VerOwn.is2 {B : Nat} {w : World} {v : Value} {x : Ver} (h : VerOwn B w v x) (hl : x.tables.length ≤ 1000000) (hlang : ∀ t ∈ x.tables, t.lang) (hn : x.floor < 18446744073709551616 ∧ x.head < 18446744073709551616 ∧ -9223372036854775808 ≤ x.log ∧ x.log < 9223372036854775808 ∧ -9223372036854775808 ≤ x.next ∧ x.next < 9223372036854775808) : VerIs w v x := by
  obtain ⟨p, c, e, ho⟩ := h.agg
  exact ⟨⟨p, c, e, ho.at_ rkT_ok⟩, hl, hlang, hn⟩
def fixR : RD := RD.new 10000
theorem fix_bulk : Ver.first.bulk = 6 := by
  unfold Ver.bulk
  show (uv 0 ++ [] ++ uv 0 ++ [] ++ uv 0 ++ uv 0 ++ uv 0 ++ uv 2).length = 6
  rw [uv_small (by decide), uv_small (by decide)]
  rfl
theorem fix_name : fname 109 Ver.first.next.toNat ≠ [] := by unfold fname; rw [if_pos ⟨rfl, by decide, by decide⟩]; exact List.cons_ne_nil _ _
theorem fix_started : Started fixR Ver.first := by
  refine startR_ok (Okd.new _) (by kernel_rfl) fix_name rfl ?_
  rw [fix_bulk]
  show (0 : Nat) + (8 + 6) + 11 ≤ 10000
  decide
theorem fix_load : loadR (startR fixR Ver.first).1 = (Ver.first.up, 1, 0) := by
  refine fix_started.load (by kernel_rfl) fix_name ?_ (by rw [fix_bulk]; decide)
  exact whole_fits (v := Ver.first.up) (by kernel_rfl) ⟨by show (0 : Nat) < _; decide, by show (0 : Nat) < _; decide⟩ (Nat.zero_le _) (fun t ht => by cases ht)
theorem fix_reads (s : List UInt8) : ((startR fixR Ver.first).1.readB s).length ≤ 200000 := by
  refine readB_le 200000 (fun s c hc => ?_) s
  rw [fix_started.view] at hc
  by_cases h1 : s = currentL
  · rw [if_pos h1] at hc
    obtain rfl := Option.some.inj hc
    have := (fname_dName rfl fix_name).2.1
    omega
  · rw [if_neg h1] at hc
    by_cases h2 : s = freshL
    · rw [if_pos h2] at hc; cases hc
    · rw [if_neg h2] at hc
      by_cases h3 : s = fname 109 Ver.first.next.toNat
      · rw [if_pos h3] at hc
        obtain rfl := Option.some.inj hc
        rw [sealL_len]
        have := fix_bulk
        unfold Ver.bulk at this
        omega
      · rw [if_neg h3] at hc
        cases hc
set_option maxHeartbeats 4000000 in
set_option maxRecDepth 100000 in
theorem fixed21_calls (w : World) (hs : StdF w) : Calls Tryz.prog 8 #[] w fun e w' => e = .returned (.bool true) ∧ Below w.heap.size w w' := by
  have hs' := Lib.hid hs
  clear hs
  go_enter Tryz.func8, Tryz.ntmps8
  go_wp2_with fail
  refine (new_at 10000 w).mono ?_
  rintro e w1 ⟨rfl, h1⟩
  have h1 : At w w1 (w.heap.size + 2) fixR 0 := h1
  have c1 := load_calls h1 (by omega) (fun s => readB_le 200000 (fun s c hc => by cases hc) s) (hs'.out.next h1.below)
  rw [show loadR fixR = _ from loadR_none (Okd.new 10000) rfl] at c1
  have c1' := Lib.hid c1
  have h1' := Lib.hid h1
  clear c1 h1
  go_wp2_with fail
  refine c1'.out.mono ?_
  rintro e w2 ⟨v2, rfl, o2, b2⟩
  obtain ⟨p2, k2, rfl⟩ : ∃ p k, v2 = .agg #[.slice p 0 k, .int .u64 0, .int .u64 0, .int .i64 0, .int .i64 0] := by
    obtain ⟨p, k, e, _⟩ := o2.agg
    exact ⟨p, k, e⟩
  obtain ⟨X2, hX2⟩ : ∃ X, w2.alloc (.cells #[.slice p2 0 k2, .int .u64 0, .int .u64 0, .int .i64 0, .int .i64 0] 30) = X := ⟨_, rfl⟩
  have hAB : Below w2.heap.size w2 X2 := by rw [← hX2]; exact (Below.refl _ w2).alloc (Nat.le_refl _) _
  have h2 := (h1'.out.later b2).later hAB
  have hb2 := h2.below
  obtain ⟨O, hD⟩ := DAt.of_at h2
  have hs2 := hs'.out.next h2.below
  have c3 := start_calls (vv := .agg #[.slice none 0 0, .int .u64 0, .int .u64 0, .int .i64 0, .int .i64 1]) (v := Ver.first) hD ⟨⟨none, 0, rfl, fun k x hx => by cases hx⟩, Nat.zero_le _, fun t ht => (by cases ht), by decide⟩ hs2 (Nat.zero_le _) (by have := fix_bulk; unfold Ver.bulk at this; omega) (fun t ht => by cases ht) (by omega)
  have hX2' := Lib.hid hX2
  have c3' := Lib.hid c3
  have hD' := Lib.hid hD
  have hb2' := Lib.hid hb2
  clear c3 c1' h1' h2 hD b2 o2 hs2 hAB hb2 hX2
  go_wp2_with fail
  rw [hX2'.out]
  refine c3'.out.mono ?_
  rintro e w3 ⟨v3, rfl, o3, hG⟩
  have hb3 : Below w.heap.size w w3 := by
    obtain ⟨_, _, _, hk⟩ := hG
    exact hb2'.out.trans (keeps_below hk (fun j hj => (hD'.out.lt j hj).1) hb2'.out.size)
  have hA3 : At w w3 (w.heap.size + 2) (startR fixR Ver.first).1 6 := by
    obtain ⟨_, hD3, _, _⟩ := hG
    exact hD3.at_ hb3
  rw [show (startR fixR Ver.first).2 = (Ver.first.up, 1, 0) from fix_started.err] at o3 ⊢
  obtain ⟨p3, k3, rfl⟩ : ∃ p k, v3 = .agg #[.slice p 0 k, .int .u64 0, .int .u64 0, .int .i64 0, .int .i64 2] := by
    obtain ⟨p, k, e, _⟩ := o3.agg
    exact ⟨p, k, e⟩
  have o3 : VerOwn X2.heap.size w3 (.agg #[.slice p3 0 k3, .int .u64 0, .int .u64 0, .int .i64 0, .int .i64 2]) Ver.first.up := o3
  obtain ⟨X3, hX3⟩ : ∃ X, w3.alloc (.cells #[.slice p3 0 k3, .int .u64 0, .int .u64 0, .int .i64 0, .int .i64 2] 30) = X := ⟨_, rfl⟩
  have hA : Below w3.heap.size w3 X3 := by rw [← hX3]; exact (Below.refl _ w3).alloc (Nat.le_refl _) _
  have b3 : Blk X3 w3.heap.size 30 #[.slice p3 0 k3, .int .u64 0, .int .u64 0, .int .i64 0, .int .i64 2] := by rw [← hX3]; exact Blk.new w3 _ _
  obtain ⟨V3, hV3⟩ : ∃ V, w3.heap.size = V := ⟨_, rfl⟩
  rw [hV3] at b3
  have h3 := hA3.later hA
  have hb4 := hb3.trans (hA.mono hb3.size)
  have c4 := load_calls h3 (by omega) fix_reads (hs'.out.next hb4)
  rw [fix_load] at c4
  have c4' := Lib.hid c4
  have b3' := Lib.hid b3
  have hb4' := Lib.hid hb4
  have o3' := Lib.hid (o3.later hA)
  have hX3' := Lib.hid hX3
  have hV3' := Lib.hid hV3
  clear c4 b3 hb4 o3 hA h3 hA3 hb3 hG c3' hX2' hX3 hV3
  go_wp2_with fail
  rw [hX3'.out]
  refine c4'.out.mono ?_
  rintro e w4 ⟨v4, rfl, o4, b4⟩
  obtain ⟨p4, k4, rfl⟩ : ∃ p k, v4 = .agg #[.slice p 0 k, .int .u64 0, .int .u64 0, .int .i64 0, .int .i64 2] := by
    obtain ⟨p, k, e, _⟩ := o4.agg
    exact ⟨p, k, e⟩
  have o4 : VerOwn X3.heap.size w4 (.agg #[.slice p4 0 k4, .int .u64 0, .int .u64 0, .int .i64 0, .int .i64 2]) Ver.first.up := o4
  obtain ⟨X4, hX4⟩ : ∃ X, w4.alloc (.cells #[.slice p4 0 k4, .int .u64 0, .int .u64 0, .int .i64 0, .int .i64 2] 30) = X := ⟨_, rfl⟩
  have hA : Below w4.heap.size w4 X4 := by rw [← hX4]; exact (Below.refl _ w4).alloc (Nat.le_refl _) _
  have b34 := (b3'.out.below b4 b3'.out.lt).below hA (Nat.lt_of_lt_of_le b3'.out.lt b4.size)
  have b44 : Blk X4 w4.heap.size 30 #[.slice p4 0 k4, .int .u64 0, .int .u64 0, .int .i64 0, .int .i64 2] := by rw [← hX4]; exact Blk.new w4 _ _
  obtain ⟨V4, hV4⟩ : ∃ V, w4.heap.size = V := ⟨_, rfl⟩
  rw [hV4] at b44
  have hb5 := (hb4'.out.trans (b4.mono hb4'.out.size)).trans (hA.mono (Nat.le_trans hb4'.out.size b4.size))
  have c5 := name_calls 116 12 X4 (by decide) (by decide) (hs'.out.next hb5)
  have hF : (⟨(fname 116 (12 : Int).toNat).toArray⟩ : ByteArray) = ⟨#[116, 45, 49, 50]⟩ := by
    have : fname 116 (12 : Int).toNat = [116, 45, 49, 50] := by
      unfold fname
      rw [if_pos ⟨rfl, by decide, by decide⟩]
      show 116 :: 45 :: Lib.decDigits 12 = _
      rw [Lib.decDigits, dif_neg (by decide), Lib.decDigits, dif_pos (by decide)]
      rfl
    rw [this]
  rw [hF] at c5
  have c5 : Calls Tryz.prog 11 #[.int .u8 116, .int .i64 12] X4 fun e w' => e = .returned (.string ⟨#[116, 45, 49, 50]⟩) ∧ Below X4.heap.size X4 w' := c5
  have o3x := (o3'.out.later b4).later hA
  have o4x := o4.later hA
  have c5' := Lib.hid c5
  have b34' := Lib.hid b34
  have b44' := Lib.hid b44
  have hb5' := Lib.hid hb5
  have o3y := Lib.hid o3x
  have o4y := Lib.hid o4x
  have hX4' := Lib.hid hX4
  have hV4' := Lib.hid hV4
  clear c5 b34 b44 hb5 o3x o4x hA b4 o4 c4' hX3' hX4 hV4 hF
  go_wp2_with fail
  rw [hX4'.out]
  refine c5'.out.mono ?_
  rintro e w5 ⟨rfl, b5⟩
  have b35 := (b34'.out.below b5 b34'.out.lt)
  have b45 := (b44'.out.below b5 b44'.out.lt)
  have hb6 := Lib.hid (hb5'.out.trans (b5.mono hb5'.out.size))
  have hlang : ∀ t ∈ Ver.first.up.tables, t.lang := fun t ht => (by cases ht)
  have hnum : Ver.first.up.floor < 18446744073709551616 ∧ Ver.first.up.head < 18446744073709551616 ∧ -9223372036854775808 ≤ Ver.first.up.log ∧ Ver.first.up.log < 9223372036854775808 ∧ -9223372036854775808 ≤ Ver.first.up.next ∧ Ver.first.up.next < 9223372036854775808 := by decide
  have i3 := (o3y.out.later b5).is2 (Nat.zero_le _) hlang hnum
  have i4 := (o4y.out.later b5).is2 (Nat.zero_le _) hlang hnum
  have c6 := Lib.hid (same21_calls _ _ _ _ w5 i3 i4)
  have q3 := b35.cell
  have q4 := b45.cell
  clear i3 i4 hlang hnum b5 b35 b45 c5' hX4'
  rw [hV3'.out, hV4'.out]
  clear hV3' hV4'
  go_wp2_with fail
  refine c6.out.mono ?_
  rintro e w7 ⟨b, rfl, hbt, hb7⟩
  obtain rfl : b = true := hbt.2 (by trivial)
  have hb8 := Lib.hid (hb6.out.trans (hb7.mono hb6.out.size))
  clear hb7 hbt q3 q4 c6
  go_wp2_with fail
  go_ret
  exact ⟨rfl, hb8.out⟩
set_option maxHeartbeats 4000000 in
set_option maxRecDepth 100000 in
theorem filesNames_calls (k : UInt8) (n : Int) (s : ByteArray) (w : World) (hs : StdF w) (h1 : -9223372036854775808 ≤ n) (h2 : n < 9223372036854775808) (hsz : s.size ≤ maxLen) :
    Calls Tryz.prog 3 #[.int .u8 k.toNat, .int .i64 n, .string s] w fun e w' => e = .returned (.bool true) ∧ Below w.heap.size w w' := by
  unfold maxLen at hsz
  have hF := Lib.hid (fixed21_calls w hs)
  have hs' := Lib.hid hs
  have kk := k.toNat_lt
  clear hs
  by_cases hl : 100 < s.size
  · have t1 : 100 < (s.size : Int) := by omega
    go_enter Tryz.func3, Tryz.ntmps3
    go_wp2_with fail
    refine hF.out.mono ?_
    rintro e w1 ⟨rfl, b1⟩
    have b1' := Lib.hid b1
    clear b1
    go_wp2_with fail
    go_ret
    exact ⟨rfl, b1'.out⟩
  · have t1 : ¬ 100 < (s.size : Int) := by omega
    have hA := fun W (h : StdF W) => number_name_calls s W (by omega) h
    have hB := fun W => refNumber_calls s W (by omega)
    have hC := fun W (h : StdF W) => name_calls k n W h1 h2 h
    have hD := fun W => refName_calls k n W
    unfold NumPost_ at hA hB
    obtain ⟨R, hR⟩ : ∃ R, numV (fnum s.data.toList) = R := ⟨_, rfl⟩
    obtain ⟨a, b, c, e⟩ : ∃ a b c, R = #[.int .u8 a, .int .i64 b, .bool c] := by
      rw [← hR]
      unfold numV
      split
      · exact ⟨_, _, _, rfl⟩
      · exact ⟨_, _, _, rfl⟩
    rw [hR, e] at hA
    simp only [hR, e] at hB
    obtain ⟨F, hFe⟩ : ∃ F, (⟨(fname k n.toNat).toArray⟩ : ByteArray) = F := ⟨_, rfl⟩
    simp only [hFe] at hC hD
    have hA' := Lib.hid hA
    have hB' := Lib.hid hB
    have hC' := Lib.hid hC
    have hD' := Lib.hid hD
    clear hA hB hC hD hR e hFe
    go_enter Tryz.func3, Tryz.ntmps3
    go_wp2_with fail
    refine hF.out.mono ?_
    rintro e w1 ⟨rfl, b1⟩
    have b1' := Lib.hid b1
    clear b1
    go_wp2_with fail
    refine (hA'.out w1 (hs'.out.next b1'.out)).mono ?_
    rintro e w2 ⟨rfl, b2⟩
    have b2' := Lib.hid (b1'.out.trans (b2.mono b1'.out.size))
    clear b2
    go_wp2_with fail
    refine (hB'.out w2).mono ?_
    rintro e w3 ⟨rfl, b3⟩
    have b3' := Lib.hid (b2'.out.trans (b3.mono b2'.out.size))
    clear b3
    go_wp2_with fail
    refine (hC'.out w3 (hs'.out.next b3'.out)).mono ?_
    rintro e w4 ⟨rfl, b4⟩
    have b4' := Lib.hid (b3'.out.trans (b4.mono b3'.out.size))
    clear b4
    go_wp2_with fail
    refine (hD'.out w4).mono ?_
    rintro e w5 ⟨rfl, b5⟩
    have b5' := Lib.hid (b4'.out.trans (b5.mono b4'.out.size))
    clear b5
    go_wp2_with fail
    go_ret
    exact ⟨rfl, b5'.out⟩
end Go.Proofs.YtabcdodjkfknlaaGreatDoor
namespace Go.Proofs.YtabcdodjkfknlaaGreatDoor
open Go.ChangeShapes Go.WideShapes Go.ChangeAt Go.RowKit Go.Deep
section
variable {H : Type} {enc : TypeId × Value → H} {P : Program}
theorem post_of_below {f : Func} {s : ChangeSpec} {apart fresh handsOn again : Bool} {W W' : World} {args : Array Value} {v : Value} {ds gs : List (DataW H)} {before pa pv : List MemPlace}
    (hW : DataW.Whole enc P f.params.toList s.vars apart W args.toList ds gs before)
    (hres : ∀ (b : Nat) (sp : Nat → Bool) (hd : Bool), DataW.TrodAll enc P W' b sp hd f.resultTypes.toList (v.resultList f.resultTypes.size) (s.fn H (ds ++ gs)).results [])
    (hargs : ∀ sp : Nat → Bool, (∀ p ∈ before, sp p.block = true) → DataW.TrodAll enc P W' 0 sp true f.params.toList args.toList (s.fn H (ds ++ gs)).args pa)
    (hvars : ∀ sp : Nat → Bool, (∀ p ∈ before, sp p.block = true) → DataW.TrodVars enc P W' sp s.vars (s.fn H (ds ++ gs)).vars pv)
    (hps : before = pa ++ pv) (hb : Below W.heap.size W W')
    (hok : ∀ (j : Nat) (t : TypeId) (r : Value), f.resultTypes[j]? = some t → (v.resultList f.resultTypes.size)[j]? = some r → Value.okWide P W' .any 0 t r) :
    s.post enc P f apart fresh handsOn again W args v W' := by
  have hlt : ∀ p ∈ before, p.block < W.heap.size := fun p hp => hW.lt p hp
  have hold : ∀ p ∈ before, (fun b => decide (b < W.heap.size)) p.block = true := fun p hp => by simpa using hlt p hp
  refine ⟨ds, gs, before, [], pa, pv, hW, hres _ _ _, hargs _ hold, hvars _ hold, World.keptBut_mono (fun p hp => ⟨hp, ?_⟩) (hb.frame (· ∈ before)), fun _ => ?_⟩
  · rw [hps, List.mem_append] at hp
    exact Or.inr hp
  · obtain ⟨_, _, _, _, _, hz, hn⟩ := hW
    refine ⟨hok, _, _, ([] ++ pa) ++ pv, ⟨[] ++ pa, pv, trodAll_append (hargs _ (fun _ _ => rfl)) (hres _ _ _), hvars _ (fun _ _ => rfl), rfl, ?_, ?_⟩, ?_⟩
    · intro b off hp
      have hin : MemPlace.cell b off ∈ before := by rw [hps]; simpa using hp
      rw [hb.frozen (hlt _ hin)]
      exact hz b off hin
    · intro ha
      have := hn ha
      rw [hps] at this
      simpa using this
    · intro p hp _
      rw [hps]
      simpa using hp
end

theorem own : ownKnob Tryz.prog.godebug = none := by kernel_rfl
theorem laidOut : laidOutB Tryz.prog = true := by kernel_rfl
end Go.Proofs.YtabcdodjkfknlaaGreatDoor
namespace Go.Proofs.YtabcdodjkfknlaaGreatDoor
open Go.ChangeShapes Go.WideShapes Go.ChangeAt Go.RowKit Go.Deep
def layCells (cs : Array Value) : Obj → Obj
  | .cells _ t frozen => .cells cs t frozen
  | o => o
def litCell : DataW Unit → Value
  | .lit (.int k z) => .int k z
  | _ => .int .u8 0
def litCells : DataW Unit → Array Value
  | .agg ps => (ps.map litCell).toArray
  | _ => #[]
abbrev synS : ByteArray := { data := #[105, 110, 118, 97, 108, 105, 100, 32, 115, 121, 110, 116, 97, 120] }
abbrev rngS : ByteArray := { data := #[118, 97, 108, 117, 101, 32, 111, 117, 116, 32, 111, 102, 32, 114, 97, 110, 103, 101] }
/-- so many blocks has the settled world -/
noncomputable def lowB : Nat := (World.holding Tryz.prog default ⟨#[], #[], []⟩).heap.size
/-- a world in which the three tables and the two errors of the library hold what their initialisers lay -/
noncomputable def laidWorld (os : Os) : World :=
  { World.holding Tryz.prog os ⟨#[.cells #[.string rngS] 226, .cells #[.string synS] 226], #[], []⟩ with heap := (((((World.holding Tryz.prog os ⟨#[.cells #[.string rngS] 226, .cells #[.string synS] 226], #[], []⟩).heap.modify 4 (layCells (litCells Rows.laid_math_bits_deBruijn32tab))).modify 5 (layCells (litCells Rows.laid_math_bits_deBruijn64tab))).modify 3 (layCells (litCells Rows.laid_internal_strconv_uint64pow10))).modify 2 (layCells #[.iface 224 (.pointer (some ⟨lowB, 0, none⟩))])).modify 1 (layCells #[.iface 224 (.pointer (some ⟨lowB + 1, 0, none⟩))]) }
abbrev laidList : List (String × DataW Unit) := [("math/bits.deBruijn32tab", Rows.laid_math_bits_deBruijn32tab), ("math/bits.deBruijn64tab", Rows.laid_math_bits_deBruijn64tab), ("internal/strconv.uint64pow10", Rows.laid_internal_strconv_uint64pow10), ("strconv.ErrRange", Rows.laid_strconv_ErrRange), ("strconv.ErrSyntax", Rows.laid_strconv_ErrSyntax)]
theorem pow10_is : (Rows.laid_internal_strconv_uint64pow10 : DataW Unit) = Lib.tabData .u64 Lib.pow10Tab := by
  simp [Rows.laid_internal_strconv_uint64pow10, Lib.tabData, Lib.pow10Tab, List.range_succ]
theorem tb_of_laid {W : World} (h : laidMet Tryz.prog laidList W) : Lib.TabBelow Tryz.prog W.heap.size W "internal/strconv.uint64pow10" .u64 Lib.pow10Tab := by
  have h3 := h.tail.tail
  rw [pow10_is] at h3
  exact Lib.tabBelow_of_tabIs (Lib.tabIs_of_head (g := 3) (by kernel_rfl) (by kernel_rfl) Tryz.underlying228 Tryz.underlying28 (by kernel_rfl) (by kernel_rfl) h3)
theorem starE : "*" ++ "errors.errorString" = "*errors.errorString" := by decide
theorem rowE (u : TypeId) (h : Tryz.prog.typeName? 3 u = some "*errors.errorString") : u = 224 :=
  typeName_ptr_named (nm := "errors.errorString") (by rw [starE]; kernel_rfl) (by kernel_rfl) (by decide) u (by rw [starE]; exact h)
theorem gER : Tryz.prog.globalNamed "strconv.ErrRange" = some 2 := by kernel_rfl
theorem gES : Tryz.prog.globalNamed "strconv.ErrSyntax" = some 1 := by kernel_rfl
theorem er_of_laid {W : World} (h : laidMet Tryz.prog laidList W) : ErrIn 2 W := by
  obtain ⟨a, s, hv, -, -, -⟩ := laid_sentinel h.tail.tail.tail gER (by kernel_rfl) Tryz.underlying70 rowE Tryz.underlying224 Tryz.underlying226 rfl rfl Tryz.underlying9 (by kernel_rfl) (by kernel_rfl)
  have h0 := World.var?_cell gER hv 0
  exact ⟨_, by simpa using h0, .inr ⟨_, _, rfl⟩⟩
theorem es_of_laid {W : World} (h : laidMet Tryz.prog laidList W) : ErrIn 1 W := by
  obtain ⟨a, s, hv, -, -, -⟩ := laid_sentinel h.tail.tail.tail.tail gES (by kernel_rfl) Tryz.underlying70 rowE Tryz.underlying224 Tryz.underlying226 rfl rfl Tryz.underlying9 (by kernel_rfl) (by kernel_rfl)
  have h0 := World.var?_cell gES hv 0
  exact ⟨_, by simpa using h0, .inr ⟨_, _, rfl⟩⟩
theorem maxLen_cell {W : World} (h : W.ShapedOpen Tryz.prog) : ∃ m, W.cell? ⟨0, 0, none⟩ = some (.int .i64 m) :=
  cell_of_shapedOpen_int (zero := #[.int .i64 0]) (t := 3) h (of_decide_eq_true (by kernel_rfl)) (by kernel_rfl) rfl (by kernel_rfl) (by kernel_rfl) Tryz.underlying3
theorem std_of_laid {W : World} (h : laidMet Tryz.prog laidList W) (hs : W.ShapedOpen Tryz.prog) : StdF W := ⟨tb_of_laid h, maxLen_cell hs, er_of_laid h, es_of_laid h⟩
theorem u8_nat {n : Int} (h : (Lit.int .u8 n).wf = true) : ∃ m : Nat, n = (m : Int) ∧ m < 256 := by
  simp only [Lit.wf, Bool.and_eq_true, decide_eq_true_eq] at h
  obtain ⟨h1, h2⟩ := h
  have e1 : IntKind.u8.min = 0 := by decide
  have e2 : IntKind.u8.max = 255 := by decide
  rw [e1] at h1
  rw [e2] at h2
  exact ⟨n.toNat, by omega, by omega⟩
theorem i64_bd {n : Int} (h : (Lit.int .i64 n).wf = true) : -9223372036854775808 ≤ n ∧ n < 9223372036854775808 := by
  simp only [Lit.wf, Bool.and_eq_true, decide_eq_true_eq] at h
  obtain ⟨h1, h2⟩ := h
  have e1 : IntKind.i64.min = -9223372036854775808 := by decide
  have e2 : IntKind.i64.max = 9223372036854775807 := by decide
  rw [e1] at h1
  rw [e2] at h2
  omega
theorem laid_again (os : Os) (args : Array Value) : laidMet Tryz.prog laidList ((laidWorld os).forCall (fun _ _ => 0) ⟨#[], args, []⟩).memory :=
  laidMet_of_run' 8 (by kernel_rfl) (by kernel_rfl)
end Go.Proofs.YtabcdodjkfknlaaGreatDoor
namespace Go.Proofs.YtabcdodjkfknlaaGreatDoor
open Go.ChangeShapes Go.WideShapes Go.ChangeAt Go.RowKit Go.Deep
open Go.ChangeMaps (open_string shut_string)
def fnamesArgs : Array Value := #[.int .u8 0, .int .i64 0, .string ⟨#[]⟩]
theorem fnames_laid (os : Os) : laidMet Tryz.prog Rows.filesNamesRow.laid ((laidWorld os).forCall (fun _ _ => 0) ⟨#[], fnamesArgs, []⟩).memory :=
  laidMet_of_run' 8 (by kernel_rfl) (by kernel_rfl)
theorem fnames_reads (os : Os) {H : Type} (enc : TypeId × Value → H) : ∃ places, DataW.whole enc Tryz.prog ((laidWorld os).forCall (fun _ _ => 0) ⟨#[], fnamesArgs, []⟩).memory Tryz.f3.params.toList Rows.filesNamesSpec.vars false fnamesArgs.toList 8 = some ([.lit (.int .u8 0), .lit (.int .i64 0), .lit (.string [])], [], places) :=
  ⟨[], by kernel_rfl⟩
set_option maxRecDepth 100000 in
theorem fnames_lifted (os : Os) (started : os.Started) (H : Type) (enc : TypeId × Value → H) (F : Stop.Interp) :
    ReturnsInHanded {} Tryz.checked os 3 .any ((OpenSpec.ofChange Rows.filesNamesSpec).preRow enc Tryz.prog Tryz.f3 Rows.filesNamesRow.domain false Rows.filesNamesRow.laid) (((OpenSpec.ofChange Rows.filesNamesSpec).at F).post enc Tryz.prog Tryz.f3 false true false false) := by
  obtain ⟨places, hx⟩ := fnames_reads os enc
  refine returnsInHanded_of_row (C := Tryz.checked) (s := OpenSpec.ofChange Rows.filesNamesSpec) own started (by kernel_rfl) Tryz.func3
    (witness_row_at (enc := enc) (C := Tryz.checked) false (laidWorld os) fnamesArgs rfl (by kernel_rfl) (by kernel_rfl) (by kernel_rfl)
      (OpenSpec.preRow_of_cond 8 hx (by kernel_rfl) (fun k hk => by cases hk) (by kernel_rfl) (fnames_laid os))) ?_
  intro W base args ds gs before hval0 hW _ _ _ hlaid hsh _
  have hval : ∀ (j : Nat) t v, Tryz.f3.params[j]? = some t → args[j]? = some v → Value.okWide Tryz.prog W .any base t v := hval0
  have hW' := hW
  obtain ⟨p, q, hA0, hV, rfl, hfz, hnd⟩ := hW
  have hA : DataW.TrodAll enc Tryz.prog W 0 (fun _ => true) true Tryz.f3.params.toList args.toList ds p := hA0
  rw [Tryz.params3] at hA hval
  obtain ⟨v0, v1, v2, d0, d1, d2, p0, p1, p2, rfl, rfl, rfl, h0, h1, h2⟩ := trodAll_three hA
  obtain ⟨rfl, rfl⟩ := trodVars_none hV
  obtain ⟨k, rfl, rfl, rfl, hk⟩ := open_int Tryz.underlying5 (hval 0 5 v0 rfl rfl) h0
  obtain ⟨n, rfl, rfl, rfl, hn⟩ := open_int Tryz.underlying3 (hval 1 3 v1 rfl rfl) h1
  obtain ⟨s, rfl, rfl, rfl, hs⟩ := open_string Tryz.underlying9 (hval 2 9 v2 rfl rfl) h2
  clear hA0 hval0
  simp only [List.append_nil] at hW'
  obtain ⟨kn, rfl, hkl⟩ := u8_nat hk
  obtain ⟨hn1, hn2⟩ := i64_bd hn
  have hC := filesNames_calls (UInt8.ofNat kn) n s W (std_of_laid hlaid hsh) hn1 hn2 hs
  rw [UInt8.toNat_ofNat', Nat.mod_eq_of_lt (by omega)] at hC
  refine hC.mono fun e W' ⟨he, hg⟩ => ?_
  subst he
  exact ⟨_, rfl, post_of_below (pa := []) (pv := []) hW' (fun _ _ _ => trodAll_mk1 (shut_bool Tryz.underlying4 _)) (fun sp _ => trodAll_mk3 (shut_int Tryz.underlying5 hk) (shut_int Tryz.underlying3 hn) (shut_string Tryz.underlying9 hs)) (fun _ _ => rfl) rfl
    hg (ok_one (by kernel_rfl) rfl (okWide_bool_mk Tryz.underlying4 _))⟩
theorem fnames_said : Rows.FilesNamesSaid :=
  OpenClaim.holds_of_cond 3 Tryz.f3 rfl rfl rfl rfl rfl rfl rfl ⟨rfl, rfl, rfl, rfl, rfl⟩ rfl rfl rfl rfl rfl (by kernel_rfl) Tryz.func3 (by kernel_rfl)
    (of_decide_eq_true (by kernel_rfl)) (by unfold Func.isWrapper; first | (rw [if_pos (by decide +kernel)]; kernel_rfl) | (rw [if_neg (by decide +kernel)]; exact ⟨rfl, rfl⟩))
    (fun os started H enc _ F => by rw [OpenClaim.pre_eq_preRow]; exact fnames_lifted os started H enc F)
theorem fnames_plain (f : FuncId) (fn : Func) (hf : Tryz.pinned.checked.prog.funcNamed "sentry/sentrylaw21.FilesNames" = some f) (hfn : Tryz.pinned.checked.prog.funcs[f]? = some fn) :
    true = Tryz.pinned.checked.prog.looks [] ∧ ∀ (j : Nat) t, fn.params[j]? = some t → Tryz.pinned.checked.prog.wantsStandIn t = false := by
  obtain rfl : f = 3 := Option.some.inj ((show Tryz.prog.funcNamed "sentry/sentrylaw21.FilesNames" = some 3 by kernel_rfl).symm.trans hf) |>.symm
  obtain rfl : fn = Tryz.f3 := (Option.some.inj (Tryz.func3.symm.trans hfn)).symm
  refine ⟨by kernel_rfl, fun j t ht => ?_⟩
  rw [Tryz.params3] at ht
  have hm : t = 5 ∨ t = 3 ∨ t = 9 := by simpa using Array.mem_of_getElem? ht
  rcases hm with rfl | rfl | rfl
  · exact (show Tryz.prog.wantsStandIn 5 = false by kernel_rfl)
  · exact (show Tryz.prog.wantsStandIn 3 = false by kernel_rfl)
  · exact (show Tryz.prog.wantsStandIn 9 = false by kernel_rfl)
theorem fnames_card : Rows.FilesNamesCardSaid :=
  Claim7.holds_tied_plain_at .later [] _ _ _ _ fnames_said (fun _ h => by cases h) (by kernel_rfl) (fun _ h => by cases h) filesNames_row_tie rfl ⟨rfl, rfl⟩ (by kernel_rfl) rfl fnames_plain (by kernel_rfl)
#print axioms fnames_card
end Go.Proofs.YtabcdodjkfknlaaGreatDoor
