/- Walks: whether a file counts: the program's way, and the document's. The document's disk in memory: directories that stay as they are, acts and files in rows of their own. Walks: the document's disk: IsName, find. Walks: the document's disk: set, done. The document's disk in memory, whole: its struct, its rows; what each change leaves. -/
import Derived.Test.YtabcdodjkfknlaaGreatDoorPL15
import Derived.Test.YtabcdodjkfknlaaGreatDoorPL09
import Derived.Test.YtabcdodjkfknlaaGreatDoorPL16
import Derived.Test.YtabcdodjkfknlaaGreatDoorPL01
import Derived.Test.YtabcdodjkfknlaaGreatDoorPL04
import Derived.Maps.AppendAt
import Derived.Sort.Walk0
import Derived.WalkLawsBesides
namespace Go.Proofs.YtabcdodjkfknlaaGreatDoor
open Go.RowKit
attribute [local go_sem] Oper.semAt_some
def numIs (n : Int) (t : Tbl) : Bool := decide (t.num = n)
set_option maxHeartbeats 1000000 in
theorem numIs_calls (t : Tbl) (g : Nat) (n : Int) (w : World) (hg : w.cell? ⟨g, 0, none⟩ = some (.int .i64 n)) : Calls Tryz.prog 126 #[.agg #[.int .i64 t.num, .int .i64 t.level, .int .i64 t.size, .string t.first, .string t.last], .pointer (some ⟨g, 0, none⟩)] w fun e w' => e = .returned (.bool (numIs n t)) ∧ Below w.heap.size w w' := by
  obtain ⟨tn, tl, tz, tf, ta⟩ := t
  have hO : numIs n ⟨tn, tl, tz, tf, ta⟩ = (tn == n) := by unfold numIs; rw [Bool.eq_iff_iff]; simp
  rw [hO]
  have cT := (Blk.new w 76 #[.int .i64 tn, .int .i64 tl, .int .i64 tz, .string tf, .string ta]).cell
  have hl := cell_lt hg
  have hb := (Below.refl w.heap.size w).alloc (Nat.le_refl _) (.cells #[.int .i64 tn, .int .i64 tl, .int .i64 tz, .string tf, .string ta] 76)
  have hg' := (hb.cell (p := ⟨g, 0, none⟩) hl).trans hg
  have hb' := Lib.hid hb
  clear hO hb
  go_enter Tryz.func126, Tryz.ntmps126
  go_wp2_with fail
  go_ret
  exact ⟨rfl, hb'.out⟩
set_option maxHeartbeats 1000000 in
set_option maxRecDepth 100000 in
theorem idxN_calls (p : Option Addr) (c : Nat) (l : List Tbl) (g : Nat) (n : Int) (w : World) (hA : rkT.At w p l) (hlen : l.length ≤ 1000000) (hg : w.cell? ⟨g, 0, none⟩ = some (.int .i64 n)) :
    Calls Tryz.prog 155 #[.slice p l.length c, .func (.func 126) #[] #[.pointer (some ⟨g, 0, none⟩)]] w fun e w' => ∃ j, e = .returned (.int .i64 j) ∧ (decide (0 ≤ j)) = l.any (numIs n) ∧ Below w.heap.size w w' := by
  have hA' := Lib.hid hA
  have hg' := Lib.hid hg
  have hgl := cell_lt hg
  clear hA hg
  obtain ⟨L, hL⟩ : ∃ L, l.length = L := ⟨_, rfl⟩
  have hL' := Lib.hid hL
  rw [hL] at hlen ⊢
  clear hL
  go_enter Tryz.func155, Tryz.ntmps155
  go_wp2
  go_loopw [5, 8] (fun _ i wr => ∃ k : Nat, i = .int .i64 k ∧ k ≤ L ∧ (l.take k).any (numIs n) = false ∧ Below w.heap.size w wr) (fun _ i _ => L - (intOf i).toNat)
  case atStart => exact ⟨0, rfl, by omega, rfl, Below.refl _ _⟩
  case round =>
    obtain ⟨wo, rfl⟩ : ∃ wo : World, wo = wr := ⟨_, rfl⟩
    obtain ⟨k, rfl, hk, hany, hb⟩ := hrel
    by_cases hlt : k < L
    · obtain ⟨t, ht⟩ : ∃ t, l[k]? = some t := ⟨_, List.getElem?_eq_getElem (by rw [hL'.out]; exact hlt)⟩
      obtain ⟨a, b, rfl, hab, hbl, q0, q1, q2, q3, q4⟩ := tbl_at (hA'.out.below hb) ht
      have hc := numIs_calls t g n wo ((hb.cell (p := ⟨g, 0, none⟩) hgl).trans hg'.out)
      have htake : (l.take (k + 1)).any (numIs n) = numIs n t := by
        rw [List.take_add_one, ht, List.any_append, hany]; simp
      have hmem := List.mem_of_getElem? ht
      obtain ⟨tn, tl, tz, tf, ta⟩ := t
      simp only at q0 q1 q2 q3 q4 hc
      have hb' := Lib.hid hb
      have hc' := Lib.hid hc
      have htake' := Lib.hid htake
      have hmem' := Lib.hid hmem
      have ht' := Lib.hid ht
      have hany' := Lib.hid hany
      clear hb hc htake hmem ht hany
      have n1 : 0 < L := by omega
      go_wp2_with fail
      (with_reducible refine hc'.out.mono ?_)
      rintro e w1 ⟨rfl, hb1⟩
      have hb2 := Lib.hid (hb'.out.trans (hb1.mono hb'.out.size))
      clear hb1
      by_cases ho : numIs n ⟨tn, tl, tz, tf, ta⟩ = true
      · rw [ho]
        go_wp2_with fail
        go_ret
        exact ⟨k, rfl, by rw [List.any_eq_true.2 ⟨_, hmem'.out, ho⟩]; simp, hb2.out⟩
      · rw [Bool.not_eq_true] at ho
        rw [ho]
        go_wp2_with fail
        exact ⟨⟨k + 1, by rw [Int.natCast_add]; rfl, by omega, by rw [htake'.out, ho], hb2.out⟩, by simp only [intOf]; omega⟩
    · obtain rfl : k = L := by omega
      rw [← hL'.out, List.take_length] at hany
      go_wp2_with fail
      go_ret
      exact ⟨-1, rfl, by rw [hany]; rfl, hb⟩
set_option maxHeartbeats 1000000 in
set_option maxRecDepth 100000 in
theorem contN_calls (p : Option Addr) (c : Nat) (l : List Tbl) (g : Nat) (n : Int) (w : World) (hA : rkT.At w p l) (hlen : l.length ≤ 1000000) (hg : w.cell? ⟨g, 0, none⟩ = some (.int .i64 n)) :
    Calls Tryz.prog 125 #[.slice p l.length c, .func (.func 126) #[] #[.pointer (some ⟨g, 0, none⟩)]] w fun e w' => e = .returned (.bool (l.any (numIs n))) ∧ Below w.heap.size w w' := by
  have hI := Lib.hid (idxN_calls p c l g n w hA hlen hg)
  clear hA hg
  obtain ⟨L, hL⟩ : ∃ L, l.length = L := ⟨_, rfl⟩
  rw [hL] at hlen hI ⊢
  clear hL
  go_enter Tryz.func125, Tryz.ntmps125
  go_wp2_with (go_at_call 155; ((with_reducible refine hI.out.mono ?_); rintro e w1 ⟨j, rfl, hj, hb⟩; have hb' := Lib.hid hb; have hj' := Lib.hid hj; clear hb hj))
  go_ret
  exact ⟨by rw [← hj'.out]; rfl, hb'.out⟩
theorem is_current (s : ByteArray) : (s.toList == [99, 117, 114, 114, 101, 110, 116]) = decide (s.data.toList = currentL) := by
  rw [Lib.toList_data, Bool.eq_iff_iff]; simp [currentL]
theorem wantedP_none {v : Ver} {num : Int} {s : List UInt8} (h : fnum s = none) : wantedP v num s = decide (s = currentL) := by unfold wantedP; rw [h]; simp
theorem wantedP_some {v : Ver} {num : Int} {s : List UInt8} {k : UInt8} {n : Nat} (h : fnum s = some (k, n)) : wantedP v num s = if k = 109 then decide ((n : Int) = num) else if k = 119 then decide (v.log ≤ (n : Int)) else v.tables.any (numIs n) := by
  unfold wantedP
  rw [h, decide_eq_false (fnum_kind h).2.2]
  rfl
set_option maxHeartbeats 2000000 in
set_option maxRecDepth 100000 in
theorem wanted_calls (s : ByteArray) (vv : Value) (x : Ver) (num : Int) (w : World) (hs : s.size ≤ 10000000) (hw : StdF w) (hv : VerIs w vv x) :
    Calls Tryz.prog 80 #[.string s, vv, .int .i64 num] w fun e w' => e = .returned (.bool (wantedP x num s.data.toList)) ∧ Below w.heap.size w w' := by
  obtain ⟨⟨pv, cv, rfl, hT⟩, hl, _, _⟩ := hv
  obtain ⟨W1, hW1⟩ : ∃ W1, w.alloc (.cells #[.slice pv x.tables.length cv, .int .u64 x.floor, .int .u64 x.head, .int .i64 x.log, .int .i64 x.next] 30) = W1 := ⟨_, rfl⟩
  have B1 : Below w.heap.size w W1 := by rw [← hW1]; exact (Below.refl _ w).alloc (Nat.le_refl _) _
  have bV : Blk W1 w.heap.size 30 #[.slice pv x.tables.length cv, .int .u64 x.floor, .int .u64 x.head, .int .i64 x.log, .int .i64 x.next] := by rw [← hW1]; exact Blk.new w _ _
  have hN := Lib.hid (number_name_calls s W1 hs (hw.next B1))
  have hT' := Lib.hid hT
  have bV' := Lib.hid bV
  have B1' := Lib.hid B1
  clear hT bV B1 hs hw
  cases hf : fnum s.data.toList with
  | none =>
    rw [wantedP_none hf, ← is_current]
    unfold NumPost_ at hN
    rw [hf] at hN
    have hN2 : Hid (Calls Tryz.prog 9 #[.string s] W1 fun e w' => e = .returned (.tuple #[.int .u8 0, .int .i64 0, .bool false]) ∧ Below W1.heap.size W1 w') := hN
    clear hN hf
    go_enter Tryz.func80, Tryz.ntmps80
    go_wp2_with (go_at_call 9; ((with_reducible refine hN2.out.mono ?_); rintro e w1 ⟨rfl, hb⟩; have hb' := Lib.hid (B1'.out.trans (hb.mono B1'.out.size)); clear hb))
    go_ret
    exact ⟨rfl, hb'.out.alloc hb'.out.size _⟩
  | some kn =>
    obtain ⟨k, n⟩ := kn
    obtain ⟨hk, hn, _⟩ := fnum_kind hf
    rw [wantedP_some hf]
    unfold NumPost_ at hN
    rw [hf] at hN
    have hN2 : Hid (Calls Tryz.prog 9 #[.string s] W1 fun e w' => e = .returned (.tuple #[.int .u8 k.toNat, .int .i64 n, .bool true]) ∧ Below W1.heap.size W1 w') := hN
    clear hN hf
    rcases hk with rfl | rfl | rfl
    · rw [if_neg (by decide), if_neg (by decide)]
      have hN3 : Hid (Calls Tryz.prog 9 #[.string s] W1 fun e w' => e = .returned (.tuple #[.int .u8 116, .int .i64 n, .bool true]) ∧ Below W1.heap.size W1 w') := hN2
      clear hN2
      go_enter Tryz.func80, Tryz.ntmps80
      go_wp2_with (first
        | (go_at_call 9; ((with_reducible refine hN3.out.mono ?_); rintro e w1 ⟨rfl, hb⟩; have hb' := Lib.hid (B1'.out.trans (hb.mono B1'.out.size)); have bV2 := Lib.hid ((bV'.out.below hb bV'.out.lt).alloc (.cells #[.int .i64 n] 3)); have cV := bV2.out.cell; have cN := (Blk.new w1 3 #[.int .i64 n]).cell; have hb2 := Lib.hid (hb'.out.alloc hb'.out.size (.cells #[.int .i64 n] 3)); have hC := Lib.hid (contN_calls pv cv x.tables w1.heap.size n (w1.alloc (.cells #[.int .i64 n] 3)) (hT'.out.below hb2.out) hl (by rw [cN]; rfl)); clear hb))
        | (go_at_call 125; ((with_reducible refine hC.out.mono ?_); rintro e w2 ⟨rfl, hb3⟩; have hb4 := Lib.hid (hb2.out.trans (hb3.mono hb2.out.size)); clear hb3)))
      go_ret
      exact ⟨rfl, hb4.out⟩
    · rw [if_neg (by decide), if_pos rfl]
      have hN3 : Hid (Calls Tryz.prog 9 #[.string s] W1 fun e w' => e = .returned (.tuple #[.int .u8 119, .int .i64 n, .bool true]) ∧ Below W1.heap.size W1 w') := hN2
      clear hN2
      go_enter Tryz.func80, Tryz.ntmps80
      go_wp2_with (go_at_call 9; ((with_reducible refine hN3.out.mono ?_); rintro e w1 ⟨rfl, hb⟩; have hb' := Lib.hid (B1'.out.trans (hb.mono B1'.out.size)); have cV := ((bV'.out.below hb bV'.out.lt).alloc (.cells #[.int .i64 n] 3)).cell; clear hb))
      go_ret
      exact ⟨rfl, hb'.out.alloc hb'.out.size _⟩
    · rw [if_pos rfl]
      have hN3 : Hid (Calls Tryz.prog 9 #[.string s] W1 fun e w' => e = .returned (.tuple #[.int .u8 109, .int .i64 n, .bool true]) ∧ Below W1.heap.size W1 w') := hN2
      clear hN2
      go_enter Tryz.func80, Tryz.ntmps80
      go_wp2_with (go_at_call 9; ((with_reducible refine hN3.out.mono ?_); rintro e w1 ⟨rfl, hb⟩; have hb' := Lib.hid (B1'.out.trans (hb.mono B1'.out.size)); have cV := ((bV'.out.below hb bV'.out.lt).alloc (.cells #[.int .i64 n] 3)).cell; clear hb))
      go_ret
      refine ⟨?_, hb'.out.alloc hb'.out.size _⟩
      congr 2
set_option maxHeartbeats 2000000 in
set_option maxRecDepth 100000 in
theorem wanted21_calls (s : ByteArray) (vv : Value) (x : Ver) (num : Int) (w : World) (hs : s.size ≤ 10000000) (hv : VerIs w vv x) :
    Calls Tryz.prog 77 #[.string s, vv, .int .i64 num] w fun e w' => e = .returned (.bool (wantedP x num s.data.toList)) ∧ Below w.heap.size w w' := by
  obtain ⟨⟨pv, cv, rfl, hT⟩, hl, _, _⟩ := hv
  obtain ⟨W1, hW1⟩ : ∃ W1, w.alloc (.cells #[.slice pv x.tables.length cv, .int .u64 x.floor, .int .u64 x.head, .int .i64 x.log, .int .i64 x.next] 30) = W1 := ⟨_, rfl⟩
  have B1 : Below w.heap.size w W1 := by rw [← hW1]; exact (Below.refl _ w).alloc (Nat.le_refl _) _
  have bV : Blk W1 w.heap.size 30 #[.slice pv x.tables.length cv, .int .u64 x.floor, .int .u64 x.head, .int .i64 x.log, .int .i64 x.next] := by rw [← hW1]; exact Blk.new w _ _
  have hN := Lib.hid (refNumber_calls s W1 hs)
  have hT' := Lib.hid hT
  have bV' := Lib.hid bV
  have B1' := Lib.hid B1
  clear hT bV B1 hs
  by_cases hcur : s.data.toList = currentL
  · have hW : wantedP x num s.data.toList = true := by unfold wantedP; rw [decide_eq_true hcur]; rfl
    rw [hW]
    have t1 : (s.toList == [99, 117, 114, 114, 101, 110, 116]) = true := by rw [is_current]; exact decide_eq_true hcur
    clear hW hcur hN
    go_enter Tryz.func77, Tryz.ntmps77
    go_wp2_with fail
    go_ret
    exact ⟨rfl, B1'.out⟩
  · have t1 : (s.toList == [99, 117, 114, 114, 101, 110, 116]) = false := by rw [is_current]; exact decide_eq_false hcur
    cases hf : fnum s.data.toList with
    | none =>
      rw [wantedP_none hf, decide_eq_false hcur]
      unfold NumPost_ at hN
      rw [hf] at hN
      have hN2 : Hid (Calls Tryz.prog 10 #[.string s] W1 fun e w' => e = .returned (.tuple #[.int .u8 0, .int .i64 0, .bool false]) ∧ Below W1.heap.size W1 w') := hN
      clear hN hf hcur
      go_enter Tryz.func77, Tryz.ntmps77
      go_wp2_with (go_at_call 10; ((with_reducible refine hN2.out.mono ?_); rintro e w1 ⟨rfl, hb⟩; have hb' := Lib.hid (B1'.out.trans (hb.mono B1'.out.size)); clear hb))
      go_ret
      exact ⟨rfl, hb'.out⟩
    | some kn =>
      obtain ⟨k, n⟩ := kn
      obtain ⟨hk, hn, _⟩ := fnum_kind hf
      rw [wantedP_some hf]
      unfold NumPost_ at hN
      rw [hf] at hN
      have hN2 : Hid (Calls Tryz.prog 10 #[.string s] W1 fun e w' => e = .returned (.tuple #[.int .u8 k.toNat, .int .i64 n, .bool true]) ∧ Below W1.heap.size W1 w') := hN
      clear hN hf hcur
      rcases hk with rfl | rfl | rfl
      · rw [if_neg (by decide), if_neg (by decide)]
        have hN3 : Hid (Calls Tryz.prog 10 #[.string s] W1 fun e w' => e = .returned (.tuple #[.int .u8 116, .int .i64 n, .bool true]) ∧ Below W1.heap.size W1 w') := hN2
        clear hN2
        obtain ⟨L, hL⟩ : ∃ L, x.tables.length = L := ⟨_, rfl⟩
        rw [hL] at bV' hl hW1 ⊢
        have hL' := Lib.hid hL
        clear hL
        go_enter Tryz.func77, Tryz.ntmps77
        go_wp2_with (go_at_call 10; ((with_reducible refine hN3.out.mono ?_); rintro e w1 ⟨rfl, hb⟩; have hb' := Lib.hid (B1'.out.trans (hb.mono B1'.out.size)); have cV := (bV'.out.below hb bV'.out.lt).cell; clear hb))
        go_loopw [11, 37] (fun _ i wr => ∃ k : Nat, i = .int .i64 k ∧ k ≤ L ∧ (x.tables.take k).any (numIs n) = false ∧ Below w.heap.size w wr) (fun _ i _ => L - (intOf i).toNat)
        case atStart => exact ⟨0, rfl, by omega, rfl, hb'.out⟩
        case round =>
          obtain ⟨wo, rfl⟩ : ∃ wo : World, wo = wr := ⟨_, rfl⟩
          clear cV
          obtain ⟨k, rfl, hk, hany, hB⟩ := hrel
          by_cases hlt : k < L
          · obtain ⟨t, ht⟩ : ∃ t, x.tables[k]? = some t := ⟨_, List.getElem?_eq_getElem (by rw [hL'.out]; exact hlt)⟩
            obtain ⟨a, b, rfl, hab, hbl, q0, q1, q2, q3, q4⟩ := tbl_at (hT'.out.below hB) ht
            have htake : (x.tables.take (k + 1)).any (numIs n) = numIs n t := by
              rw [List.take_add_one, ht, List.any_append, hany]; simp
            have hmem := List.mem_of_getElem? ht
            obtain ⟨tn, tl, tz, tf, ta⟩ := t
            simp only at q0 q1 q2 q3 q4
            have cT := (Blk.new wo 76 #[.int .i64 tn, .int .i64 tl, .int .i64 tz, .string tf, .string ta]).cell
            have hB2 := Lib.hid (hB.alloc hB.size (.cells #[.int .i64 tn, .int .i64 tl, .int .i64 tz, .string tf, .string ta] 76))
            have htake' := Lib.hid htake
            have hmem' := Lib.hid hmem
            clear hB htake hmem ht hany
            have n1 : 0 < L := by omega
            by_cases ho : tn = (n : Int)
            · have t2 : (tn == (n : Int)) = true := by simpa using ho
              have hp : x.tables.any (numIs n) = true := List.any_eq_true.2 ⟨_, hmem'.out, decide_eq_true ho⟩
              have hp' := Lib.hid hp
              clear ho hp
              go_wp2_with fail
              go_ret
              exact ⟨by rw [hp'.out]; rfl, hB2.out⟩
            · have t2 : (tn == (n : Int)) = false := by simpa using ho
              have hp : (x.tables.take (k + 1)).any (numIs n) = false := by rw [htake'.out]; exact decide_eq_false ho
              have hp' := Lib.hid hp
              clear ho hp htake'
              go_wp2_with fail
              exact ⟨⟨k + 1, by rw [Int.natCast_add]; rfl, by omega, hp'.out, hB2.out⟩, by simp only [intOf]; omega⟩
          · obtain rfl : k = L := by omega
            rw [← hL'.out, List.take_length] at hany
            have hany' := Lib.hid hany
            have hB2 := Lib.hid hB
            clear hB hany
            go_wp2_with fail
            go_ret
            exact ⟨by rw [hany'.out]; rfl, hB2.out⟩
      · rw [if_neg (by decide), if_pos rfl]
        have hN3 : Hid (Calls Tryz.prog 10 #[.string s] W1 fun e w' => e = .returned (.tuple #[.int .u8 119, .int .i64 n, .bool true]) ∧ Below W1.heap.size W1 w') := hN2
        clear hN2
        go_enter Tryz.func77, Tryz.ntmps77
        go_wp2_with (go_at_call 10; ((with_reducible refine hN3.out.mono ?_); rintro e w1 ⟨rfl, hb⟩; have hb' := Lib.hid (B1'.out.trans (hb.mono B1'.out.size)); have cV := (bV'.out.below hb bV'.out.lt).cell; clear hb))
        go_ret
        exact ⟨rfl, hb'.out⟩
      · rw [if_pos rfl]
        have hN3 : Hid (Calls Tryz.prog 10 #[.string s] W1 fun e w' => e = .returned (.tuple #[.int .u8 109, .int .i64 n, .bool true]) ∧ Below W1.heap.size W1 w') := hN2
        clear hN2
        go_enter Tryz.func77, Tryz.ntmps77
        go_wp2_with (go_at_call 10; ((with_reducible refine hN3.out.mono ?_); rintro e w1 ⟨rfl, hb⟩; have hb' := Lib.hid (B1'.out.trans (hb.mono B1'.out.size)); clear hb))
        go_ret
        refine ⟨?_, hb'.out⟩
        congr 2
end Go.Proofs.YtabcdodjkfknlaaGreatDoor
namespace Go.Proofs.YtabcdodjkfknlaaGreatDoor
open Go.RowKit Go.Maps Go.Shelf
def strV (l : List UInt8) : Value := .string ⟨l.toArray⟩
theorem strV_mk (s : ByteArray) : Value.string s = strV s.data.toList := by
  unfold strV; rw [toArr]
/-- one string for each list of bytes -/
theorem str_of (l : List UInt8) : ∃ s : ByteArray, strV l = .string s ∧ s.data.toList = l := ⟨⟨l.toArray⟩, rfl, by simp⟩
def ncells (d : RDir) : List Value := d.flatMap fun n => [strV n.1, .int .i64 n.2]
def racells (l : List RAct) : List Value := l.flatMap fun a => [strV a.frm, strV a.to, .int .i64 a.file]
def fcells (dv : List Value) (F : List File) : List Value := (dv.zip F).flatMap fun x => [x.1, .int .i64 x.2.safe]
theorem ncells_at : ∀ (d : RDir) (k : Nat) (n : List UInt8 × Nat), d[k]? = some n → (ncells d)[k * 2]? = some (strV n.1) ∧ (ncells d)[k * 2 + 1]? = some (.int .i64 n.2)
  | [], k, c, h => by simp at h
  | d :: cs, 0, c, h => by
    obtain rfl : d = c := by simpa using h
    exact ⟨rfl, rfl⟩
  | d :: cs, k + 1, c, h => by
    obtain ⟨h1, h2⟩ := ncells_at cs k c (by simpa using h)
    have e : ncells (d :: cs) = strV d.1 :: .int .i64 d.2 :: ncells cs := rfl
    rw [e, show (k + 1) * 2 = k * 2 + 1 + 1 by omega]
    exact ⟨by simpa using h1, by simpa using h2⟩
theorem ncells_app (d e : RDir) : ncells (d ++ e) = ncells d ++ ncells e := by unfold ncells; rw [List.flatMap_append]
section
variable {w w' : World} {T : TypeId} {v : Value} {n : Nat} {xs : List Value}
end
/-- a directory lies somewhere -/
def DirAt (w : World) (v : Value) (d : RDir) : Prop := RowAt w 131 v d.length (ncells d)
theorem DirAt.slice {w : World} {v : Value} {d : RDir} (h : DirAt w v d) : ∃ p c, v = .slice p d.length c := RowAt.slice h
theorem DirAt.keeps {S : Nat → Prop} {w w' : World} {v : Value} {d : RDir} (h : DirAt w v d) (hk : Keeps S w w') (hs : ∀ g, v.ownBlock = some g → ¬ S g) : DirAt w' v d := RowAt.keeps h hk hs
theorem DirAt.later {w w' : World} {v : Value} {d : RDir} (h : DirAt w v d) (hb : Below w.heap.size w w') : DirAt w' v d := RowAt.later h hb
theorem DirAt.of_own {w : World} {B : Nat} {v : Value} {d : RDir} (h : w.ownsRow B 131 2 v d.length (ncells d)) : DirAt w v d := RowAt.of_own h
theorem DirAt.lt {w : World} {v : Value} {d : RDir} (h : DirAt w v d) : ∀ g, v.ownBlock = some g → g < w.heap.size := RowAt.lt h
/-- one name of it -/
theorem DirAt.name {w : World} {v : Value} {d : RDir} (h : DirAt w v d) {k : Nat} (hk : k < d.length) : ∃ g c n s, v = .slice (some ⟨g, 0, none⟩) d.length c ∧ d.length ≤ c ∧ g < w.heap.size ∧ d[k]? = some n ∧ s.data.toList = n.1 ∧ w.cell? ⟨g, k * 2, none⟩ = some (.string s) ∧ w.cell? ⟨g, k * 2 + 1, none⟩ = some (.int .i64 n.2) := by
  obtain ⟨g, c, rfl, hc, hl, h⟩ := RowAt.cell h (by omega)
  have hn := List.getElem?_eq_getElem hk
  obtain ⟨h1, h2⟩ := ncells_at d k _ hn
  obtain ⟨s, hs1, hs2⟩ := str_of d[k].1
  exact ⟨g, c, d[k], s, rfl, hc, hl, hn, hs2, by rw [← hs1]; exact h _ _ h1, h _ _ h2⟩
theorem str_eq (a b : ByteArray) : (a.toList == b.toList) = decide (a.data.toList = b.data.toList) := by
  rw [Lib.toList_data, Lib.toList_data, Bool.eq_iff_iff]; simp
theorem less_lt' (a b : ByteArray) : Op.bytesLess a.toList b.toList = decide (a.data.toList < b.data.toList) := by
  rw [bytesLess_eq, Lib.toList_data, Lib.toList_data]
theorem rfind_take {d : RDir} {s : List UInt8} {k : Nat} {n : List UInt8 × Nat} (hn : d[k]? = some n) (h : rfind (d.take k) s = none) : rfind d s = if n.1 = s then some n.2 else rfind (d.drop (k + 1)) s := by
  have hk : k < d.length := (List.getElem?_eq_some_iff.1 hn).1
  have e : d = d.take k ++ (n :: d.drop (k + 1)) := by
    have : d[k] = n := by rw [List.getElem?_eq_getElem hk] at hn; exact Option.some.inj hn
    rw [← this, ← List.drop_eq_getElem_cons hk, List.take_append_drop]
  conv => lhs; rw [e, rfind_append, h]
  rfl
theorem rfind_take_succ {d : RDir} {s : List UInt8} {k : Nat} {n : List UInt8 × Nat} (hn : d[k]? = some n) (h : rfind (d.take k) s = none) (hne : n.1 ≠ s) : rfind (d.take (k + 1)) s = none := by
  rw [List.take_add_one, hn, rfind_append, h]
  show (none : Option Nat).or (if n.1 = s then some n.2 else none) = none
  rw [if_neg hne]; rfl
/-- the number of a name's file, or -1 -/
def numI : Option Nat → Int
  | none => -1
  | some i => i
end Go.Proofs.YtabcdodjkfknlaaGreatDoor
namespace Go.Proofs.YtabcdodjkfknlaaGreatDoor
open Go.RowKit Go.Maps Go.Shelf
set_option maxHeartbeats 1000000 in
theorem risName_calls (s : ByteArray) (w : World) (hs : s.size ≤ maxLen) :
    Calls Tryz.prog 150 #[.string s] w fun e w' => e = .returned (.bool (dName s.data.toList)) ∧ w = w' := by
  unfold maxLen at hs
  go_enter Tryz.func150, Tryz.ntmps150
  go_wp2
  go_loop [3] (fun i => ∃ k : Nat, k ≤ s.size ∧ i = .int .i64 k ∧ (s.data.toList.take k).all dByte = true) (fun i => s.size - (intOf i).toNat)
  case atStart => exact ⟨0, Nat.zero_le _, rfl, by simp⟩
  case round =>
    obtain ⟨k, hk, rfl, hall⟩ := hrel
    have hall' := Lib.hid hall
    clear hall
    by_cases hlt : k < s.size
    · go_wp2
      all_goals first
        | (go_round
           case rel => exact ⟨k + 1, by omega, by go_num, dall_step s k hlt hall'.out (by rw [dByte_int]; grind)⟩
           case measure => simp [intOf]; omega)
        | (go_ret
           exact ⟨ret_bool (dnot_all s k hlt (by rw [dByte_int]; grind)).symm, rfl⟩)
    · have hn : dName s.data.toList = (decide (1 ≤ (s.size : Int)) && decide ((s.size : Int) ≤ 32)) := by
        have h := hall'.out
        rw [List.take_of_length_le (by rw [← Lib.size_eq]; omega)] at h
        unfold dName
        rw [h, ← Lib.size_eq, Bool.true_and]
        congr 1 <;> (rw [Bool.eq_iff_iff]; simp; try omega)
      have hn' := Lib.hid hn
      clear hn
      go_wp2
      all_goals (go_ret; refine ⟨ret_bool ?_, rfl⟩; rw [hn'.out]; grind)
set_option maxHeartbeats 1000000 in
theorem rfind_calls (v : Value) (d : RDir) (s : ByteArray) (w : World) (h : DirAt w v d) (hd : d.length ≤ 100000) :
    Calls Tryz.prog 116 #[v, .string s] w fun e w' => e = .returned (.int .i64 (numI (rfind d s.data.toList))) ∧ Below w.heap.size w w' := by
  obtain ⟨p, c, rfl⟩ := h.slice
  have h' := Lib.hid h
  clear h
  go_enter Tryz.func116, Tryz.ntmps116
  go_wp2_with fail
  go_loopw [9] (fun i wr => ∃ k : Nat, k ≤ d.length ∧ i = .int .i64 k ∧ rfind (d.take k) s.data.toList = none ∧ Below w.heap.size w wr) (fun i _ => d.length - (intOf i).toNat)
  case atStart => exact ⟨0, Nat.zero_le _, rfl, rfl, Below.refl _ _⟩
  case round =>
    obtain ⟨k, hk, rfl, hn, hB⟩ := hrel
    have hn' := Lib.hid hn
    clear hn
    by_cases hlt : k < d.length
    · obtain ⟨g, c', n, t, hv, hc, hg, hdk, ht, q0, q1⟩ := (h'.out.later hB).name hlt
      obtain ⟨rfl, rfl⟩ : p = some ⟨g, 0, none⟩ ∧ c = c' := by simpa using hv
      have hdk' := Lib.hid hdk
      have ht' := Lib.hid ht
      have hz := hB.size
      have hse := str_eq t s
      have hBn := hB.alloc hz (.cells #[.string t, .int .i64 n.2] 131)
      clear hdk ht hv
      cases he : decide (t.data.toList = s.data.toList)
      · rw [he] at hse
        have he' := Lib.hid he
        clear he
        go_wp2_with fail
        go_roundw
        case rel => exact ⟨k + 1, by omega, by go_num, rfind_take_succ hdk'.out hn'.out (by rw [← ht'.out]; exact of_decide_eq_false he'.out), hBn⟩
        case measure => simp [intOf]; omega
      · rw [he] at hse
        have he' := Lib.hid he
        clear he
        go_wp2_with fail
        go_ret
        refine ⟨?_, hBn⟩
        rw [rfind_take hdk'.out hn'.out, if_pos (by rw [← ht'.out]; exact of_decide_eq_true he'.out)]
        rfl
    · go_wp2_with fail
      go_ret
      refine ⟨?_, hB⟩
      have := hn'.out
      rw [List.take_of_length_le (by omega)] at this
      rw [this]
      rfl
end Go.Proofs.YtabcdodjkfknlaaGreatDoor
namespace Go.Proofs.YtabcdodjkfknlaaGreatDoor
open Go.RowKit Go.Maps Go.Shelf
attribute [local go_sem ↓] dapp_op
theorem info_name : (Tryz.prog.info? 131).map (fun i => (i.zero, i.size, i.bytes)) = some (some (.agg #[.string ⟨#[]⟩, .int .i64 0]), 2, 24) := by kernel_rfl
/-- what is left when a name is put behind the others -/
structure NPush (w : World) (base : Nat) (v : Value) (d : RDir) (s : List UInt8) (f o : Nat) (p : Option Addr) (c : Nat) (w' : World) : Prop where
  run : (dappOp #[126, 126] 126 #[v, .slice (some ⟨o, 0, none⟩) 1 1]).run Tryz.prog w = .ok (.slice p (d.length + 1) c) w'
  own : w'.ownsRow base 131 2 (.slice p (d.length + 1) c) (d.length + 1) (ncells (d ++ [(s, f)]))
  grow : w.grownBy w' v.ownBlock
theorem npush {w : World} {base : Nat} {v : Value} {d : RDir} (h : w.ownsRow base 131 2 v d.length (ncells d)) (hd : d.length ≤ 1000000) (hb : base ≤ w.heap.size) {o f : Nat} {s : List UInt8} (ho : Blk w o 131 #[strV s, .int .i64 f]) : ∃ p c w', NPush w base v d s f o p c w' := by
  obtain ⟨i0, hi, hz0, hz1, hz2⟩ := info_parts info_name
  obtain ⟨v', w', h2, h3, h4, _, h5⟩ := run_append_own_at (P := Tryz.prog) w base 126 126 131 i0 (.agg #[.string ⟨#[]⟩, .int .i64 0]) 2 24 Tryz.underlying126 hi hz0 hz1 hz2 rfl (by decide) v d.length _ h ⟨o, 0, none⟩ 1 1 [strV s, .int .i64 f] rfl (by
      intro j u hj
      rw [addr_at, ho.cell j, ← hj]
      simp) (by
      intro u hu
      simp at hu
      rcases hu with rfl | rfl <;> rfl) (by unfold maxLen; omega) (by omega) hb
  obtain ⟨p, c, rfl⟩ := own_slice h3
  exact ⟨p, c, w', h2, by rw [ncells_app]; exact h3, h4⟩
theorem NPush.below {w w' : World} {base : Nat} {v : Value} {d : RDir} {s : List UInt8} {f o c : Nat} {p : Option Addr} (h : NPush w base v d s f o p c w') (ho : w.ownsRow base 131 2 v d.length (ncells d)) (hb : base ≤ w.heap.size) : Below base w w' :=
  (Keeps.refl (fun k => v.ownBlock = some k) w |>.grown h.grow (fun k e => .inl (by rw [e]))).below (fun k _ e => (ho.lt k e).1) hb
/-- what set leaves -/
def SetPost (w : World) (R : RDir) (e : Ending) (w' : World) : Prop := ∃ v, e = .returned v ∧ DirAt w' v R ∧ (∀ g, v.ownBlock = some g → w.heap.size ≤ g) ∧ Below w.heap.size w w'
theorem rput_step (s : List UInt8) (f : Nat) (dn : Bool) {d : RDir} {k : Nat} {n : List UInt8 × Nat} (h : d[k]? = some n) : rput s f dn (d.drop k) = (if !dn && decide (s < n.1) then [(s, f)] else []) ++ ((if n.1 = s then [] else [n]) ++ rput s f (dn || decide (s < n.1)) (d.drop (k + 1))) := by
  have hk : k < d.length := (List.getElem?_eq_some_iff.1 h).1
  have : d[k] = n := by rw [List.getElem?_eq_getElem hk] at h; exact Option.some.inj h
  rw [List.drop_eq_getElem_cons hk, this]; rfl
theorem rput_skip {s : List UInt8} {f : Nat} {dn : Bool} {d o R : RDir} {k : Nat} {n : List UInt8 × Nat} (hn : d[k]? = some n) (ha : (!dn && decide (s < n.1)) = false) (he : n.1 = s) (h : o ++ rput s f dn (d.drop k) = R) : o ++ rput s f dn (d.drop (k + 1)) = R := by
  rw [rput_step s f dn hn, ha, if_pos he] at h
  have e : (dn || decide (s < n.1)) = dn := by rw [he, decide_eq_false (lt_irr s), Bool.or_false]
  rw [e] at h
  exact h
theorem rput_stay {s : List UInt8} {f : Nat} {dn : Bool} {d o R : RDir} {k : Nat} {n : List UInt8 × Nat} (hn : d[k]? = some n) (ha : (!dn && decide (s < n.1)) = false) (he : n.1 ≠ s) (h : o ++ rput s f dn (d.drop k) = R) : (o ++ [n]) ++ rput s f dn (d.drop (k + 1)) = R := by
  rw [rput_step s f dn hn, ha, if_neg he] at h
  have e : (dn || decide (s < n.1)) = dn := by cases dn <;> simp_all
  rw [e] at h
  rw [List.append_assoc]
  exact h
theorem rput_both {s : List UInt8} {f : Nat} {d o R : RDir} {k : Nat} {n : List UInt8 × Nat} (hn : d[k]? = some n) (ha : s < n.1) (h : o ++ rput s f false (d.drop k) = R) : ((o ++ [(s, f)]) ++ [n]) ++ rput s f true (d.drop (k + 1)) = R := by
  have he : n.1 ≠ s := fun e => by rw [e] at ha; exact lt_irr _ ha
  rw [rput_step s f false hn, if_neg he, decide_eq_true ha] at h
  rw [List.append_assoc, List.append_assoc]
  exact h
set_option maxHeartbeats 4000000 in
set_option maxRecDepth 100000 in
theorem rset_calls (v : Value) (d : RDir) (s : ByteArray) (f : Option Nat) (z : Int) (w : World) (h : DirAt w v d) (hd : d.length ≤ 100000) (hz : z = numI f) :
    Calls Tryz.prog 188 #[v, .string s, .int .i64 z] w (SetPost w (rset d s.data.toList f)) := by
  obtain ⟨p, c, rfl⟩ := h.slice
  have hzb : decide (z < 0) = f.isNone := by
    rw [hz]; cases f
    · rfl
    · exact decide_eq_false (by show ¬ ((_ : Nat) : Int) < 0; omega)
  have hR : rset d s.data.toList f = rput s.data.toList (f.getD 0) f.isNone d := by cases f <;> rfl
  have hzs : f.isNone = false → z = ((f.getD 0 : Nat) : Int) := by
    rw [hz]; cases f
    · intro h; cases h
    · intro _; rfl
  rw [hR]
  generalize f.isNone = b0 at *
  generalize f.getD 0 = fi at *
  have h' := Lib.hid h
  have hzs' := Lib.hid hzs
  clear h hz hR hzs
  go_enter Tryz.func188, Tryz.ntmps188
  go_wp2_with fail
  go_loopw [7, 8, 15] (fun vo dv i wr => ∃ (k : Nat) (dn : Bool) (o : RDir), k ≤ d.length ∧ i = .int .i64 k ∧ dv = .bool dn ∧ (dn = false → b0 = false) ∧ wr.ownsRow w.heap.size 131 2 vo o.length (ncells o) ∧ o ++ rput s.data.toList fi dn (d.drop k) = rput s.data.toList fi b0 d ∧ o.length ≤ 2 * k ∧ Below w.heap.size w wr) (fun _ _ i _ => d.length - (intOf i).toNat)
  case atStart => exact ⟨0, b0, [], Nat.zero_le _, rfl, rfl, id, World.ownsRow_nil _ _ _ _, rfl, Nat.le_refl _, Below.refl _ _⟩
  case round =>
    obtain ⟨k, dn, o, hk, rfl, rfl, hdn, hown, hR, hol, hB⟩ := hrel
    obtain ⟨po, co, rfl⟩ := own_slice hown
    have hR' := Lib.hid hR
    have hdn' := Lib.hid hdn
    have hown' := Lib.hid hown
    clear hR hdn hown
    have hzB := hB.size
    by_cases hlt : k < d.length
    · obtain ⟨g, c', n, t, hv, hc, hg, hdk, ht, q0, q1⟩ := (h'.out.later hB).name hlt
      obtain ⟨rfl, rfl⟩ : p = some ⟨g, 0, none⟩ ∧ c = c' := by simpa using hv
      have hdk' := Lib.hid hdk
      have ht' := Lib.hid ht
      have hse := str_eq t s
      have hne : (t.toList != s.toList) = !decide (t.data.toList = s.data.toList) := by rw [bne, hse]
      have hls := less_lt' s t
      have hBn := hB.alloc hzB (.cells #[.string t, .int .i64 n.2] 131)
      clear hdk ht hv
      have hoC := hown'.out.alloc (.cells #[.string t, .int .i64 n.2] 131)
      have hbC := Blk.new wr 131 #[.string t, .int .i64 n.2]
      have hcase : ((!dn && decide (s.data.toList < n.1)) = false ∧ (dn = false → Op.bytesLess s.toList t.toList = false)) ∨ (dn = false ∧ Op.bytesLess s.toList t.toList = true ∧ s.data.toList < n.1) := by
        rw [hls, ht'.out]
        cases dn
        · by_cases e : s.data.toList < n.1
          · exact .inr ⟨rfl, decide_eq_true e, e⟩
          · exact .inl ⟨by simp [e], fun _ => decide_eq_false e⟩
        · exact .inl ⟨rfl, fun e => by cases e⟩
      rcases hcase with ⟨ha, hb⟩ | ⟨rfl, hb, ha⟩
      · have ha' := Lib.hid ha
        clear ha hls
        cases he : decide (t.data.toList = s.data.toList)
        · rw [he] at hse hne
          have he' := Lib.hid he
          have hoD := hoC.alloc (.cells #[.string t, .int .i64 n.2] 131)
          have hbD := Blk.new (wr.alloc (.cells #[.string t, .int .i64 n.2] 131)) 131 #[.string t, .int .i64 n.2]
          rw [strV_mk] at hbD
          obtain ⟨p2, c2, w2, hp⟩ := npush hoD (by omega) (by simp; omega) hbD
          rw [← strV_mk] at hp
          have hB2 := (hBn.alloc (by simp; omega) (.cells #[.string t, .int .i64 n.2] 131)).trans (hp.below hoD (by simp; omega))
          have e1 : (dappOp _ _ _).run Tryz.prog _ = _ := hp.run
          simp only [World.size_alloc] at e1
          have hp' := Lib.hid hp.own
          rw [ht'.out] at hp'
          clear he hoC hoD hbC hbD hp
          cases dn
          · have hb2 := hb rfl
            clear hb
            go_wp2_with fail
            go_roundw
            case rel => exact ⟨k + 1, false, o ++ [(n.1, n.2)], by omega, by go_num, rfl, hdn'.out, by rw [List.length_append]; exact hp'.out, rput_stay hdk'.out ha'.out (by rw [← ht'.out]; exact of_decide_eq_false he'.out) hR'.out, by simp; omega, hB2⟩
            case measure => simp [intOf]; omega
          · clear hb
            go_wp2_with fail
            go_roundw
            case rel => exact ⟨k + 1, true, o ++ [(n.1, n.2)], by omega, by go_num, rfl, hdn'.out, by rw [List.length_append]; exact hp'.out, rput_stay hdk'.out ha'.out (by rw [← ht'.out]; exact of_decide_eq_false he'.out) hR'.out, by simp; omega, hB2⟩
            case measure => simp [intOf]; omega
        · rw [he] at hse hne
          have he' := Lib.hid he
          have hoC' := Lib.hid hoC
          clear he hoC hbC
          cases dn
          · have hb2 := hb rfl
            clear hb
            go_wp2_with fail
            go_roundw
            case rel => exact ⟨k + 1, false, o, by omega, by go_num, rfl, hdn'.out, hoC'.out, rput_skip hdk'.out ha'.out (by rw [← ht'.out]; exact of_decide_eq_true he'.out) hR'.out, by omega, hBn⟩
            case measure => simp [intOf]; omega
          · clear hb
            go_wp2_with fail
            go_roundw
            case rel => exact ⟨k + 1, true, o, by omega, by go_num, rfl, hdn'.out, hoC'.out, rput_skip hdk'.out ha'.out (by rw [← ht'.out]; exact of_decide_eq_true he'.out) hR'.out, by omega, hBn⟩
            case measure => simp [intOf]; omega
      · obtain rfl := hzs'.out (hdn'.out rfl)
        have hen : decide (t.data.toList = s.data.toList) = false := decide_eq_false (fun e => by rw [← ht'.out, e] at ha; exact lt_irr _ ha)
        rw [hen] at hse hne
        have hoD := hoC.alloc (.cells #[.string s, .int .i64 fi] 131)
        have hbD := Blk.new (wr.alloc (.cells #[.string t, .int .i64 n.2] 131)) 131 #[.string s, .int .i64 fi]
        rw [strV_mk] at hbD
        obtain ⟨p2, c2, w2, hp⟩ := npush hoD (by omega) (by simp; omega) hbD
        rw [← strV_mk] at hp
        have hlo := (hown'.out.lt)
        have hbC2 := (hbC.alloc (.cells #[.string s, .int .i64 fi] 131)).grown hp.grow (fun e => by have := (hlo _ e.symm).2; omega)
        have hB2 := (hBn.alloc (by simp; omega) (.cells #[.string s, .int .i64 fi] 131)).trans (hp.below hoD (by simp; omega))
        have e1 : (dappOp _ _ _).run Tryz.prog _ = _ := hp.run
        simp only [World.size_alloc] at e1
        have hpo := hp.own
        have hz2 := hB2.size
        have hoE := hpo.alloc (.cells #[.string t, .int .i64 n.2] 131)
        have hbE := Blk.new w2 131 #[.string t, .int .i64 n.2]
        rw [strV_mk] at hbE
        have hlen : o.length + 1 = (o ++ [(s.data.toList, fi)]).length := by simp
        rw [hlen] at hoE
        obtain ⟨p3, c3, w3, hq⟩ := npush hoE (by simp; omega) (by simp; omega) hbE
        have hB3 := (hB2.alloc hz2 (.cells #[.string t, .int .i64 n.2] 131)).trans (hq.below hoE (by simp; omega))
        rw [← hlen] at hq
        have e2 : (dappOp _ _ _).run Tryz.prog _ = _ := hq.run
        have qC := hbC2.cell
        have hq' := Lib.hid hq.own
        have ha' := Lib.hid ha
        clear hq hp hpo hoE hbE hoD hbD hoC hbC hbC2 hlen hen ha hls
        go_wp2_with fail
        go_roundw
        case rel => exact ⟨k + 1, true, (o ++ [(s.data.toList, fi)]) ++ [(n.1, n.2)], by omega, by go_num, rfl, fun e => (by cases e), by have := hq'.out; rw [ht'.out, List.length_append] at this; rw [List.length_append, List.length_append]; exact this, rput_both hdk'.out ha'.out hR'.out, by simp; omega, hB3⟩
        case measure => simp [intOf]; omega
    · have hkd : d.length ≤ k := by omega
      have hRe := hR'.out
      rw [List.drop_eq_nil_of_le hkd] at hRe
      cases dn
      · have hRe' : o ++ [(s.data.toList, fi)] = rput s.data.toList fi b0 d := hRe
        obtain rfl := hzs'.out (hdn'.out rfl)
        have hoD := hown'.out.alloc (.cells #[.string s, .int .i64 fi] 131)
        have hbD := Blk.new wr 131 #[.string s, .int .i64 fi]
        rw [strV_mk] at hbD
        obtain ⟨p2, c2, w2, hp⟩ := npush hoD (by omega) (by simp; omega) hbD
        have hB2 := (hB.alloc hzB (.cells #[.string s, .int .i64 fi] 131)).trans (hp.below hoD (by simp; omega))
        have e1 : (dappOp _ _ _).run Tryz.prog _ = _ := hp.run
        have hpo := hp.own
        rw [hRe'] at hpo
        have hl : o.length + 1 = (rput s.data.toList fi b0 d).length := by rw [← hRe']; simp
        rw [hl] at hpo
        have hp' := Lib.hid hpo
        have hl' := Lib.hid hl
        clear hp hbD hoD hRe hRe' hpo hl
        go_wp2_with fail
        go_ret
        have X : SetPost w (rput s.data.toList fi b0 d) (.returned (.slice p2 (o.length + 1) c2)) w2 := by
          rw [hl'.out]
          exact ⟨_, rfl, DirAt.of_own hp'.out, fun g hg => (hp'.out.lt g hg).1, hB2⟩
        exact X
      · have hRe' : o = rput s.data.toList fi b0 d := by rw [← hRe]; exact (List.append_nil o).symm
        have hRh := Lib.hid hRe'
        clear hRe hRe'
        go_wp2_with fail
        go_ret
        have ho2 := hown'.out
        exact ⟨_, rfl, by rw [← hRh.out]; exact DirAt.of_own ho2, fun g hg => (ho2.lt g hg).1, hB⟩
end Go.Proofs.YtabcdodjkfknlaaGreatDoor
namespace Go.Proofs.YtabcdodjkfknlaaGreatDoor
open Go.RowKit Go.Maps Go.Shelf
def DataAt (w : World) (v : Value) (l : List UInt8) : Prop := RowAt w 5 v l.length (bcells l)
theorem DataAt.bytes {w : World} {v : Value} {l : List UInt8} (h : DataAt w v l) : Bytes w v l := by
  rcases h with ⟨rfl, h⟩ | ⟨g, c, cur, rfl, hc, hl, h⟩
  · exact .inl (.inl ⟨rfl, List.eq_nil_of_length_eq_zero h⟩)
  · refine .inl (.inr ⟨g, 0, c, rfl, hc, fun i x hx => ?_⟩)
    rw [Nat.zero_add, hl.cell]
    exact h i _ (by rw [bcells_get, hx]; rfl)
theorem kset (w : World) (g i : Nat) (u : Value) : Keeps (fun j => j = g) w (w.setCell ⟨g, i, none⟩ u) := (Keeps.refl (fun j => j = g) w).setCell (p := ⟨g, i, none⟩) (.inl rfl) u
def rdset (g : Nat) (vF vD vS vA : Value) (dv : List Value) : Nat → Prop := fun j => j = g ∨ vF.ownBlock = some j ∨ vA.ownBlock = some j ∨ vD.ownBlock = some j ∨ vS.ownBlock = some j ∨ ∃ u ∈ dv, u.ownBlock = some j
/-- the rows of a disk -/
structure RRest (w : World) (B : Nat) (vF vD vS vA : Value) (dv : List Value) (F : List File) (d s : RDir) (A : List RAct) : Prop where
  files : w.ownsRow B 160 2 vF F.length (fcells dv F)
  len : dv.length = F.length
  data : ∀ (i : Nat) (x : File), F[i]? = some x → ∃ u : Value, dv[i]? = some u ∧ DataAt w u x.data
  dir : DirAt w vD d
  safe : DirAt w vS s
  acts : w.ownsRow B 158 3 vA A.length (racells A)
structure RDat (w : World) (B g : Nat) (vF vD vS vA : Value) (dv : List Value) (r : RD) : Prop where
  blk : Blk w g 129 #[.int .i64 r.cap, .bool r.down, .int .i64 r.left, vF, vD, vS, vA]
  rest : RRest w B vF vD vS vA dv r.files r.dir r.safe r.acts
  low : ∀ j, rdset g vF vD vS vA dv j → B ≤ j
section
variable {w w' : World} {B g : Nat} {vF vD vS vA : Value} {dv : List Value} {F : List File} {d s : RDir} {A : List RAct} {r : RD} {S : Nat → Prop}
theorem RRest.datum (h : RRest w B vF vD vS vA dv F d s A) : ∀ u ∈ dv, ∃ x, DataAt w u x := by
  intro u hu
  obtain ⟨i, hi⟩ := List.getElem?_of_mem hu
  have hl := (List.getElem?_eq_some_iff.1 hi).1
  obtain ⟨u', h1, h2⟩ := h.data i _ (List.getElem?_eq_getElem (by rw [← h.len]; exact hl))
  rw [hi] at h1
  obtain rfl := Option.some.inj h1
  exact ⟨_, h2⟩
theorem RRest.keeps (h : RRest w B vF vD vS vA dv F d s A) (hk : Keeps S w w') (hs : ∀ j, S j → vF.ownBlock ≠ some j ∧ vA.ownBlock ≠ some j ∧ vD.ownBlock ≠ some j ∧ vS.ownBlock ≠ some j ∧ ∀ u ∈ dv, u.ownBlock ≠ some j) : RRest w' B vF vD vS vA dv F d s A :=
  ⟨own_keeps h.files hk fun j hj e => (hs j e).1 hj, h.len, fun i x hx => by
    obtain ⟨u, h1, h2⟩ := h.data i x hx
    exact ⟨u, h1, RowAt.keeps h2 hk fun j hj e => (hs j e).2.2.2.2 u (List.mem_of_getElem? h1) hj⟩, h.dir.keeps hk fun j hj e => (hs j e).2.2.1 hj, h.safe.keeps hk fun j hj e => (hs j e).2.2.2.1 hj, own_keeps h.acts hk fun j hj e => (hs j e).2.1 hj⟩
theorem RRest.later (h : RRest w B vF vD vS vA dv F d s A) (hb : Below w.heap.size w w') : RRest w' B vF vD vS vA dv F d s A := h.keeps (S := fun _ => False) (.of_below hb) (fun _ e => e.elim)
/-- none of the rows is that block -/
theorem RRest.far {t : TypeId} {cs : Array Value} (h : RRest w B vF vD vS vA dv F d s A) (hb : Blk w g t cs) (ht : t ≠ 160 ∧ t ≠ 158 ∧ t ≠ 131 ∧ t ≠ 5) : vF.ownBlock ≠ some g ∧ vA.ownBlock ≠ some g ∧ vD.ownBlock ≠ some g ∧ vS.ownBlock ≠ some g ∧ ∀ u ∈ dv, u.ownBlock ≠ some g := by
  refine ⟨fun e => ?_, fun e => ?_, fun e => ?_, fun e => ?_, fun u hu e => ?_⟩
  · obtain ⟨c, h1⟩ := own_blk h.files g e; exact h1.ne_ hb (Ne.symm ht.1) rfl
  · obtain ⟨c, h1⟩ := own_blk h.acts g e; exact h1.ne_ hb (Ne.symm ht.2.1) rfl
  · obtain ⟨c, h1⟩ := RowAt.blk h.dir g e; exact h1.ne_ hb (Ne.symm ht.2.2.1) rfl
  · obtain ⟨c, h1⟩ := RowAt.blk h.safe g e; exact h1.ne_ hb (Ne.symm ht.2.2.1) rfl
  · obtain ⟨x, h0⟩ := h.datum u hu
    obtain ⟨c, h1⟩ := RowAt.blk h0 g e; exact h1.ne_ hb (Ne.symm ht.2.2.2) rfl
theorem RDat.far (h : RDat w B g vF vD vS vA dv r) : vF.ownBlock ≠ some g ∧ vA.ownBlock ≠ some g ∧ vD.ownBlock ≠ some g ∧ vS.ownBlock ≠ some g ∧ ∀ u ∈ dv, u.ownBlock ≠ some g := h.rest.far h.blk (by decide)
theorem RDat.farF (h : RDat w B g vF vD vS vA dv r) {j : Nat} (hj : vF.ownBlock = some j) : j ≠ g ∧ vA.ownBlock ≠ some j ∧ vD.ownBlock ≠ some j ∧ vS.ownBlock ≠ some j ∧ ∀ u ∈ dv, u.ownBlock ≠ some j := by
  obtain ⟨c, hb⟩ := own_blk h.rest.files j hj
  refine ⟨hb.ne_ h.blk (by decide), fun e => ?_, fun e => ?_, fun e => ?_, fun u hu e => ?_⟩
  · obtain ⟨c, h1⟩ := own_blk h.rest.acts j e; exact h1.ne_ hb (by decide) rfl
  · obtain ⟨c, h1⟩ := RowAt.blk h.rest.dir j e; exact h1.ne_ hb (by decide) rfl
  · obtain ⟨c, h1⟩ := RowAt.blk h.rest.safe j e; exact h1.ne_ hb (by decide) rfl
  · obtain ⟨x, h0⟩ := h.rest.datum u hu
    obtain ⟨c, h1⟩ := RowAt.blk h0 j e; exact h1.ne_ hb (by decide) rfl
theorem RDat.farA (h : RDat w B g vF vD vS vA dv r) {j : Nat} (hj : vA.ownBlock = some j) : j ≠ g ∧ vF.ownBlock ≠ some j ∧ vD.ownBlock ≠ some j ∧ vS.ownBlock ≠ some j ∧ ∀ u ∈ dv, u.ownBlock ≠ some j := by
  obtain ⟨c, hb⟩ := own_blk h.rest.acts j hj
  refine ⟨hb.ne_ h.blk (by decide), fun e => ?_, fun e => ?_, fun e => ?_, fun u hu e => ?_⟩
  · obtain ⟨c, h1⟩ := own_blk h.rest.files j e; exact h1.ne_ hb (by decide) rfl
  · obtain ⟨c, h1⟩ := RowAt.blk h.rest.dir j e; exact h1.ne_ hb (by decide) rfl
  · obtain ⟨c, h1⟩ := RowAt.blk h.rest.safe j e; exact h1.ne_ hb (by decide) rfl
  · obtain ⟨x, h0⟩ := h.rest.datum u hu
    obtain ⟨c, h1⟩ := RowAt.blk h0 j e; exact h1.ne_ hb (by decide) rfl
theorem RDat.lt (h : RDat w B g vF vD vS vA dv r) : ∀ j, rdset g vF vD vS vA dv j → B ≤ j ∧ j < w.heap.size := by
  intro j hj
  refine ⟨h.low j hj, ?_⟩
  rcases hj with rfl | e | e | e | e | ⟨u, hu, e⟩
  · exact h.blk.lt
  · exact (h.rest.files.lt j e).2
  · exact (h.rest.acts.lt j e).2
  · exact h.rest.dir.lt j e
  · exact h.rest.safe.lt j e
  · obtain ⟨x, h0⟩ := h.rest.datum u hu
    exact RowAt.lt h0 j e
theorem RDat.keeps (h : RDat w B g vF vD vS vA dv r) (hk : Keeps S w w') (hs : ∀ j, rdset g vF vD vS vA dv j → ¬ S j) : RDat w' B g vF vD vS vA dv r :=
  ⟨h.blk.keeps hk (hs g (.inl rfl)), h.rest.keeps hk fun j e => ⟨fun hj => hs j (.inr (.inl hj)) e, fun hj => hs j (.inr (.inr (.inl hj))) e, fun hj => hs j (.inr (.inr (.inr (.inl hj)))) e, fun hj => hs j (.inr (.inr (.inr (.inr (.inl hj))))) e, fun u hu hj => hs j (.inr (.inr (.inr (.inr (.inr ⟨u, hu, hj⟩))))) e⟩, h.low⟩
theorem RDat.later (h : RDat w B g vF vD vS vA dv r) (hb : Below w.heap.size w w') : RDat w' B g vF vD vS vA dv r := h.keeps (S := fun _ => False) (.of_below hb) (fun _ _ => id)
/-- a store into the struct -/
theorem RDat.rest_set (h : RDat w B g vF vD vS vA dv r) (i : Nat) (u : Value) : RRest (w.setCell ⟨g, i, none⟩ u) B vF vD vS vA dv r.files r.dir r.safe r.acts :=
  h.rest.keeps (S := fun j => j = g) (kset w g i u) fun j e => by obtain rfl := e; exact h.far
end
/-- a disk, whatever its blocks: those of O -/
def RDisk (w : World) (B g : Nat) (O : Nat → Prop) (r : RD) : Prop := ∃ vF vD vS vA dv, RDat w B g vF vD vS vA dv r ∧ O = rdset g vF vD vS vA dv
/-- what a call leaves of it -/
def RGoes (w : World) (B g : Nat) (O : Nat → Prop) (r' : RD) (w' : World) : Prop := (∃ O', RDisk w' B g O' r' ∧ ∀ j, O' j → O j ∨ w.heap.size ≤ j) ∧ Keeps O w w'
section
variable {w w1 w' : World} {B g : Nat} {O : Nat → Prop} {r r1 r' : RD}
theorem RDisk.lt (h : RDisk w B g O r) : ∀ j, O j → B ≤ j ∧ j < w.heap.size := by
  obtain ⟨vF, vD, vS, vA, dv, h1, rfl⟩ := h
  exact h1.lt
theorem RDisk.keeps {S : Nat → Prop} (h : RDisk w B g O r) (hk : Keeps S w w') (hs : ∀ j, O j → ¬ S j) : RDisk w' B g O r := by
  obtain ⟨vF, vD, vS, vA, dv, h1, rfl⟩ := h
  exact ⟨vF, vD, vS, vA, dv, h1.keeps hk hs, rfl⟩
theorem RDisk.later (h : RDisk w B g O r) (hb : Below w.heap.size w w') : RDisk w' B g O r := h.keeps (S := fun _ => False) (.of_below hb) (fun _ _ => id)
theorem RGoes.same (h : RDisk w' B g O r) (hk : Keeps O w w') : RGoes w B g O r w' := ⟨⟨O, h, fun _ h => .inl h⟩, hk⟩
theorem RGoes.at (hb : Below w.heap.size w w1) (h : RGoes w1 B g O r w') : RGoes w B g O r w' := by
  obtain ⟨⟨O', h1, h2⟩, h3⟩ := h
  have := hb.size
  exact ⟨⟨O', h1, fun j hj => (h2 j hj).imp id (fun h => by omega)⟩, (Keeps.of_below hb).trans h3⟩
theorem RGoes.later (h : RGoes w B g O r w1) (hb : Below w1.heap.size w1 w') : RGoes w B g O r w' := by
  obtain ⟨⟨O', h1, h2⟩, h3⟩ := h
  exact ⟨⟨O', h1.later hb, h2⟩, h3.trans (.of_below hb)⟩
end
end Go.Proofs.YtabcdodjkfknlaaGreatDoor
