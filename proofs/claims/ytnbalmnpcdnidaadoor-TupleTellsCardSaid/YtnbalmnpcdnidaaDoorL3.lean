/- The law TupleReads: the walk. -/
import Derived.Test.YtnbalmnpcdnidaaDoorW13
import Derived.Test.YtnbalmnpcdnidaaDoorEql
import Derived.Test.YtnbalmnpcdnidaaDoorFix
namespace Go.Proofs.YtnbalmnpcdnidaaDoor
open Go.RowKit
attribute [local go_sem ↓] eql_tup
def rTup (s : ByteArray) : Tup := if rOk s then rT s else Tup.zero
def rErr (s : ByteArray) : Int := if rOk s then 0 else 9
def uTup (s : ByteArray) : Tup := if uOk s then uT s else Tup.zero
def uErr (s : ByteArray) : Int := if uOk s then 0 else 9
theorem rV_eq (s : ByteArray) : rV s = .tuple #[(rTup s).v, .int .i64 (rErr s)] := by
  unfold rV rTup rErr; split <;> rfl
theorem uV_eq (s : ByteArray) : uV s = .tuple #[(uTup s).v, .int .i64 (uErr s)] := by
  unfold uV uTup uErr; split <;> rfl
set_option maxHeartbeats 2000000 in
set_option maxRecDepth 100000 in
theorem tupleReads_calls (s : ByteArray) (m : Int) (w : World) (hs : s.size ≤ maxLen) (hm : w.cell? ⟨0, 0, none⟩ = some (.int .i64 m)) :
    Calls Tryd.prog 3 #[.string s] w fun e w' => e = .returned (.bool true) ∧ Below w.heap.size w w' := by
  have hg : 0 < w.heap.size := World.block_lt_of_cell? w _ hm
  have hm' := Lib.hid hm
  clear hm
  by_cases h5 : (500 : Int) < s.size
  · go_enter Tryd.func3, Tryd.ntmps3
    go_wp2_with fail
    refine (fixed_calls _).mono ?_
    rintro e w1 ⟨rfl, hb1⟩
    go_wp2
    go_ret
    exact ⟨rfl, hb1⟩
  go_enter Tryd.func3, Tryd.ntmps3
  go_wp2_with fail
  refine (fixed_calls _).mono ?_
  rintro e w1 ⟨rfl, B1⟩
  have l1 := B1.size
  go_wp2_with fail
  refine (parse_calls s _ hs).mono ?_
  rw [parse_eq, rV_eq]
  rintro e w2 ⟨rfl, hb2⟩
  have B2 := B1.trans (hb2.mono l1)
  have l2 := B2.size
  clear B1 hb2 l1
  go_wp2_with fail
  have k2 := Blk.new w2 28 #[.string (rTup s).a, .string (rTup s).b, .string (rTup s).c, .string (rTup s).d, .string (rTup s).e, .string (rTup s).f]
  refine (refParse_calls s _ hs).mono ?_
  rw [rV_eq]
  rintro e w3 ⟨rfl, hb3⟩
  have k3 := k2.below hb3 (by simp)
  have B3 := (B2.alloc l2 _).trans (hb3.mono (by simp; omega))
  have l3 : w2.heap.size < w3.heap.size := by have := hb3.size; simp at this; omega
  clear k2 hb3 B2
  go_wp2_with fail
  have k4 := Blk.new w3 28 #[.string (rTup s).a, .string (rTup s).b, .string (rTup s).c, .string (rTup s).d, .string (rTup s).e, .string (rTup s).f]
  have lb3 := B3.size
  have B3a := B3.alloc lb3 (.cells #[.string (rTup s).a, .string (rTup s).b, .string (rTup s).c, .string (rTup s).d, .string (rTup s).e, .string (rTup s).f] 28)
  refine (unkey_calls s m _ (by omega) ((B3a.cell (p := ⟨0, 0, none⟩) hg).trans hm'.out)).mono ?_
  rw [unkey_eq, uV_eq]
  rintro e w4 ⟨rfl, hb4⟩
  have k3 := (k3.alloc (.cells #[.string (rTup s).a, .string (rTup s).b, .string (rTup s).c, .string (rTup s).d, .string (rTup s).e, .string (rTup s).f] 28)).below hb4 (by simp; omega)
  have k4 := k4.below hb4 (by simp)
  have B4 := B3a.trans (hb4.mono (by simp; omega))
  have l4 : w3.heap.size < w4.heap.size := by have := hb4.size; simp at this; omega
  clear hb4 B3 B3a lb3
  go_wp2_with fail
  have k5 := Blk.new w4 28 #[.string (uTup s).a, .string (uTup s).b, .string (uTup s).c, .string (uTup s).d, .string (uTup s).e, .string (uTup s).f]
  have k3 := k3.alloc (.cells #[.string (uTup s).a, .string (uTup s).b, .string (uTup s).c, .string (uTup s).d, .string (uTup s).e, .string (uTup s).f] 28)
  have k4 := k4.alloc (.cells #[.string (uTup s).a, .string (uTup s).b, .string (uTup s).c, .string (uTup s).d, .string (uTup s).e, .string (uTup s).f] 28)
  have lb4 := B4.size
  refine (refUnkey_calls s _ hs).mono ?_
  rw [uV_eq]
  rintro e w5 ⟨rfl, hb5⟩
  have k3 := k3.below hb5 (by simp; omega)
  have k4 := k4.below hb5 (by simp; omega)
  have k5 := k5.below hb5 (by simp)
  have B5 := (B4.alloc lb4 _).trans (hb5.mono (by simp; omega))
  have l5 : w4.heap.size < w5.heap.size := by have := hb5.size; simp at this; omega
  have c3 := k3.cell
  have c4 := k4.cell
  have c5 := k5.cell
  have m3 : w3.heap.size < w5.heap.size := by omega
  have m2 : w2.heap.size < w5.heap.size := by omega
  have s1 := same_self (rTup s).a (rTup s).b (rTup s).c (rTup s).d (rTup s).e (rTup s).f
  have s2 := same_self (uTup s).a (uTup s).b (uTup s).c (uTup s).d (uTup s).e (uTup s).f
  have lb5 := B5.size
  clear hb5 B4 k3 k4 k5 lb4
  go_wp2_with (first | (go_at_call 14; refine (isName_calls s _ hs).mono ?_; rintro e w6 ⟨rfl, rfl⟩) | (go_at_call 15; refine (refIsName_calls s _ hs).mono ?_; rintro e w6 ⟨rfl, rfl⟩))
  go_ret
  exact ⟨rfl, B5.alloc lb5 _⟩
end Go.Proofs.YtnbalmnpcdnidaaDoor
