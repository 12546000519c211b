/- The law TupleTells: the walk. -/
import Derived.Test.YtnbalmnpcdnidaaDoorL3
namespace Go.Proofs.YtnbalmnpcdnidaaDoor
open Go.RowKit
attribute [local go_sem ↓] eql_tup
def Tup.printS (t : Tup) : ByteArray := if t.ok then t.print else ⟨#[]⟩
theorem print_calls (t : Tup) (w : World) (hs : t.fits) :
    Calls Tryd.prog 21 #[t.v] w fun e w' => e = .returned (.tuple #[.string t.printS, .int .i64 t.check]) ∧ Below w.heap.size w w' := by
  cases hc : t.ok
  · have e1 : t.check = 2 := by simp [Tup.check, hc]
    have e2 : t.printS = ⟨#[]⟩ := by simp [Tup.printS, hc]
    rw [e1, e2]; exact print_no t w hs hc
  · have e1 : t.check = 0 := by simp [Tup.check, hc]
    have e2 : t.printS = t.print := by simp [Tup.printS, hc]
    rw [e1, e2]; exact print_yes t w hs hc
theorem parseV_print {t : Tup} (h : t.ok = true) : parseV t.print = .tuple #[t.v, .int .i64 0] := by
  obtain ⟨h1, h2⟩ := parse_print h
  unfold parseV; rw [h2, if_pos rfl, h1]
theorem kV_key {t : Tup} (h : t.ok = true) : kV t.key = .tuple #[t.v, .int .i64 0] := by
  rw [unkey_eq]
  have h1 := uT_key h
  have h2 : uOk t.key = true := by
    simp only [uOk, Bool.and_eq_true]
    rw [h1]
    exact ⟨h, by simp⟩
  unfold uV; rw [h2, if_pos rfl, h1]
theorem print_size {t : Tup} (h : t.ok = true) : t.print.size ≤ maxLen := by
  obtain ⟨h0, h1, h2, h3, h4, h5⟩ := Tup.ok_le h
  have e := print_data t
  rw [Lib.size_eq, e]
  rw [Lib.size_eq] at h0 h1 h2 h3 h4 h5
  unfold maxLen printL
  have : (if t.f.data.toList = [] then [] else 35 :: t.f.data.toList).length ≤ 33 := by
    generalize t.f.data.toList = l at h5
    cases l <;> simp at h5 ⊢ <;> omega
  simp only [List.length_append, List.length_cons]
  omega
set_option maxHeartbeats 4000000 in
set_option maxRecDepth 100000 in
theorem tupleTells_calls (t : Tup) (m : Int) (w : World) (ht : t.fits) (hm : w.cell? ⟨0, 0, none⟩ = some (.int .i64 m)) :
    Calls Tryd.prog 5 #[t.v] w fun e w' => e = .returned (.bool true) ∧ Below w.heap.size w w' := by
  have hg : 0 < w.heap.size := World.block_lt_of_cell? w _ hm
  have hm' := Lib.hid hm
  clear hm
  unfold Tup.v
  go_enter Tryd.func5, Tryd.ntmps5
  go_wp2_with fail
  refine (fixed_calls _).mono ?_
  rintro e w1 ⟨rfl, hb1⟩
  have b := (Blk.new w 28 #[.string t.a, .string t.b, .string t.c, .string t.d, .string t.e, .string t.f]).below hb1 (by simp)
  have B1 := ((Below.refl w.heap.size w).alloc (Nat.le_refl _) _).trans (hb1.mono (by simp))
  have l1 : w.heap.size < w1.heap.size := by have := hb1.size; simp at this; omega
  clear hb1
  have bc := b.cell
  go_wp2_with fail
  refine (few_one t _ ht).mono ?_
  rintro e w2 ⟨rfl, hb2⟩
  have b := (b.alloc (.cells #[.string t.a, .string t.b, .string t.c, .string t.d, .string t.e, .string t.f] 28)).below hb2 (by omega)
  have B2 := (B1.alloc (by omega) _).trans (hb2.mono (by omega))
  have l2 : w.heap.size < w2.heap.size := by have := hb2.size; simp at this; omega
  clear bc hb2 B1 l1
  cases hfew : t.few
  · go_wp2
    go_ret
    exact ⟨rfl, B2⟩
  have bc := b.cell
  go_wp2_with fail
  refine (refCheck_calls t _ ht).mono ?_
  rintro e w3 ⟨rfl, hb3⟩
  have b := b.below hb3 (by omega)
  have B3 := B2.trans (hb3.mono (by omega))
  have l3 : w.heap.size < w3.heap.size := by have := hb3.size; omega
  clear bc hb3 B2 l2
  have bc := b.cell
  go_wp2_with fail
  refine (print_calls t _ ht).mono ?_
  rintro e w4 ⟨rfl, hb4⟩
  have b := b.below hb4 (by omega)
  have B4 := B3.trans (hb4.mono (by omega))
  have l4 : w.heap.size < w4.heap.size := by have := hb4.size; omega
  clear bc hb4 B3 l3
  have bc := b.cell
  go_wp2_with fail
  refine (key_calls t _ ht).mono ?_
  rintro e w5 ⟨rfl, hb5⟩
  have b := b.below hb5 (by omega)
  have B5 := B4.trans (hb5.mono (by omega))
  have l5 : w.heap.size < w5.heap.size := by have := hb5.size; omega
  clear bc hb5 B4 l4
  have bc := b.cell
  go_wp2_with fail
  refine (check_calls t _ ht).mono ?_
  rintro e w6 ⟨rfl, hb6⟩
  have b := b.below hb6 (by omega)
  have B6 := B5.trans (hb6.mono (by omega))
  have l6 : w.heap.size < w6.heap.size := by have := hb6.size; omega
  clear bc hb6 B5 l5
  have bc := b.cell
  cases hok : t.ok
  · have e1 : t.check = 2 := by simp [Tup.check, hok]
    have e2 : t.printS = ⟨#[]⟩ := by simp [Tup.printS, hok]
    have e3 : t.keyS = ⟨#[]⟩ := by simp [Tup.keyS, hok]
    rw [e2, e3]
    go_wp2
    go_ret
    exact ⟨rfl, B6⟩
  have e1 : t.check = 0 := by simp [Tup.check, hok]
  have e2 : t.printS = t.print := by simp [Tup.printS, hok]
  have e3 : t.keyS = t.key := by simp [Tup.keyS, hok]
  rw [e2, e3]
  clear e2 e3
  go_wp2_with fail
  refine (parse_calls t.print _ (print_size hok)).mono ?_
  rw [parseV_print hok]
  rintro e w7 ⟨rfl, hb7⟩
  have b := b.below hb7 (by omega)
  have B7 := B6.trans (hb7.mono (by omega))
  have l7 : w.heap.size < w7.heap.size := by have := hb7.size; omega
  clear bc hb7 B6 l6
  have bc := b.cell
  go_wp2_with fail
  have k8 := Blk.new w7 28 #[.string t.a, .string t.b, .string t.c, .string t.d, .string t.e, .string t.f]
  have B7a := B7.alloc (by omega) (.cells #[.string t.a, .string t.b, .string t.c, .string t.d, .string t.e, .string t.f] 28)
  refine (unkey_calls t.key m _ (Nat.le_trans (key_len hok) (by omega)) ((B7a.cell (p := ⟨0, 0, none⟩) hg).trans hm'.out)).mono ?_
  rw [kV_key hok]
  rintro e w8 ⟨rfl, hb8⟩
  have b := (b.alloc (.cells #[.string t.a, .string t.b, .string t.c, .string t.d, .string t.e, .string t.f] 28)).below hb8 (by simp; omega)
  have k8 := k8.below hb8 (by simp)
  have B8 := B7a.trans (hb8.mono (by simp; omega))
  have l8 : w7.heap.size < w8.heap.size := by have := hb8.size; simp at this; omega
  have l8' : w.heap.size < w8.heap.size := by omega
  clear bc hb8 B7a B7
  have bc := b.cell
  go_wp2_with fail
  have k9 := Blk.new w8 28 #[.string t.a, .string t.b, .string t.c, .string t.d, .string t.e, .string t.f]
  have b := b.alloc (.cells #[.string t.a, .string t.b, .string t.c, .string t.d, .string t.e, .string t.f] 28)
  have k8 := k8.alloc (.cells #[.string t.a, .string t.b, .string t.c, .string t.d, .string t.e, .string t.f] 28)
  have B8a := B8.alloc (by omega) (.cells #[.string t.a, .string t.b, .string t.c, .string t.d, .string t.e, .string t.f] 28)
  refine (refPrint_calls t _ hok).mono ?_
  rintro e w9 ⟨rfl, hb9⟩
  have b := b.below hb9 (by simp; omega)
  have k8 := k8.below hb9 (by simp; omega)
  have k9 := k9.below hb9 (by simp)
  have B9 := B8a.trans (hb9.mono (by simp; omega))
  have l9 : w8.heap.size < w9.heap.size := by have := hb9.size; simp at this; omega
  clear bc hb9 B8a B8
  have bc := b.cell
  have q0 : (t.print.toList == t.print.toList) = true := by simp
  go_wp2_with fail
  refine (refKey_calls t _ hok).mono ?_
  rintro e w10 ⟨rfl, hb10⟩
  have b := b.below hb10 (by omega)
  have k8 := k8.below hb10 (by omega)
  have k9 := k9.below hb10 (by omega)
  have B10 := B9.trans (hb10.mono (by omega))
  clear bc hb10 B9
  have bc := b.cell
  have c8 := k8.cell
  have c9 := k9.cell
  have q1 : (t.key.toList == t.key.toList) = true := by simp
  have q2 := same_self t.a t.b t.c t.d t.e t.f
  go_wp2
  go_ret
  exact ⟨rfl, B10⟩
end Go.Proofs.YtnbalmnpcdnidaaDoor
