/- The law IndexKeys: the walk. -/
import Derived.Test.YtnbalmnpcdnidaaDoorW16
import Derived.Test.YtnbalmnpcdnidaaDoorFew24
import Derived.Test.YtnbalmnpcdnidaaDoorEql
namespace Go.Proofs.YtnbalmnpcdnidaaDoor
open Go.RowKit
attribute [local go_sem ↓] eql_tup
theorem fKey_le {t : Tup} (h : t.ok = true) : (fKey t).size ≤ 500 := by
  have := key_len h
  unfold fKey
  rw [ByteArray.size_append]
  show 1 + _ ≤ _
  omega
theorem rKey_le {t : Tup} (h : t.ok = true) : (rKey t).size ≤ 500 := by
  have := rB_le h 6
  rw [rB_6] at this
  omega
set_option maxHeartbeats 4000000 in
set_option maxRecDepth 100000 in
theorem indexKeys_calls (t : Tup) (m : Int) (w : World) (ht : t.fits) (hm : w.cell? ⟨0, 0, none⟩ = some (.int .i64 m)) :
    Calls Tryd.prog 6 #[t.v] w fun e w' => e = .returned (.bool true) ∧ Below w.heap.size w w' := by
  have hg : 0 < w.heap.size := World.block_lt_of_cell? w _ hm
  have hm' := Lib.hid hm
  unfold Tup.v
  go_enter Tryd.func6, Tryd.ntmps6
  go_wp2_with fail
  refine (fixed24_calls m _ ((((Below.refl w.heap.size w).alloc (Nat.le_refl _) _).cell (p := ⟨0, 0, none⟩) hg).trans hm'.out)).mono ?_
  clear hm
  rintro e w1 ⟨rfl, hb1⟩
  have b := (Blk.new w 28 #[.string t.a, .string t.b, .string t.c, .string t.d, .string t.e, .string t.f]).below hb1 (by simp)
  have B1 := ((Below.refl w.heap.size w).alloc (Nat.le_refl _) _).trans (hb1.mono (by simp))
  have l1 : w.heap.size < w1.heap.size := by have := hb1.size; simp at this; omega
  clear hb1
  have bc := b.cell
  go_wp2_with fail
  refine (few24_one t _ ht).mono ?_
  rintro e w2 ⟨rfl, hb2⟩
  have b := (b.alloc (.cells #[.string t.a, .string t.b, .string t.c, .string t.d, .string t.e, .string t.f] 28)).below hb2 (by omega)
  have B2 := (B1.alloc (by omega) _).trans (hb2.mono (by omega))
  have l2 : w.heap.size < w2.heap.size := by have := hb2.size; simp at this; omega
  clear bc hb2 B1 l1
  cases hfew : t.few
  · go_wp2
    go_ret
    exact ⟨rfl, B2⟩
  have bc := b.cell
  cases hok : t.ok
  · have e1 : t.check = 2 := by simp [Tup.check, hok]
    go_wp2_with fail
    refine (keys_no t _ ht hok).mono ?_
    rintro e w3 ⟨rfl, hb3⟩
    have b := b.below hb3 (by omega)
    have B3 := B2.trans (hb3.mono (by omega))
    have l3 : w.heap.size < w3.heap.size := by have := hb3.size; omega
    clear bc hb3 B2 l2
    have bc := b.cell
    go_wp2_with fail
    refine (refCheck_calls t _ ht).mono ?_
    rw [e1]
    rintro e w4 ⟨rfl, hb4⟩
    have B4 := B3.trans (hb4.mono (by omega))
    clear bc hb4 B3 l3
    go_wp2
    go_ret
    exact ⟨rfl, B4⟩
  have e1 : t.check = 0 := by simp [Tup.check, hok]
  go_wp2_with fail
  refine (keys_yes t _ ht hok).mono ?_
  unfold KeysPost
  rintro e w3 ⟨g, rfl, k, hgl, hb3⟩
  have b := b.below hb3 (by omega)
  have B3 := B2.trans (hb3.mono (by omega))
  have l3 : w.heap.size < w3.heap.size := by have := hb3.size; omega
  clear bc hb3 B2
  have bc := b.cell
  go_wp2_with fail
  refine (refCheck_calls t _ ht).mono ?_
  rw [e1]
  rintro e w4 ⟨rfl, hb4⟩
  have b := b.below hb4 (by omega)
  have k := k.below hb4 k.lt
  have B4 := B3.trans (hb4.mono (by omega))
  have l4 : w.heap.size < w4.heap.size := by have := hb4.size; omega
  clear bc hb4 B3 l3
  have bc := b.cell
  go_wp2_with fail
  refine (refKeys_calls t _ hok).mono ?_
  unfold RKeysPost
  rintro e w5 ⟨g', rfl, k', hgl', hb5⟩
  have b := b.below hb5 (by omega)
  have k := k.below hb5 k.lt
  have B5 := B4.trans (hb5.mono (by omega))
  have l5 : w.heap.size < w5.heap.size := by have := hb5.size; omega
  clear bc hb5 B4 l4
  have bc := b.cell
  have z1 := fKey_le hok
  have z2 := rKey_le hok
  have v1 := iV_f hok
  have v2 := iV_r hok
  generalize fKey t = F at *
  generalize rKey t = R at *
  have kc := k.cell
  have kc' := k'.cell
  have kl := k.lt
  have kl' := k'.lt
  have q1 : (F.toList == F.toList) = true := by simp
  have q2 : (R.toList == R.toList) = true := by simp
  go_wp2_with fail
  go_quiet (fail)
  rename_i nq
  have b := b.drewN nq
  have k := k.drewN nq
  have B5 := bdrewN B5 nq
  have l5' : w.heap.size < (w5.drewN nq).heap.size := l5
  generalize w5.drewN nq = wd at *
  clear bc kc kc' k' l5 hgl hgl'
  have bc := b.cell
  have kc := k.cell
  have kl := k.lt
  go_wp2_with fail
  refine (iTuple_calls F m _ z1 ((B5.cell (p := ⟨0, 0, none⟩) hg).trans hm'.out)).mono ?_
  rw [v1]
  rintro e w6 ⟨rfl, hb6⟩
  have b := b.below hb6 b.lt
  have k := k.below hb6 k.lt
  have B6 := B5.trans (hb6.mono (by omega))
  have l6 : w.heap.size < w6.heap.size := by have := hb6.size; omega
  clear bc kc kl hb6 B5 l5'
  have bc := b.cell
  have kc := k.cell
  have kl := k.lt
  go_wp2_with fail
  have k7 := Blk.new w6 28 #[.string t.a, .string t.b, .string t.c, .string t.d, .string t.e, .string t.f]
  have b := b.alloc (.cells #[.string t.a, .string t.b, .string t.c, .string t.d, .string t.e, .string t.f] 28)
  have B6a := B6.alloc (by omega) (.cells #[.string t.a, .string t.b, .string t.c, .string t.d, .string t.e, .string t.f] 28)
  refine (iTuple_calls R m _ z2 ((B6a.cell (p := ⟨0, 0, none⟩) hg).trans hm'.out)).mono ?_
  rw [v2]
  rintro e w7 ⟨rfl, hb7⟩
  have b := b.below hb7 (by simp; omega)
  have k7 := k7.below hb7 (by simp)
  have B7 := B6a.trans (hb7.mono (by simp; omega))
  have l7 : w6.heap.size < w7.heap.size := by have := hb7.size; simp at this; omega
  have l8 : w.heap.size < w7.heap.size := by omega
  clear bc kc kl hb7 B6a k
  have bc := b.cell
  have c7 := k7.cell
  have q2 := same_self t.a t.b t.c t.d t.e t.f
  go_wp2
  go_ret
  exact ⟨rfl, B7.alloc (by omega) _⟩
end Go.Proofs.YtnbalmnpcdnidaaDoor
