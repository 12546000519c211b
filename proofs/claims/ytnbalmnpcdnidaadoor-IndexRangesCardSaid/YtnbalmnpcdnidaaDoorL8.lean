/- The law IndexRanges: the walk. -/
import Derived.Test.YtnbalmnpcdnidaaDoorL6
import Derived.Test.YtnbalmnpcdnidaaDoorRange
import Derived.Deep.CutRange
namespace Go.Proofs.YtnbalmnpcdnidaaDoor
open Go.RowKit
def spanP (s : ByteArray) (w : World) (e : Ending) (w' : World) : Prop := e = .returned (.tuple #[.string s, .string (endB s)]) ∧ Below w.heap.size w w'
set_option maxHeartbeats 2000000 in
theorem eql_obj (a b a' b' : ByteArray) (w : World) :
    (binOp .eql 24 (.agg #[.string a, .string b]) (.agg #[.string a', .string b'])).run Tryd.prog w = .ok (.bool (a.toList == a'.toList && b.toList == b'.toList)) w := by
  cases h0 : a.toList == a'.toList
  · simp [go_sem, h0]
  · by_cases h5 : b.toList = b'.toList <;> simp [go_sem, h0, h5]
set_option maxHeartbeats 2000000 in
theorem eql_sub (a b c a' b' c' : ByteArray) (w : World) :
    (binOp .eql 26 (.agg #[.string a, .string b, .string c]) (.agg #[.string a', .string b', .string c'])).run Tryd.prog w = .ok (.bool (a.toList == a'.toList && b.toList == b'.toList && c.toList == c'.toList)) w := by
  cases h0 : a.toList == a'.toList
  · simp [go_sem, h0]
  cases h1 : b.toList == b'.toList
  · simp [go_sem, h0, h1]
  · by_cases h5 : c.toList = c'.toList <;> simp [go_sem, h0, h1, h5]
attribute [local go_sem ↓] eql_obj eql_sub
theorem point_pt (t : Tup) (w : World) (h : t.ok = true) : Calls Tryd.prog 29 #[.agg #[.string t.a, .string t.b], .string t.c] w (spanP (ptB 102 t.a t.b t.c) w) := by
  obtain ⟨h0, h1, h2, h3, h4, h5⟩ := Tup.ok_le h
  exact point_calls t.a t.b t.c w (by omega) (by omega) (by omega)
theorem subject_pt (t : Tup) (w : World) (h : t.ok = true) : Calls Tryd.prog 30 #[.agg #[.string t.d, .string t.e, .string t.f]] w (spanP (ptB 114 t.d t.e t.f) w) := by
  obtain ⟨h0, h1, h2, h3, h4, h5⟩ := Tup.ok_le h
  exact subject_calls t.d t.e t.f w (by omega) (by omega) (by omega)
theorem type_pt (t : Tup) (w : World) (h : t.ok = true) : Calls Tryd.prog 31 #[.string t.a] w (spanP (tyB t.a) w) := by
  obtain ⟨h0, h1, h2, h3, h4, h5⟩ := Tup.ok_le h
  exact type_calls t.a w (by omega)
set_option maxHeartbeats 4000000 in
set_option maxRecDepth 100000 in
theorem indexRanges_calls (t u : Tup) (m : Int) (w : World) (ht : t.fits) (hu : u.fits) (hm : w.cell? ⟨0, 0, none⟩ = some (.int .i64 m)) :
    Calls Tryd.prog 7 #[t.v, u.v] w fun e w' => e = .returned (.bool true) ∧ Below w.heap.size w w' := by
  have hg : 0 < w.heap.size := World.block_lt_of_cell? w _ hm
  have hm' := Lib.hid hm
  unfold Tup.v
  go_enter Tryd.func7, Tryd.ntmps7
  go_wp2_with fail
  have B0 := ((Below.refl w.heap.size w).alloc (Nat.le_refl _) (.cells #[.string t.a, .string t.b, .string t.c, .string t.d, .string t.e, .string t.f] 28)).alloc (by simp) (.cells #[.string u.a, .string u.b, .string u.c, .string u.d, .string u.e, .string u.f] 28)
  refine (fixed24_calls m _ ((B0.cell (p := ⟨0, 0, none⟩) hg).trans hm'.out)).mono ?_
  clear hm
  rintro e w1 ⟨rfl, hb1⟩
  have bt := ((Blk.new w 28 #[.string t.a, .string t.b, .string t.c, .string t.d, .string t.e, .string t.f]).alloc (.cells #[.string u.a, .string u.b, .string u.c, .string u.d, .string u.e, .string u.f] 28)).below hb1 (by simp; omega)
  have bu := Blk.new (w.alloc (.cells #[.string t.a, .string t.b, .string t.c, .string t.d, .string t.e, .string t.f] 28)) 28 #[.string u.a, .string u.b, .string u.c, .string u.d, .string u.e, .string u.f]
  rw [World.size_alloc] at bu
  have bu := bu.below hb1 (by simp)
  have B1 := B0.trans (hb1.mono (by simp; omega))
  have l1 : w.heap.size + 1 < w1.heap.size := by have := hb1.size; simp at this; omega
  clear hb1 B0
  have tc := bt.cell
  have uc := bu.cell
  go_wp2_with fail
  refine (few24_two t u _ ht hu).mono ?_
  rintro e w2 ⟨rfl, hb2⟩
  have bt := (bt.alloc (.cells #[.string t.a, .string t.b, .string t.c, .string t.d, .string t.e, .string t.f, .string u.a, .string u.b, .string u.c, .string u.d, .string u.e, .string u.f] 28)).below hb2 (by omega)
  have bu := (bu.alloc (.cells #[.string t.a, .string t.b, .string t.c, .string t.d, .string t.e, .string t.f, .string u.a, .string u.b, .string u.c, .string u.d, .string u.e, .string u.f] 28)).below hb2 (by omega)
  have B2 := (B1.alloc (by omega) _).trans (hb2.mono (by omega))
  have l2 : w.heap.size + 1 < w2.heap.size := by have := hb2.size; simp at this; omega
  clear tc uc hb2 B1 l1
  cases hfew : (t.few && u.few)
  · go_wp2
    go_ret
    exact ⟨rfl, B2⟩
  have tc := bt.cell
  have uc := bu.cell
  go_wp2_with fail
  refine (refCheck_calls t _ ht).mono ?_
  rintro e w3 ⟨rfl, hb3⟩
  have bt := bt.below hb3 bt.lt
  have bu := bu.below hb3 bu.lt
  have B3 := B2.trans (hb3.mono (by omega))
  have l3 : w.heap.size + 1 < w3.heap.size := by have := hb3.size; omega
  clear tc uc hb3 B2 l2
  cases hok : t.ok
  · have e1 : t.check = 2 := by simp [Tup.check, hok]
    go_wp2
    go_ret
    exact ⟨rfl, B3⟩
  have e1 : t.check = 0 := by simp [Tup.check, hok]
  have tc := bt.cell
  have uc := bu.cell
  go_wp2_with fail
  refine (refCheck_calls u _ hu).mono ?_
  rintro e w4 ⟨rfl, hb4⟩
  have bt := bt.below hb4 bt.lt
  have bu := bu.below hb4 bu.lt
  have B4 := B3.trans (hb4.mono (by omega))
  have l4 : w.heap.size + 1 < w4.heap.size := by have := hb4.size; omega
  clear tc uc hb4 B3 l3
  cases huk : u.ok
  · have e2 : u.check = 2 := by simp [Tup.check, huk]
    go_wp2
    go_ret
    exact ⟨rfl, B4⟩
  have e2 : u.check = 0 := by simp [Tup.check, huk]
  have tc := bt.cell
  have uc := bu.cell
  go_wp2_with fail
  refine (keys_yes u _ hu huk).mono ?_
  unfold KeysPost
  rintro e w5 ⟨g, rfl, k, hgl, hb5⟩
  have bt := bt.below hb5 bt.lt
  have bu := bu.below hb5 bu.lt
  have B5 := B4.trans (hb5.mono (by omega))
  have l5 : w.heap.size + 1 < w5.heap.size := by have := hb5.size; omega
  clear tc uc hb5 B4
  have tc := bt.cell
  have uc := bu.cell
  go_wp2_with fail
  refine (point_pt t _ hok).mono ?_
  unfold spanP
  rintro e w6 ⟨rfl, hb6⟩
  have bt := bt.below hb6 bt.lt
  have bu := bu.below hb6 bu.lt
  have k := k.below hb6 k.lt
  have B6 := B5.trans (hb6.mono (by omega))
  have l6 : w.heap.size + 1 < w6.heap.size := by have := hb6.size; omega
  clear tc uc hb6 B5 l5
  have tc := bt.cell
  have uc := bu.cell
  go_wp2_with fail
  refine (subject_pt t _ hok).mono ?_
  unfold spanP
  rintro e w7 ⟨rfl, hb7⟩
  have bt := bt.below hb7 bt.lt
  have bu := bu.below hb7 bu.lt
  have k := k.below hb7 k.lt
  have B7 := B6.trans (hb7.mono (by omega))
  have l7 : w.heap.size + 1 < w7.heap.size := by have := hb7.size; omega
  clear tc uc hb7 B6 l6
  have tc := bt.cell
  have uc := bu.cell
  go_wp2_with fail
  refine (type_pt t _ hok).mono ?_
  unfold spanP
  rintro e w8 ⟨rfl, hb8⟩
  have bt := bt.below hb8 bt.lt
  have bu := bu.below hb8 bu.lt
  have k := k.below hb8 k.lt
  have B8 := B7.trans (hb8.mono (by omega))
  have l8 : w.heap.size + 1 < w8.heap.size := by have := hb8.size; omega
  clear tc uc hb8 B7 l7
  have kl := k.lt
  have x1 := Lib.hid (in_one hok huk)
  have x2 := Lib.hid (in_two hok huk)
  have x3 := Lib.hid (in_three hok huk)
  have x4 := Lib.hid (inS_out (out_one hok huk))
  have x5 := Lib.hid (inS_out (out_two hok huk))
  have x6 := Lib.hid (inS_out (out_three hok huk))
  generalize ptB 102 t.a t.b t.c = S1 at *
  generalize ptB 114 t.d t.e t.f = S2 at *
  generalize tyB t.a = S3 at *
  generalize fKey u = K0 at *
  generalize rKey u = K1 at *
  have kc := k.cell
  go_upto_region 11 with fail
  go_cut [13] from 62 to 73 (fun a wx => a = .bool (inS K0 S1) ∧ wx = w8)
  case first =>
    go_wp2
    all_goals (go_meet; exact ⟨by simp_all [inS], rfl⟩)
  case rest =>
    obtain ⟨rfl, hwc⟩ := hcut
    rw [x1.out]
    rw [hwc]
    clear hwc
    go_upto_region 12 with fail
    go_cut [14] from 74 to 85 (fun a wx => a = .bool (inS K1 S2) ∧ wx = w8)
    case first =>
      go_wp2
      all_goals (go_meet; exact ⟨by simp_all [inS], rfl⟩)
    case rest =>
      obtain ⟨rfl, hwc⟩ := hcut
      rw [x2.out]
      rw [hwc]
      clear hwc
      go_upto_region 13 with fail
      go_cut [15] from 86 to 97 (fun a wx => a = .bool (inS K0 S3) ∧ wx = w8)
      case first =>
        go_wp2
        all_goals (go_meet; exact ⟨by simp_all [inS], rfl⟩)
      case rest =>
        obtain ⟨rfl, hwc⟩ := hcut
        rw [x3.out]
        rw [hwc]
        clear hwc
        go_upto_region 14 with fail
        go_cut [16] from 98 to 137 (fun a wx => a = .bool false ∧ wx = w8)
        case first =>
          rcases x4.out with y4 | ⟨y4, z4⟩
          all_goals rcases x5.out with y5 | ⟨y5, z5⟩
          all_goals rcases x6.out with y6 | ⟨y6, z6⟩
          all_goals
            clear x1 x2 x3 x4 x5 x6
            go_wp2
            go_meet
            exact ⟨rfl, rfl⟩
        case rest =>
          obtain ⟨rfl, hwc⟩ := hcut
          rw [hwc]
          clear hwc x1 x2 x3 x4 x5 x6 kc k kl hgl
          have tc := bt.cell
          have uc := bu.cell
          cases q12 : (t.a.toList == u.a.toList && t.b.toList == u.b.toList)
          all_goals
            go_wp2
            go_ret
            exact ⟨rfl, B8⟩
end Go.Proofs.YtnbalmnpcdnidaaDoor
