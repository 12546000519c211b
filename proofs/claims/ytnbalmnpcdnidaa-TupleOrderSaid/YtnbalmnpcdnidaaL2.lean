/- The law TupleOrder: the walk. -/
import Derived.Test.YtnbalmnpcdnidaaW8
import Derived.Test.YtnbalmnpcdnidaaW9
import Derived.Test.YtnbalmnpcdnidaaFix
namespace Go.Proofs.Ytnbalmnpcdnidaa
open Go.RowKit
theorem begins_no {x y : ByteArray} (h : ¬ x.data.toList <+: y.data.toList ∨ x = y) (hl : x.size < y.size) : ((y.extract 0 x.size).toList == x.toList) = false := by
  cases he : (y.extract 0 x.size).toList == x.toList with
  | false => rfl
  | true =>
    exfalso
    rw [beq_iff_eq, Lib.toList_data, Lib.toList_data, Lib.extract_data] at he
    rcases h with h | h
    · apply h
      refine ⟨y.data.toList.drop x.size, ?_⟩
      rw [← he]
      simp
    · rw [h] at hl; omega
theorem key_noBegin {t u : Tup} (ht : t.ok = true) (hu : u.ok = true) : ¬ t.key.data.toList <+: u.key.data.toList ∨ t.key = u.key := by
  by_cases h : t.key.data.toList <+: u.key.data.toList
  · exact .inr (bytes_ext (key_begins t.ls u.ls rfl (Tup.ok_noZero ht) (Tup.ok_noZero hu) h))
  · exact .inl h
set_option maxHeartbeats 2000000 in
theorem tupleOrder_calls (t u : Tup) (w : World) (ht : t.fits) (hu : u.fits) :
    Calls Try.prog 4 #[t.v, u.v] w fun e w' => e = .returned (.bool true) ∧ Below w.heap.size w w' := by
  unfold Tup.v
  go_enter Try.func4, Try.ntmps4
  go_wp2_with fail
  refine (fixed_calls _).mono ?_
  rintro e w1 ⟨rfl, hb1⟩; obtain ⟨hc1, hf1⟩ := bcell hb1
  have y1 : w.heap.size + 1 < w1.heap.size := by have := hb1.size; simp at this; omega
  have y1' : w.heap.size < w1.heap.size := by omega
  go_wp2_with fail
  refine (few_two t u _ ht hu).mono ?_
  rintro e w2 ⟨rfl, hb2⟩
  have B1 : Below w.heap.size w w1 := (((Below.refl _ _).alloc (Nat.le_refl _) _).alloc (by simp) _).trans (hb1.mono (by simp; omega))
  have B2 : Below w.heap.size w w2 := (B1.alloc (by omega) _).trans (hb2.mono (by omega))
  have b0 : Blk w2 w.heap.size 29 #[.string t.a, .string t.b, .string t.c, .string t.d, .string t.e, .string t.f] := ((((Blk.new w 29 #[.string t.a, .string t.b, .string t.c, .string t.d, .string t.e, .string t.f]).alloc _).below hb1 (by simp; omega)).alloc _).below hb2 (by omega)
  have b1 : Blk w2 (w.heap.size + 1) 29 #[.string u.a, .string u.b, .string u.c, .string u.d, .string u.e, .string u.f] := by
    have h := Blk.new (w.alloc (.cells #[.string t.a, .string t.b, .string t.c, .string t.d, .string t.e, .string t.f] 29)) 29 #[.string u.a, .string u.b, .string u.c, .string u.d, .string u.e, .string u.f]
    simp only [World.size_alloc] at h
    exact ((h.below hb1 (by simp)).alloc _).below hb2 (by omega)
  have l2 : w.heap.size + 1 < w2.heap.size := by have := hb2.size; simp at this; omega
  clear hc1 hf1 hb1 hb2 y1 y1' B1
  cases hfew : t.few && u.few
  · go_wp2
    go_ret
    exact ⟨rfl, B2⟩
  have b0c := b0.cell
  have b1c := b1.cell
  go_wp2_with fail
  refine (refCmp_calls t u _).mono ?_
  rintro e w3 ⟨rfl, hb3⟩
  have b0 := b0.below hb3 (by omega)
  have b1 := b1.below hb3 (by omega)
  have B3 := B2.trans (hb3.mono (by omega))
  have l3 : w.heap.size + 1 < w3.heap.size := by have := hb3.size; omega
  clear b0c b1c hb3 B2 l2
  have b0c := b0.cell
  have b1c := b1.cell
  go_wp2_with fail
  refine (cmp_calls t u _).mono ?_
  rintro e w4 ⟨rfl, hb4⟩
  have b0 := b0.below hb4 (by omega)
  have b1 := b1.below hb4 (by omega)
  have B4 := B3.trans (hb4.mono (by omega))
  have l4 : w.heap.size + 1 < w4.heap.size := by have := hb4.size; omega
  clear b0c b1c hb4 B3 l3
  have b0c := b0.cell
  have b1c := b1.cell
  go_wp2_with fail
  refine (key_calls t _ ht).mono ?_
  rintro e w5 ⟨rfl, hb5⟩
  have b1 := b1.below hb5 (by omega)
  have B5 := B4.trans (hb5.mono (by omega))
  have l5 : w.heap.size + 1 < w5.heap.size := by have := hb5.size; omega
  clear b0 b0c b1c hb5 B4 l4
  have b1c := b1.cell
  go_wp2_with fail
  refine (key_calls u _ hu).mono ?_
  rintro e w6 ⟨rfl, hb6⟩
  have B6 := B5.trans (hb6.mono (by omega))
  clear b1 b1c hb6 B5 l5
  cases ok1 : t.ok
  · have e1 : t.check = 2 := by simp [Tup.check, ok1]
    go_wp2
    go_ret
    exact ⟨rfl, B6⟩
  cases ok2 : u.ok
  · have e1 : t.check = 0 := by simp [Tup.check, ok1]
    have e2 : u.check = 2 := by simp [Tup.check, ok2]
    go_wp2
    go_ret
    exact ⟨rfl, B6⟩
  have e1 : t.check = 0 := by simp [Tup.check, ok1]
  have e2 : u.check = 0 := by simp [Tup.check, ok2]
  have e3 : t.keyS = t.key := by simp [Tup.keyS, ok1]
  have e4 : u.keyS = u.key := by simp [Tup.keyS, ok2]
  have n1 := key_noBegin ok1 ok2
  have n2 := key_noBegin ok2 ok1
  have hck := cmp_key ok1 ok2
  have z1 := key_len ok1
  have z2 := key_len ok2
  rw [e3, e4]
  generalize t.key = x at *
  generalize u.key = y at *
  generalize cmpT t u = c at *
  clear e3 e4
  have p1 : x.size < y.size → ((y.extract 0 x.size).toList == x.toList) = false := begins_no n1
  have p2 : y.size < x.size → ((x.extract 0 y.size).toList == y.toList) = false := begins_no n2
  clear n1 n2
  rcases cb_three x.data.toList y.data.toList with h | h | h
  · have r1 := less_n (a := x) (b := y) (by omega)
    have r2 := eq_y h
    have hs : x = y := bytes_ext (cb_eq _ _ h)
    rw [hck] at h
    subst h hs
    clear hck p1 p2
    go_wp2
    go_ret
    exact ⟨rfl, B6⟩
  · have r1 := less_m h
    have r2 := eq_n (a := x) (b := y) (by omega)
    rw [hck] at h
    subst h
    clear hck
    by_cases s1 : x.size < y.size
    · have q1 := p1 s1
      clear p1 p2
      go_wp2
      go_ret
      exact ⟨rfl, B6⟩
    by_cases s2 : y.size < x.size
    · have q2 := p2 s2
      clear p1 p2
      go_wp2
      go_ret
      exact ⟨rfl, B6⟩
    · clear p1 p2
      go_wp2
      go_ret
      exact ⟨rfl, B6⟩
  · have r1 := less_n (a := x) (b := y) (by omega)
    have r2 := eq_n (a := x) (b := y) (by omega)
    rw [hck] at h
    subst h
    clear hck
    by_cases s1 : x.size < y.size
    · have q1 := p1 s1
      clear p1 p2
      go_wp2
      go_ret
      exact ⟨rfl, B6⟩
    by_cases s2 : y.size < x.size
    · have q2 := p2 s2
      clear p1 p2
      go_wp2
      go_ret
      exact ⟨rfl, B6⟩
    · clear p1 p2
      go_wp2
      go_ret
      exact ⟨rfl, B6⟩
end Go.Proofs.Ytnbalmnpcdnidaa
