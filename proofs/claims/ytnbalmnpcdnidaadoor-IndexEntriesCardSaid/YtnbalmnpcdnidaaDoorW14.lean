/- Walks: index: turned, key, back, Keys, span, Type. -/
import Derived.Test.YtnbalmnpcdnidaaDoorW13
import Derived.Test.YtnbalmnpcdnidaaDoorIdx
namespace Go.Proofs.YtnbalmnpcdnidaaDoor
open Go.RowKit
theorem turned_calls (t : Tup) (w : World) :
    Calls Tryd.prog 40 #[t.v] w fun e w' => e = .returned t.turned.v ∧ Below w.heap.size w w' := by
  unfold Tup.v
  go_enter Tryd.func40, Tryd.ntmps40
  go_wp2
  exact bodyPost_ret (v := t.turned.v) (by simp [results, Tryd.results40, go_sem, Tup.v, Tup.turned]) rfl ⟨rfl, ((Below.refl _ _).alloc (Nat.le_refl _) _).alloc (by simp) _⟩
theorem join_parts (t : Tup) (T : TypeId) (g : Nat) (w : World) (hk : Blk w g T t.cells) (hc : t.key.size ≤ 1000) :
    Calls Tryd.prog 44 #[.slice (some ⟨g, 0, none⟩) 6 6, .string ⟨#[0]⟩] w fun e w' => e = .returned (.string ⟨(Lib.join t.ls [0]).toArray⟩) ∧ Below w.heap.size w w' := by
  refine Tryd.strings_Join g 0 6 t.l ⟨#[0]⟩ w (fun j x hx => ?_) hk.lt (by simp [Tup.l]) (by simp [Tup.l]) ?_
  · rw [Nat.zero_add, hk.cell]
    rcases j with _ | _ | _ | _ | _ | _ | j <;> simp [Tup.l] at hx <;> subst hx <;> rfl
  · show (Lib.join t.ls [0]).length ≤ _
    rw [← key_join, Lib.size_eq] at hc
    simp at hc
    omega
set_option maxHeartbeats 400000 in
theorem pkey_calls (t : Tup) (w : World) (hc : t.key.size ≤ 1000) :
    Calls Tryd.prog 41 #[t.v] w fun e w' => e = .returned (.string t.key) ∧ Below w.heap.size w w' := by
  have hk := key_join t
  have hk' := Lib.hid hk
  have hj' : (⟨(Lib.join t.ls [0]).toArray⟩ : ByteArray).size ≤ 1000 := by
    rw [← hk, Lib.size_eq] at hc
    rw [Lib.size_eq]
    simp at hc ⊢
    omega
  clear hk
  have hJ := join_parts t 72 w.heap.size _ (Blk.new w _ _) hc
  have hJ' := Lib.hid hJ
  clear hJ
  unfold Tup.v
  go_enter Tryd.func41, Tryd.ntmps41
  go_wp2_with fail
  refine (hJ'.out).mono ?_
  rintro e w3 ⟨rfl, hb3⟩
  generalize (⟨(Lib.join t.ls [0]).toArray⟩ : ByteArray) = J at *
  go_wp2
  go_ret
  exact ⟨ret_str hk'.out, ((Below.refl w.heap.size w).alloc (Nat.le_refl _) _).trans (hb3.mono (by simp))⟩
theorem back_calls (t : Tup) (w : World) :
    Calls Tryd.prog 45 #[t.v] w fun e w' => e = .returned t.turned.v ∧ Below w.heap.size w w' := by
  unfold Tup.v
  go_enter Tryd.func45, Tryd.ntmps45
  go_wp2_with fail
  refine (turned_calls t _).mono ?_
  rintro e w1 ⟨rfl, hb1⟩
  have b := ((Blk.new (w.alloc (.cells #[.string t.a, .string t.b, .string t.c, .string t.d, .string t.e, .string t.f] 28)) 72 #[.string ⟨#[]⟩, .string ⟨#[]⟩, .string ⟨#[]⟩, .string ⟨#[]⟩, .string ⟨#[]⟩, .string ⟨#[]⟩])).below hb1 (by simp)
  simp only [World.size_alloc] at b
  have B1 := (((Below.refl w.heap.size w).alloc (Nat.le_refl _) _).alloc (by simp) _).trans (hb1.mono (by simp; omega))
  have bc : ∀ i, w1.cell? ⟨w.heap.size + 1, i, none⟩ = (#[.string ⟨#[]⟩, .string ⟨#[]⟩, .string ⟨#[]⟩, .string ⟨#[]⟩, .string ⟨#[]⟩, .string ⟨#[]⟩] : Array Value)[i]? := b.cell
  have bf := b.frozen
  clear hb1 b
  go_wp2
  refine bodyPost_ret (v := t.turned.v) (by simp [results, Tryd.results45, go_sem, bc]) rfl ⟨rfl, ?_⟩
  exact (((((B1.setCell (by simp) _).setCell (by simp) _).setCell (by simp) _).setCell (by simp) _).setCell (by simp) _).setCell (by simp) _
set_option maxHeartbeats 1000000 in
theorem keys_no (t : Tup) (w : World) (ht : t.fits) (hc : t.ok = false) :
    Calls Tryd.prog 27 #[t.v] w fun e w' => e = .returned (.tuple #[.slice none 0 0, .int .i64 2]) ∧ Below w.heap.size w w' := by
  have e1 : t.check = 2 := by simp [Tup.check, hc]
  unfold Tup.v
  go_enter Tryd.func27, Tryd.ntmps27
  go_wp2_with fail
  refine (key_calls t _ ht).mono ?_
  rintro e w1 ⟨rfl, hb1⟩
  go_wp2
  go_ret2
  exact ⟨rfl, ((Below.refl w.heap.size w).alloc (Nat.le_refl _) _).trans (hb1.mono (by simp))⟩
def KeysPost (t : Tup) (w : World) (e : Ending) (w' : World) : Prop := ∃ g, e = .returned (.tuple #[.slice (some ⟨g, 0, none⟩) 2 2, .int .i64 0]) ∧ Blk w' g 9 #[.string (fKey t), .string (rKey t)] ∧ w.heap.size ≤ g ∧ Below w.heap.size w w'
theorem tkey_le {t : Tup} (h : t.ok = true) : t.turned.key.size ≤ 198 := by
  have := ls_le h
  rw [key_size, turned_sum]
  omega
set_option maxHeartbeats 1000000 in
theorem keys_yes (t : Tup) (w : World) (ht : t.fits) (hc : t.ok = true) :
    Calls Tryd.prog 27 #[t.v] w (KeysPost t w) := by
  have e1 : t.check = 0 := by simp [Tup.check, hc]
  have e2 : t.keyS = t.key := by simp [Tup.keyS, hc]
  have z1 := key_len hc
  have z2 := tkey_le hc
  unfold Tup.v
  go_enter Tryd.func27, Tryd.ntmps27
  go_wp2_with fail
  refine (key_calls t _ ht).mono ?_
  rw [e1, e2]
  clear e1 e2
  rintro e w1 ⟨rfl, hb1⟩
  have b := (Blk.new w 28 #[.string t.a, .string t.b, .string t.c, .string t.d, .string t.e, .string t.f]).below hb1 (by simp)
  have B1 := ((Below.refl w.heap.size w).alloc (Nat.le_refl _) _).trans (hb1.mono (by simp))
  have l1 : w.heap.size < w1.heap.size := by have := hb1.size; simp at this; omega
  have bc := b.cell
  clear hb1 b
  go_wp2_with fail
  refine (back_calls t _).mono ?_
  rintro e w2 ⟨rfl, hb2⟩
  have B2 := B1.trans (hb2.mono (by omega))
  clear hb2 bc l1 B1
  have l2 := B2.size
  go_wp2_with fail
  refine (pkey_calls t.turned _ (by omega)).mono ?_
  rintro e w3 ⟨rfl, hb3⟩
  have B3 := B2.trans (hb3.mono (by omega))
  clear hb3 B2 l2
  have l3 := B3.size
  go_wp2
  go_ret2
  exact ⟨w3.heap.size, rfl, Blk.new _ _ _, l3, B3.alloc l3 _⟩
def endB (s : ByteArray) : ByteArray := s.extract 0 (s.size - 1) ++ ⟨#[1]⟩
set_option maxHeartbeats 1000000 in
theorem span_calls (s : ByteArray) (w : World) (h1 : 1 ≤ s.size) (h2 : s.size ≤ 1000) :
    Calls Tryd.prog 46 #[.string s] w fun e w' => e = .returned (.tuple #[.string s, .string (endB s)]) ∧ Below w.heap.size w w' := by
  go_enter Tryd.func46, Tryd.ntmps46
  go_wp2_with fail
  go_quiet (fail)
  go_wp2
  go_ret2
  exact ⟨rfl, bdrewN (Below.refl _ _) _⟩
def spanV (s : ByteArray) : Value := .tuple #[.string s, .string (endB s)]
set_option maxHeartbeats 1000000 in
theorem type_calls (s : ByteArray) (w : World) (h2 : s.size ≤ 500) :
    Calls Tryd.prog 31 #[.string s] w fun e w' => e = .returned (spanV (⟨#[102]⟩ ++ s ++ ⟨#[0]⟩)) ∧ Below w.heap.size w w' := by
  have z : (⟨#[102]⟩ ++ s ++ ⟨#[0]⟩ : ByteArray).size = s.size + 2 := by simp only [ByteArray.size_append]; show 1 + s.size + 1 = _; omega
  have sp := fun w => span_calls (⟨#[102]⟩ ++ s ++ ⟨#[0]⟩) w (by omega) (by omega)
  have sp' := Lib.hid sp
  clear sp z
  unfold spanV
  go_enter Tryd.func31, Tryd.ntmps31
  go_wp2_with fail
  refine (sp'.out _).mono ?_
  rintro e w1 ⟨rfl, hb⟩
  go_wp2
  go_ret2
  exact ⟨rfl, hb⟩
set_option maxHeartbeats 1000000 in
theorem point_calls (a b r : ByteArray) (w : World) (ha : a.size ≤ 200) (hb : b.size ≤ 200) (hr : r.size ≤ 200) :
    Calls Tryd.prog 29 #[.agg #[.string a, .string b], .string r] w fun e w' => e = .returned (spanV (⟨#[102]⟩ ++ a ++ ⟨#[0]⟩ ++ b ++ ⟨#[0]⟩ ++ r ++ ⟨#[0]⟩)) ∧ Below w.heap.size w w' := by
  have z : (⟨#[102]⟩ ++ a ++ ⟨#[0]⟩ ++ b ++ ⟨#[0]⟩ ++ r ++ ⟨#[0]⟩ : ByteArray).size = a.size + b.size + r.size + 4 := by simp only [ByteArray.size_append]; show 1 + a.size + 1 + b.size + 1 + r.size + 1 = _; omega
  have sp := fun w => span_calls (⟨#[102]⟩ ++ a ++ ⟨#[0]⟩ ++ b ++ ⟨#[0]⟩ ++ r ++ ⟨#[0]⟩) w (by omega) (by omega)
  have sp' := Lib.hid sp
  clear sp z
  unfold spanV
  go_enter Tryd.func29, Tryd.ntmps29
  go_wp2_with fail
  refine (sp'.out _).mono ?_
  rintro e w1 ⟨rfl, hb⟩
  go_wp2
  go_ret2
  exact ⟨rfl, ((Below.refl w.heap.size w).alloc (Nat.le_refl _) _).trans (hb.mono (by simp))⟩
set_option maxHeartbeats 1000000 in
theorem subject_calls (a b r : ByteArray) (w : World) (ha : a.size ≤ 200) (hb : b.size ≤ 200) (hr : r.size ≤ 200) :
    Calls Tryd.prog 30 #[.agg #[.string a, .string b, .string r]] w fun e w' => e = .returned (spanV (⟨#[114]⟩ ++ a ++ ⟨#[0]⟩ ++ b ++ ⟨#[0]⟩ ++ r ++ ⟨#[0]⟩)) ∧ Below w.heap.size w w' := by
  have z : (⟨#[114]⟩ ++ a ++ ⟨#[0]⟩ ++ b ++ ⟨#[0]⟩ ++ r ++ ⟨#[0]⟩ : ByteArray).size = a.size + b.size + r.size + 4 := by simp only [ByteArray.size_append]; show 1 + a.size + 1 + b.size + 1 + r.size + 1 = _; omega
  have sp := fun w => span_calls (⟨#[114]⟩ ++ a ++ ⟨#[0]⟩ ++ b ++ ⟨#[0]⟩ ++ r ++ ⟨#[0]⟩) w (by omega) (by omega)
  have sp' := Lib.hid sp
  clear sp z
  unfold spanV
  go_enter Tryd.func30, Tryd.ntmps30
  go_wp2_with fail
  refine (sp'.out _).mono ?_
  rintro e w1 ⟨rfl, hb⟩
  go_wp2
  go_ret2
  exact ⟨rfl, ((Below.refl w.heap.size w).alloc (Nat.le_refl _) _).trans (hb.mono (by simp))⟩
end Go.Proofs.YtnbalmnpcdnidaaDoor
