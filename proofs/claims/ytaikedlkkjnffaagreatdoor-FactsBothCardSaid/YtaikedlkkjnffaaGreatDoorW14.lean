/- Walks: index: turned, key, back, Keys. -/
import Derived.Test.YtaikedlkkjnffaaGreatDoorW9
namespace Go.Proofs.YtaikedlkkjnffaaGreatDoor
open Go.RowKit
def Tup.turned (t : Tup) : Tup := ⟨t.d, t.e, t.f, t.a, t.b, t.c⟩
def fKey (t : Tup) : ByteArray := ⟨#[102]⟩ ++ t.key
def rKey (t : Tup) : ByteArray := ⟨#[114]⟩ ++ t.turned.key
theorem ret_str {a b : ByteArray} (h : a = b) : Ending.returned (.string a) = .returned (.string b) := by rw [h]
theorem turned_sum (t : Tup) : (t.turned.ls.map List.length).sum = (t.ls.map List.length).sum := by
  simp [Tup.turned, Tup.ls, Tup.l]; omega
theorem key_size (t : Tup) : t.key.size = (t.ls.map List.length).sum + 6 := by
  rw [Lib.size_eq]
  show (keyL t.ls).length = _
  rw [keyL_length]; rfl
theorem turned_calls (t : Tup) (w : World) :
    Calls Tryz.prog 74 #[t.v] w fun e w' => e = .returned t.turned.v ∧ Below w.heap.size w w' := by
  unfold Tup.v
  go_enter Tryz.func74, Tryz.ntmps74
  go_wp2
  exact bodyPost_ret (v := t.turned.v) (by simp [results, Tryz.results74, go_sem, Tup.v, Tup.turned]) rfl ⟨rfl, ((Below.refl _ _).alloc (Nat.le_refl _) _).alloc (by simp) _⟩
theorem join_parts (t : Tup) (T : TypeId) (g : Nat) (w : World) (hk : Blk w g T t.cells) (hc : t.key.size ≤ 1000) :
    Calls Tryz.prog 73 #[.slice (some ⟨g, 0, none⟩) 6 6, .string ⟨#[0]⟩] w fun e w' => e = .returned (.string ⟨(Lib.join t.ls [0]).toArray⟩) ∧ Below w.heap.size w w' := by
  refine Tryz.strings_Join g 0 6 t.l ⟨#[0]⟩ w (fun j x hx => ?_) hk.lt (by simp [Tup.l]) (by simp [Tup.l]) ?_
  · rw [Nat.zero_add, hk.cell]
    rcases j with _ | _ | _ | _ | _ | _ | j <;> simp [Tup.l] at hx <;> subst hx <;> rfl
  · show (Lib.join t.ls [0]).length ≤ _
    rw [← key_join, Lib.size_eq] at hc
    simp at hc
    omega
set_option maxHeartbeats 400000 in
theorem pkey_calls (t : Tup) (w : World) (hc : t.key.size ≤ 1000) :
    Calls Tryz.prog 60 #[t.v] w fun e w' => e = .returned (.string t.key) ∧ Below w.heap.size w w' := by
  have hk := key_join t
  have hk' := Lib.hid hk
  have hj' : (⟨(Lib.join t.ls [0]).toArray⟩ : ByteArray).size ≤ 1000 := by
    rw [← hk, Lib.size_eq] at hc
    rw [Lib.size_eq]
    simp at hc ⊢
    omega
  clear hk
  have hJ := join_parts t 127 w.heap.size _ (Blk.new w _ _) hc
  have hJ' := Lib.hid hJ
  clear hJ
  unfold Tup.v
  go_enter Tryz.func60, Tryz.ntmps60
  go_wp2_with fail
  refine (hJ'.out).mono ?_
  rintro e w3 ⟨rfl, hb3⟩
  generalize (⟨(Lib.join t.ls [0]).toArray⟩ : ByteArray) = J at *
  go_wp2
  go_ret
  exact ⟨ret_str hk'.out, ((Below.refl w.heap.size w).alloc (Nat.le_refl _) _).trans (hb3.mono (by simp))⟩
theorem back_calls (t : Tup) (w : World) :
    Calls Tryz.prog 59 #[t.v] w fun e w' => e = .returned t.turned.v ∧ Below w.heap.size w w' := by
  unfold Tup.v
  go_enter Tryz.func59, Tryz.ntmps59
  go_wp2_with fail
  refine (turned_calls t _).mono ?_
  rintro e w1 ⟨rfl, hb1⟩
  have b := ((Blk.new (w.alloc (.cells #[.string t.a, .string t.b, .string t.c, .string t.d, .string t.e, .string t.f] 60)) 127 #[.string ⟨#[]⟩, .string ⟨#[]⟩, .string ⟨#[]⟩, .string ⟨#[]⟩, .string ⟨#[]⟩, .string ⟨#[]⟩])).below hb1 (by simp)
  simp only [World.size_alloc] at b
  have B1 := (((Below.refl w.heap.size w).alloc (Nat.le_refl _) _).alloc (by simp) _).trans (hb1.mono (by simp; omega))
  have bc : ∀ i, w1.cell? ⟨w.heap.size + 1, i, none⟩ = (#[.string ⟨#[]⟩, .string ⟨#[]⟩, .string ⟨#[]⟩, .string ⟨#[]⟩, .string ⟨#[]⟩, .string ⟨#[]⟩] : Array Value)[i]? := b.cell
  have bf := b.frozen
  clear hb1 b
  go_wp2
  refine bodyPost_ret (v := t.turned.v) (by simp [results, Tryz.results59, go_sem, bc]) rfl ⟨rfl, ?_⟩
  exact (((((B1.setCell (by simp) _).setCell (by simp) _).setCell (by simp) _).setCell (by simp) _).setCell (by simp) _).setCell (by simp) _
set_option maxHeartbeats 1000000 in
theorem keys_no (t : Tup) (w : World) (ht : t.fits) (hc : t.ok = false) :
    Calls Tryz.prog 42 #[t.v] w fun e w' => e = .returned (.tuple #[.slice none 0 0, .int .i64 2]) ∧ Below w.heap.size w w' := by
  have e1 : t.check = 2 := by simp [Tup.check, hc]
  unfold Tup.v
  go_enter Tryz.func42, Tryz.ntmps42
  go_wp2_with fail
  refine (key_calls t _ ht).mono ?_
  rintro e w1 ⟨rfl, hb1⟩
  go_wp2
  go_ret2
  exact ⟨rfl, ((Below.refl w.heap.size w).alloc (Nat.le_refl _) _).trans (hb1.mono (by simp))⟩
def KeysPost (t : Tup) (w : World) (e : Ending) (w' : World) : Prop := ∃ g, e = .returned (.tuple #[.slice (some ⟨g, 0, none⟩) 2 2, .int .i64 0]) ∧ Blk w' g 9 #[.string (fKey t), .string (rKey t)] ∧ w.heap.size ≤ g ∧ Below w.heap.size w w'
theorem tkey_le {t : Tup} (h : t.ok = true) : t.turned.key.size ≤ 198 := by
  have := ls_le h
  rw [key_size, turned_sum]
  omega
set_option maxHeartbeats 1000000 in
theorem keys_yes (t : Tup) (w : World) (ht : t.fits) (hc : t.ok = true) :
    Calls Tryz.prog 42 #[t.v] w (KeysPost t w) := by
  have e1 : t.check = 0 := by simp [Tup.check, hc]
  have e2 : t.keyS = t.key := by simp [Tup.keyS, hc]
  have z1 := key_len hc
  have z2 := tkey_le hc
  unfold Tup.v
  go_enter Tryz.func42, Tryz.ntmps42
  go_wp2_with fail
  refine (key_calls t _ ht).mono ?_
  rw [e1, e2]
  clear e1 e2
  rintro e w1 ⟨rfl, hb1⟩
  have b := (Blk.new w 60 #[.string t.a, .string t.b, .string t.c, .string t.d, .string t.e, .string t.f]).below hb1 (by simp)
  have B1 := ((Below.refl w.heap.size w).alloc (Nat.le_refl _) _).trans (hb1.mono (by simp))
  have l1 : w.heap.size < w1.heap.size := by have := hb1.size; simp at this; omega
  have bc := b.cell
  clear hb1 b
  go_wp2_with fail
  refine (back_calls t _).mono ?_
  rintro e w2 ⟨rfl, hb2⟩
  have B2 := B1.trans (hb2.mono (by omega))
  clear hb2 bc l1 B1
  have l2 := B2.size
  go_wp2_with fail
  refine (pkey_calls t.turned _ (by omega)).mono ?_
  rintro e w3 ⟨rfl, hb3⟩
  have B3 := B2.trans (hb3.mono (by omega))
  clear hb3 B2 l2
  have l3 := B3.size
  go_wp2
  go_ret2
  exact ⟨w3.heap.size, rfl, Blk.new _ _ _, l3, B3.alloc l3 _⟩
end Go.Proofs.YtaikedlkkjnffaaGreatDoor
