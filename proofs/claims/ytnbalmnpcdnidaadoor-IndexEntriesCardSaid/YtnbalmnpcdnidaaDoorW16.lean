/- Walks: the reference's Keys; fixed of layer 24. -/
import Derived.Test.YtnbalmnpcdnidaaDoorW15
namespace Go.Proofs.YtnbalmnpcdnidaaDoor
open Go.RowKit
def rB (t : Tup) (k : Nat) : ByteArray := ⟨#[114]⟩ ++ keyB t.turned k
theorem rB_succ (t : Tup) (k : Nat) (h : k < 6) : rB t k ++ t.turned.part k ++ ⟨#[0]⟩ = rB t (k + 1) := by
  unfold rB
  rw [← keyB_succ t.turned k h, ByteArray.append_assoc, ByteArray.append_assoc, ByteArray.append_assoc]
theorem rB_6 (t : Tup) : rB t 6 = rKey t := rfl
theorem rB_0 (t : Tup) : rB t 0 = ⟨#[114]⟩ := by
  apply bytes_ext
  simp [rB, keyB, keyL]
theorem rB_le {t : Tup} (h : t.ok = true) (k : Nat) : (rB t k).size ≤ 199 := by
  have h1 := tkey_le h
  have h2 : (keyB t.turned k).size ≤ t.turned.key.size := by
    rw [Lib.size_eq, Lib.size_eq]
    exact keyL_take t.turned.ls k
  unfold rB
  rw [ByteArray.size_append]
  show 1 + _ ≤ _
  omega
theorem turned_part_le {t : Tup} (h : t.ok = true) : ∀ k, k < 6 → (t.turned.part k).size ≤ 32 := by
  obtain ⟨h0, h1, h2, h3, h4, h5⟩ := Tup.ok_le h
  intro k hk
  rcases k with _ | _ | _ | _ | _ | _ | k <;> first | omega | assumption
def RKeysPost (t : Tup) (w : World) (e : Ending) (w' : World) : Prop := ∃ g, e = .returned (.slice (some ⟨g, 0, none⟩) 2 2) ∧ Blk w' g 9 #[.string (fKey t), .string (rKey t)] ∧ w.heap.size ≤ g ∧ Below w.heap.size w w'
set_option maxHeartbeats 1000000 in
theorem refKeys_calls (t : Tup) (w : World) (hc : t.ok = true) :
    Calls Tryd.prog 28 #[t.v] w (RKeysPost t w) := by
  have hle := turned_part_le hc
  have z1 := key_len hc
  unfold Tup.v
  go_enter Tryd.func28, Tryd.ntmps28
  go_wp2_with fail
  obtain ⟨w1, e1, k1, k2, B1⟩ : ∃ w1, ((w.alloc (.cells #[.string t.a, .string t.b, .string t.c, .string t.d, .string t.e, .string t.f] 28)).alloc (.cells #[.string t.d, .string t.e, .string t.f, .string t.a, .string t.b, .string t.c] 9)) = w1 ∧ Blk w1 w.heap.size 28 t.cells ∧ Blk w1 (w.heap.size + 1) 9 t.turned.cells ∧ Below w.heap.size w w1 :=
    ⟨_, rfl, (Blk.new w _ _).alloc _, by have h := Blk.new (w.alloc (.cells t.cells 28)) 9 t.turned.cells; rwa [World.size_alloc] at h, ((Below.refl w.heap.size w).alloc (Nat.le_refl _) _).alloc (by simp) _⟩
  rw [e1]
  clear e1
  go_loop [3, 27] (fun s i => ∃ k : Nat, k ≤ 6 ∧ i = .int .i64 k ∧ s = .string (rB t k)) (fun _ i => 6 - (intOf i).toNat)
  case atStart => exact ⟨0, by omega, rfl, by rw [rB_0]⟩
  case round =>
    obtain ⟨k, hk, rfl, rfl⟩ := hrel
    by_cases hlt : k < 6
    · have q1 : w1.cell? ⟨w.heap.size + 1, k, none⟩ = some (.string (t.turned.part k)) := (k2.cell k).trans (cells_part t.turned k hlt)
      have l1 := hle k hlt
      have l2 := rB_le hc k
      have l3 := k2.lt
      clear hle k1 k2 B1
      go_wp2
      go_round
      case rel => exact ⟨k + 1, by omega, by go_num, by rw [← rB_succ t k hlt]⟩
      case measure => simp [intOf]; omega
    · obtain rfl : k = 6 := by omega
      have r6 : rB t 6 = rKey t := rB_6 t
      have c1 : ∀ i, w1.cell? ⟨w.heap.size, i, none⟩ = (#[.string t.a, .string t.b, .string t.c, .string t.d, .string t.e, .string t.f] : Array Value)[i]? := k1.cell
      generalize rB t 6 = R at r6 ⊢
      have l1 := k1.lt
      clear hle k1 k2
      go_wp2_with fail
      refine (refKey_calls t _ hc).mono ?_
      rintro e w2 ⟨rfl, hb1⟩
      have B2 := B1.trans (hb1.mono B1.size)
      have l2 := B2.size
      clear hb1 B1 c1
      go_wp2
      subst r6
      go_ret
      exact ⟨w2.heap.size, rfl, Blk.new _ _ _, l2, B2.alloc l2 _⟩
theorem doc_span : (⟨#[102]⟩ ++ ⟨#[100, 111, 99]⟩ ++ ⟨#[0]⟩ : ByteArray).toList = [102, 100, 111, 99, 0] ∧ (endB (⟨#[102]⟩ ++ ⟨#[100, 111, 99]⟩ ++ ⟨#[0]⟩)).toList = [102, 100, 111, 99, 1] := by
  constructor <;> decide +kernel
theorem iV_nil : iV ⟨#[]⟩ = .tuple #[Tup.zero.v, .bool false, .int .i64 9] := by
  have h1 : begins1 102 ⟨#[]⟩ = false := by decide +kernel
  have h2 : begins1 114 ⟨#[]⟩ = false := by decide +kernel
  exact tuple_three (by unfold iTup; rw [h1, h2]; rfl) (by unfold iFwd; rw [h1]; rfl) (by unfold iErr; rw [h1, h2]; rfl)
set_option maxHeartbeats 1000000 in
theorem fixed24_calls (m : Int) (w : World) (hm : w.cell? ⟨0, 0, none⟩ = some (.int .i64 m)) :
    Calls Tryd.prog 16 #[] w fun e w' => e = .returned (.bool true) ∧ Below w.heap.size w w' := by
  have hg : 0 < w.heap.size := World.block_lt_of_cell? w _ hm
  have hm' := Lib.hid hm
  clear hm
  obtain ⟨d1, d2⟩ := doc_span
  go_enter Tryd.func16, Tryd.ntmps16
  go_wp2_with fail
  refine (type_calls ⟨#[100, 111, 99]⟩ _ (by decide)).mono ?_
  unfold spanV
  generalize (⟨#[102]⟩ ++ ⟨#[100, 111, 99]⟩ ++ ⟨#[0]⟩ : ByteArray) = S at *
  rintro e w1 ⟨rfl, B1⟩
  go_wp2_with fail
  refine (iTuple_calls ⟨#[]⟩ m _ (by decide) ((B1.cell (p := ⟨0, 0, none⟩) hg).trans hm'.out)).mono ?_
  rw [iV_nil]
  rintro e w2 ⟨rfl, hb2⟩
  have B2 := B1.trans (hb2.mono B1.size)
  have l2 := B2.size
  clear hb2 B1
  go_wp2
  go_ret
  exact ⟨rfl, B2.alloc l2 _⟩
end Go.Proofs.YtnbalmnpcdnidaaDoor
