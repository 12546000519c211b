/- Walks: the reference's Print, Key, Of. -/
import Derived.Test.YtkmdlpkdoplpdaaDoorW10
import Derived.Deep.RegionHeld3
namespace Go.Proofs.YtkmdlpkdoplpdaaDoor
open Go.RowKit
theorem print_has' (t : Tup) (h : (!t.f.toList.isEmpty) = true) : t.base ++ ⟨#[35]⟩ ++ t.f = t.print := by
  rw [print_has t h, ByteArray.append_assoc]
theorem ret_str {a b : ByteArray} (h : a = b) : Ending.returned (.string a) = .returned (.string b) := by rw [h]
set_option maxHeartbeats 400000 in
theorem refPrint_calls (t : Tup) (w : World) (hc : t.ok = true) :
    Calls Tryd.prog 23 #[t.v] w fun e w' => e = .returned (.string t.print) ∧ Below w.heap.size w w' := by
  obtain ⟨h0, h1, h2, h3, h4, h5⟩ := Tup.ok_le hc
  unfold Tup.v
  go_enter Tryd.func23, Tryd.ntmps23
  go_wp2
  all_goals (go_ret; exact ⟨ret_str (by first | exact print_has' t (by assumption) | exact (print_hasnt t (by assumption)).symm), (Below.refl _ _).alloc (Nat.le_refl _) _⟩)
def keyB (t : Tup) (k : Nat) : ByteArray := ⟨(keyL (t.ls.take k)).toArray⟩
theorem keyL_app : ∀ (l : List (List UInt8)) (p : List UInt8), keyL (l ++ [p]) = keyL l ++ (p ++ [0])
  | [], p => by simp [keyL]
  | q :: l, p => by simp [keyL, keyL_app l p]
theorem keyB_succ (t : Tup) (k : Nat) (h : k < 6) : keyB t k ++ t.part k ++ ⟨#[0]⟩ = keyB t (k + 1) := by
  apply bytes_ext
  have e : t.ls.take (k + 1) = t.ls.take k ++ [(t.part k).data.toList] := by
    rw [List.take_add_one, part_ls t k h]; rfl
  have e2 : (keyB t (k + 1)).data.toList = keyL (t.ls.take (k + 1)) := rfl
  have e3 : (keyB t k).data.toList = keyL (t.ls.take k) := rfl
  rw [e2, e, keyL_app]
  simp [e3]
theorem keyL_take : ∀ (l : List (List UInt8)) (k : Nat), (keyL (l.take k)).length ≤ (keyL l).length
  | [], k => by simp
  | p :: l, 0 => by simp [keyL]
  | p :: l, k + 1 => by
    have := keyL_take l k
    simp only [List.take_succ_cons, keyL, List.length_append, List.length_cons]
    omega
theorem keyB_le {t : Tup} (h : t.ok = true) (k : Nat) : (keyB t k).size ≤ 198 := by
  have h1 := key_len h
  rw [Lib.size_eq] at h1 ⊢
  exact Nat.le_trans (keyL_take t.ls k) h1
theorem keyB_6 (t : Tup) : keyB t 6 = t.key := rfl
set_option maxHeartbeats 1000000 in
theorem of_ref_calls (t : Tup) (g : Nat) (w : World) (hg : g < w.heap.size) (hk : Blk w g 9 t.cells) :
    Calls Tryd.prog 42 #[.slice (some ⟨g, 0, none⟩) 6 6] w fun e w' => e = .returned t.v ∧ Below w.heap.size w w' := by
  have c0 : ∀ i, w.cell? ⟨g, i, none⟩ = (#[.string t.a, .string t.b, .string t.c, .string t.d, .string t.e, .string t.f] : Array Value)[i]? := hk.cell
  clear hk
  go_enter Tryd.func42, Tryd.ntmps42
  go_wp2_with fail
  go_region_held3 (fun w' => (∀ i, w'.cell? ⟨g, i, none⟩ = (#[.string t.a, .string t.b, .string t.c, .string t.d, .string t.e, .string t.f] : Array Value)[i]?)) (exact fun i => (World.cell?_alloc_lt w _ ⟨g, i, none⟩ hg).trans (c0 i)) (fail)
  go_wp2
  exact bodyPost_ret (v := t.v) (by simp [results, Tryd.results42, go_sem, Tup.v]) rfl ⟨rfl, ((Below.refl _ _).alloc (Nat.le_refl _) _).drew⟩
end Go.Proofs.YtkmdlpkdoplpdaaDoor
