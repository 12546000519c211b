/- Walk: the document's IsName. Tokens in memory, as a slice of strings; what a walk of the document's parse leaves. -/
import Derived.Test.YtkibaaljpbcjeaaDoorW1
import Derived.Test.YtkibaaljpbcjeaaDoorSPp
namespace Go.Proofs.YtkibaaljpbcjeaaDoor
open Go.RowKit
theorem isName_len (s : ByteArray) (h : s.data.toList.all nameByte = true) : isName s.data.toList = (decide (1 ≤ (s.size : Int)) && decide ((s.size : Int) ≤ 32)) := by
  unfold isName
  rw [h, Lib.size_eq]
  rw [Bool.eq_iff_iff]
  simp
  omega
set_option maxHeartbeats 400000 in
theorem refIsName_calls (s : ByteArray) (w : World) (hs : s.size ≤ maxLen) :
    Calls Tryd.prog 21 #[.string s] w fun e w' => e = .returned (.bool (isName s.data.toList)) ∧ w = w' := by
  unfold maxLen at hs
  go_enter Tryd.func21, Tryd.ntmps21
  go_wp2
  go_loop [3] (fun i => ∃ k : Nat, k ≤ s.size ∧ i = .int .i64 k ∧ (s.data.toList.take k).all nameByte = true) (fun i => s.size - (intOf i).toNat)
  case atStart => exact ⟨0, Nat.zero_le _, rfl, by simp⟩
  case round =>
    obtain ⟨k, hk, rfl, hall⟩ := hrel
    have hall' := Lib.hid hall
    clear hall
    by_cases hlt : k < s.size
    · go_wp2
      all_goals first
        | (go_round
           case rel => exact ⟨k + 1, by omega, by go_num, all_step s k hlt hall'.out (by rw [nameByte_int]; grind)⟩
           case measure => simp [intOf]; omega)
        | (go_ret
           exact ⟨ret_bool (not_all s k hlt (by rw [nameByte_int]; grind)).symm, rfl⟩)
    · have hn := isName_len s (by have h := hall'.out; rwa [List.take_of_length_le (by rw [← Lib.size_eq]; omega)] at h)
      have hn' := Lib.hid hn
      clear hn
      go_wp2
      all_goals (go_ret; refine ⟨ret_bool ?_, rfl⟩; rw [hn'.out]; grind)
end Go.Proofs.YtkibaaljpbcjeaaDoor
namespace Go.Proofs.YtkibaaljpbcjeaaDoor
open Go.RowKit
/-- a slice of strings in block g -/
def LAt (w : World) (g : Nat) (v : Value) (l : Toks) : Prop := ∃ (o c : Nat) (cur : Array Value), v = .slice (some ⟨g, o, none⟩) l.length c ∧ l.length ≤ c ∧ Blk w g 9 cur ∧ (∀ (i : Nat) (x : List UInt8), l[i]? = some x → cur[o + i]? = some (strV x)) ∧ ∀ x ∈ l, x.length ≤ 100000
section
variable {w w' : World} {g : Nat} {v : Value} {l : Toks}
theorem LAt.keeps {S : Nat → Prop} (h : LAt w g v l) (hk : Keeps S w w') (hs : ¬ S g) : LAt w' g v l := by
  obtain ⟨o, c, cur, rfl, h1, h2, h3⟩ := h
  exact ⟨o, c, cur, rfl, h1, h2.keeps hk hs, h3⟩
theorem LAt.below {B : Nat} (h : LAt w g v l) (hb : Below B w w') (hl : g < B) : LAt w' g v l := by
  obtain ⟨o, c, cur, rfl, h1, h2, h3⟩ := h
  exact ⟨o, c, cur, rfl, h1, h2.below hb hl, h3⟩
theorem LAt.lt (h : LAt w g v l) : g < w.heap.size := by
  obtain ⟨o, c, cur, rfl, h1, h2, h3⟩ := h
  exact h2.lt
theorem LAt.sz (h : LAt w g v l) : ∀ x ∈ l, x.length ≤ 100000 := by
  obtain ⟨o, c, cur, rfl, h1, h2, h3, h4⟩ := h
  exact h4
theorem LAt.cell {o n c : Nat} (h : LAt w g (.slice (some ⟨g, o, none⟩) n c) l) : n = l.length ∧ n ≤ c ∧ (∀ i x, l[i]? = some x → w.cell? ⟨g, o + i, none⟩ = some (strV x)) ∧ ∀ k, k ≤ n → LAt w g (.slice (some ⟨g, o + k, none⟩) (n - k) (c - k)) (l.drop k) := by
  obtain ⟨o', c', cur, e, h1, h2, h3, h4⟩ := h
  injection e with e1 e2 e3
  subst e2 e3
  injection e1 with e1
  injection e1 with e1 e4
  subst e4
  refine ⟨rfl, h1, fun i x hi => by rw [h2.cell]; exact h3 i x hi, fun k hk => ⟨o + k, c - k, cur, ?_, ?_, h2, fun i x hi => ?_, fun x hx => h4 x (List.mem_of_mem_drop hx)⟩⟩
  · rw [List.length_drop]
  · rw [List.length_drop]; omega
  · rw [List.getElem?_drop] at hi
    rw [Nat.add_assoc]; exact h3 _ _ hi
theorem LAt.ne_ (h : LAt w g v l) {q : Nat} {cs : Array Value} (hb : Blk w q 42 cs) : g ≠ q := by
  obtain ⟨o, c, cur, rfl, h1, h2, h3⟩ := h
  exact h2.ne_ hb (by decide)
theorem LAt.cut {o n c : Nat} (h : LAt w g (.slice (some ⟨g, o, none⟩) n c) l) {k : Nat} (hk : c = k) : LAt w g (.slice (some ⟨g, o, none⟩) (n - k) 0) (l.drop k) := by
  obtain ⟨o', c', cur, e, h1, h2, h3, h4⟩ := h
  injection e with e1 e2 e3
  subst e2 e3 hk
  have hd : l.drop c = [] := List.drop_eq_nil_of_le h1
  rw [hd]
  exact ⟨o, 0, cur, by rw [show l.length - c = 0 by omega]; rfl, Nat.le_refl _, h2, fun i x hi => by simp at hi, fun x hx => by simp at hx⟩
theorem LAt.form (h : LAt w g v l) : ∃ o c, v = .slice (some ⟨g, o, none⟩) l.length c ∧ l.length ≤ c := by
  obtain ⟨o, c, cur, rfl, h1, h2, h3⟩ := h
  exact ⟨o, c, rfl, h1⟩
end
/-- what a walk of the document's parse over tokens leaves -/
def DTold (D : Toks → Option (RT × Toks)) (w : World) (g : Nat) (l : Toks) (e : Ending) (w' : World) : Prop :=
  Below w.heap.size w w' ∧ ∃ (k : Int) (a b : ByteArray) (p : Option Addr) (n c : Nat) (p2 : Option Addr) (n2 c2 : Nat) (ok : Bool), e = .returned (.tuple #[.agg #[.int .i64 k, .string a, .string b, .slice p n c], .slice p2 n2 c2, .bool ok]) ∧
    ((ok = false ∧ D l = none) ∨ (ok = true ∧ ∃ r l', D l = some (r, l') ∧ RAt (fun j => w.heap.size ≤ j) w' [.int .i64 k, .string a, .string b, .slice p n c] r ∧ LAt w' g (.slice p2 n2 c2) l'))
/-- what a store of the result leaves -/
theorem put_res {w V : World} {z : Array Value} (hz : z.size = 4) (hb : Below w.heap.size w V) (hr : Blk V w.heap.size 42 z) (v0 v1 v2 v3 : Value) :
    ∃ W, ((((V.setCell ⟨w.heap.size, 0, none⟩ v0).setCell ⟨w.heap.size, 1, none⟩ v1).setCell ⟨w.heap.size, 2, none⟩ v2).setCell ⟨w.heap.size, 3, none⟩ v3) = W ∧ Blk W w.heap.size 42 #[v0, v1, v2, v3] ∧ Below w.heap.size w W ∧ Keeps (fun j => j = w.heap.size) V W := by
  refine ⟨_, rfl, ?_, ?_, ?_⟩
  · have := (((hr.set_ 0 v0).set_ 1 v1).set_ 2 v2).set_ 3 v3
    have e : (((z.setIfInBounds 0 v0).setIfInBounds 1 v1).setIfInBounds 2 v2).setIfInBounds 3 v3 = #[v0, v1, v2, v3] := by
      obtain ⟨l⟩ := z
      match l, hz with
      | [_, _, _, _], _ => rfl
    rw [e] at this; exact this
  · exact (((hb.setCell (p := ⟨w.heap.size, 0, none⟩) (Nat.le_refl _) v0).setCell (p := ⟨w.heap.size, 1, none⟩) (Nat.le_refl _) v1).setCell (p := ⟨w.heap.size, 2, none⟩) (Nat.le_refl _) v2).setCell (p := ⟨w.heap.size, 3, none⟩) (Nat.le_refl _) v3
  · exact ((((Keeps.refl (fun j => j = w.heap.size) V).setCell (p := ⟨w.heap.size, 0, none⟩) (.inl rfl) _).setCell (p := ⟨w.heap.size, 1, none⟩) (.inl rfl) _).setCell (p := ⟨w.heap.size, 2, none⟩) (.inl rfl) _).setCell (p := ⟨w.heap.size, 3, none⟩) (.inl rfl) _
end Go.Proofs.YtkibaaljpbcjeaaDoor
