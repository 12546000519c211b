/- Walk: the program's disk: what an act does to a directory. -/
import Derived.Test.YtgclancneohpbaaDW4
namespace Go.Proofs.Ytgclancneohpbaa
open Go.RowKit Go.Maps
def drop (f : List UInt8 → Option Nat) (s : List UInt8) : List UInt8 → Option Nat := fun s' => if s' = s then none else f s'
def lay (f : List UInt8 → Option Nat) (s : List UInt8) (p : Nat) : List UInt8 → Option Nat := fun s' => if s' = s then some p else f s'
/-- an act without a name to lay -/
def DAct.does (a : DAct) (f : List UInt8 → Option Nat) : List UInt8 → Option Nat :=
  match a.file with
  | none => if a.frm.toList.isEmpty then f else drop f a.frm.data.toList
  | some p => lay (if a.frm.toList.isEmpty then f else drop f a.frm.data.toList) a.to.data.toList p
structure DAct.ok (a : DAct) : Prop where
  frm : a.frm.size ≤ maxLen
  to : a.to.size ≤ maxLen
  file : a.file.isSome = !a.to.toList.isEmpty
def DAct.v (a : DAct) : Value := .agg #[.string a.frm, .string a.to, ptrV a.file]
theorem does_at {w : World} {b n : Nat} {X : DataW Unit} {f : List UInt8 → Option Nat} (h1 : w.ownsMap Try.prog 9 ptrR b n X) (h2 : dirIs X f) (o : Obj) : (w.alloc o).ownsMap Try.prog 9 ptrR b n X ∧ dirIs X f := ⟨h1.alloc o, h2⟩
set_option maxHeartbeats 2000000 in
set_option maxRecDepth 100000 in
theorem does_calls (a : DAct) (b n : Nat) (X : DataW Unit) (f : List UInt8 → Option Nat) (w : World) (ha : a.ok) (h1 : w.ownsMap Try.prog 9 ptrR b n X) (h2 : dirIs X f) (hn : n < maxLen) :
    Calls Try.prog 51 #[a.v, .map (some b)] w fun e w' => e = .returned (.tuple #[]) ∧ (∃ X', w'.ownsMap Try.prog 9 ptrR b (n + 1) X' ∧ dirIs X' (a.does f)) ∧ Keeps (fun k => k = b) w w' := by
  obtain ⟨frm, to, file⟩ := a
  obtain ⟨k1, k2, k3⟩ := ha
  simp only at k1 k2 k3
  have hbl := h1.lt
  have hm1 := h1.alloc (.cells #[.string frm, .string to, ptrV file] 96)
  have bx := Blk.new w 96 #[.string frm, .string to, ptrV file]
  have hk : Keeps (fun k => k = b) w (w.alloc (.cells #[.string frm, .string to, ptrV file] 96)) := (Keeps.refl _ w).alloc _
  cases hf : frm.toList.isEmpty
  · obtain ⟨w2, hr2, ⟨X2, m2, d2⟩, k2'⟩ := dir_del hm1 h2 k1 0
    have bx2 := bx.keeps k2' (by omega)
    have bc := bx2.cell
    have hk2 := hk.trans k2'
    cases ht : to.toList.isEmpty
    · rw [ht] at k3
      cases file with
      | none => simp at k3
      | some p =>
        have he : DAct.does ⟨frm, to, some p⟩ f = lay (drop f frm.data.toList) to.data.toList p := by unfold DAct.does; simp only [hf]; rfl
        obtain ⟨w3, hr3, m3, k3'⟩ := dir_put m2 d2 hn k2 p
        have hk3 := hk2.trans k3'
        rw [he]
        unfold DAct.v ptrV
        unfold ptrV at bc hr2
        clear he
        go_enter Try.func51, Try.ntmps51
        go_wp2
        go_end0
        exact ⟨rfl, m3, hk3⟩
    · rw [ht] at k3
      cases file with
      | some p => simp at k3
      | none =>
        have he : DAct.does ⟨frm, to, none⟩ f = drop f frm.data.toList := by unfold DAct.does; simp only [hf]; rfl
        rw [he]
        unfold DAct.v ptrV
        unfold ptrV at bc hr2
        clear he
        go_enter Try.func51, Try.ntmps51
        go_wp2
        go_end0
        exact ⟨rfl, ⟨X2, m2.mono (by omega), d2⟩, hk2⟩
  · have bc := bx.cell
    cases ht : to.toList.isEmpty
    · rw [ht] at k3
      cases file with
      | none => simp at k3
      | some p =>
        have he : DAct.does ⟨frm, to, some p⟩ f = lay f to.data.toList p := by unfold DAct.does; simp only [hf]; rfl
        obtain ⟨w3, hr3, m3, k3'⟩ := dir_put hm1 h2 hn k2 p
        have hk3 := hk.trans k3'
        rw [he]
        unfold DAct.v ptrV
        unfold ptrV at bc hr3
        clear he bc
        go_enter Try.func51, Try.ntmps51
        go_wp2
        go_end0
        exact ⟨rfl, m3, hk3⟩
    · rw [ht] at k3
      cases file with
      | some p => simp at k3
      | none =>
        have he : DAct.does ⟨frm, to, none⟩ f = f := by unfold DAct.does; simp only [hf]; rfl
        rw [he]
        unfold DAct.v ptrV
        unfold ptrV at hm1 hk
        clear he bc
        go_enter Try.func51, Try.ntmps51
        go_wp2
        go_end0
        exact ⟨rfl, ⟨X, hm1.mono (by omega), h2⟩, hk⟩
end Go.Proofs.Ytgclancneohpbaa
