/- Conditions in memory. No program in sight. -/
import Derived.Test.YtfhdecdlkmibmaaDoorC16
import Derived.Test.YtfhdecdlkmibmaaDoorRow
namespace Go.Proofs.YtfhdecdlkmibmaaDoor
open Go.RowKit
def strV (l : List UInt8) : Value := .string ⟨l.toArray⟩
/-- a condition's cells; each row of its tree lies in a block of P -/
inductive CAt (P : Nat → Prop) (w : World) : List Value → CT → Prop
  | mk {k n : Int} {s : List UInt8} {v : Value} {ps : List CT} {cs : List Value} (hrow : RowAt w 25 v ps.length cs) (hP : ∀ g, v.ownBlock = some g → P g) (hlen : cs.length = ps.length * 4) (hparts : ∀ (i : Nat) (p : CT), ps[i]? = some p → CAt P w ((cs.drop (i * 4)).take 4) p) : CAt P w [.int .i64 k, .int .i64 n, strV s, v] (.node k n s ps)
/-- the cells of several conditions -/
structure PartsAt (P : Nat → Prop) (w : World) (cs : List Value) (ps : List CT) : Prop where
  len : cs.length = ps.length * 4
  part : ∀ (i : Nat) (p : CT), ps[i]? = some p → CAt P w ((cs.drop (i * 4)).take 4) p
section
variable {P Q S : Nat → Prop} {w w' : World} {cs cs' : List Value} {r : CT} {ps ps' : List CT}
theorem CAt.mono (h : CAt P w cs r) (hP : ∀ j, P j → j < w.heap.size → Q j) : CAt Q w cs r := by
  induction h with
  | mk hrow hp hlen _ ih => exact .mk hrow (fun g hg => hP g (hp g hg) (hrow.lt g hg)) hlen fun i p hi => ih i p hi
theorem CAt.keeps (h : CAt P w cs r) (hk : Keeps S w w') (hs : ∀ j, P j → j < w.heap.size → ¬ S j) : CAt P w' cs r := by
  induction h with
  | mk hrow hp hlen _ ih => exact .mk (hrow.keeps hk fun g hg => hs g (hp g hg) (hrow.lt g hg)) hp hlen fun i p hi => ih i p hi
theorem CAt.later (h : CAt P w cs r) (hb : Below w.heap.size w w') : CAt P w' cs r := h.keeps (S := fun _ => False) (.of_below hb) fun _ _ _ => id
theorem PartsAt.nil : PartsAt P w [] [] := ⟨rfl, fun i p h => by simp at h⟩
theorem PartsAt.mono (h : PartsAt P w cs ps) (hP : ∀ j, P j → j < w.heap.size → Q j) : PartsAt Q w cs ps := ⟨h.len, fun i p hi => (h.part i p hi).mono hP⟩
theorem PartsAt.keeps (h : PartsAt P w cs ps) (hk : Keeps S w w') (hs : ∀ j, P j → j < w.heap.size → ¬ S j) : PartsAt P w' cs ps := ⟨h.len, fun i p hi => (h.part i p hi).keeps hk hs⟩
theorem PartsAt.later (h : PartsAt P w cs ps) (hb : Below w.heap.size w w') : PartsAt P w' cs ps := h.keeps (S := fun _ => False) (.of_below hb) fun _ _ _ => id
theorem PartsAt.app (h : PartsAt P w cs ps) (h' : PartsAt P w cs' ps') : PartsAt P w (cs ++ cs') (ps ++ ps') := by
  refine ⟨by rw [List.length_append, List.length_append, h.len, h'.len, Nat.add_mul], fun i p hi => ?_⟩
  by_cases hlt : i < ps.length
  · rw [List.getElem?_append_left hlt] at hi
    have h1 := h.part i p hi
    rw [List.drop_append_of_le_length (by rw [h.len]; omega), List.take_append_of_le_length (by rw [List.length_drop, h.len]; omega)]
    exact h1
  · rw [List.getElem?_append_right (by omega)] at hi
    have h1 := h'.part _ p hi
    have e : i * 4 = cs.length + (i - ps.length) * 4 := by rw [h.len, Nat.sub_mul]; omega
    rw [e, ← List.drop_drop, List.drop_left]
    exact h1
theorem CAt.len (h : CAt P w cs r) : cs.length = 4 := by cases h; rfl
theorem CAt.one (h : CAt P w cs r) : PartsAt P w cs [r] := by
  refine ⟨by rw [h.len]; rfl, fun i p hi => ?_⟩
  match i, hi with
  | 0, hi =>
    obtain rfl := Option.some.inj hi
    rw [Nat.zero_mul, List.drop_zero, List.take_of_length_le (by rw [h.len]; exact Nat.le_refl _)]
    exact h
theorem CAt.parts_ {k : Value} {a b v : Value} (h : CAt P w [k, a, b, v] r) : ∃ cs, RowAt w 25 v r.parts.length cs ∧ (∀ g, v.ownBlock = some g → P g) ∧ PartsAt P w cs r.parts ∧ k = .int .i64 r.kind := by
  cases h with
  | mk hrow hP hlen hparts => exact ⟨_, hrow, hP, ⟨hlen, hparts⟩, rfl⟩
theorem CAt.form {P : Nat → Prop} {w : World} {cs : List Value} {r : CT} (h : CAt P w cs r) : ∃ (p : Option Addr) (n c : Nat), cs = [.int .i64 r.kind, .int .i64 r.num, strV r.str, .slice p n c] ∧ n = r.parts.length := by
  cases h with
  | mk hrow _ _ _ =>
    obtain ⟨p, c, rfl⟩ := hrow.slice
    exact ⟨_, _, _, rfl, rfl⟩
theorem CAt.leaf (P : Nat → Prop) (w : World) (k n : Int) (s : List UInt8) : CAt P w [.int .i64 k, .int .i64 n, strV s, .slice none 0 0] (.node k n s []) :=
  .mk (.inl ⟨rfl, rfl⟩) (fun g hg => by simp [Value.ownBlock] at hg) (cs := []) rfl fun i p h => by simp at h
end
end Go.Proofs.YtfhdecdlkmibmaaDoor
