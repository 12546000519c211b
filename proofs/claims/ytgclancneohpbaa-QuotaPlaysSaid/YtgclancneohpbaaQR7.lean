/- Walk: the document's quota: Take. -/
import Derived.Test.YtgclancneohpbaaQR6
namespace Go.Proofs.Ytgclancneohpbaa
open Go.RowKit
def rq (r : RQ) (t n i : Nat) (cs' : List (ByteArray × Nat)) (c : ByteArray × Nat) : RQ := { r.tick t with cs := cs'.set i (c.1, if n ≤ c.2 then c.2 - n else c.2) }
def TakePost (w : World) (B g : Nat) (v : Value) (r : RQ) (s : ByteArray) (n t : Nat) (e : Ending) (w' : World) : Prop :=
  ∃ (i : Nat) (cs' : List (ByteArray × Nat)) (c : ByteArray × Nat) (v' : Value), e = .returned (.bool (decide (n ≤ c.2))) ∧ AtIs (r.tick t).cs r.most s.data.toList cs' i c ∧ cs'.length ≤ r.cs.length + 1 ∧ (∀ d ∈ cs', d.2 ≤ r.most) ∧ Rat w' B g v' (rq r t n i cs' c) ∧ Keeps (rset g v) w w' ∧ (v' = v ∨ ∀ k, v'.ownBlock = some k → w.heap.size ≤ k)
theorem tick_most (r : RQ) (t : Nat) : (r.tick t).most = r.most := by unfold RQ.tick; split <;> rfl
theorem tick_len (r : RQ) (t : Nat) : (r.tick t).cs.length = r.cs.length := by unfold RQ.tick; split <;> simp
theorem set_same {cs : List (ByteArray × Nat)} {i : Nat} {c : ByteArray × Nat} (h : cs[i]? = some c) : cs.set i (c.1, c.2) = cs := by
  apply List.ext_getElem?
  intro j
  rw [List.getElem?_set]
  by_cases e : i = j
  · subst e
    have hl := (List.getElem?_eq_some_iff.1 h).1
    rw [if_pos rfl, if_pos hl, h]
  · rw [if_neg e]
set_option maxHeartbeats 4000000 in
set_option maxRecDepth 100000 in
theorem rtake_calls (r : RQ) (B g : Nat) (v : Value) (s : ByteArray) (n t : Nat) (w : World) (hr : Rat w B g v r) (hk : Rok r) (ht : t < 18446744073709551616) (hs : sorted (r.tick t).cs) (hB : B ≤ w.heap.size) :
    Calls Try.prog 19 #[.pointer (some ⟨g, 0, none⟩), .string s, .int .u64 n, .int .u64 t] w (TakePost w B g v r s n t) := by
  have hT := tick_calls r B g t v w hr hk ht
  have hk2 := hk.tick ht
  go_enter Try.func19, Try.ntmps19
  go_wp2_with fail
  refine hT.mono ?_
  clear hT
  rintro e w1 ⟨rfl, hR1, hk1⟩
  have hz1 := hk1.size
  have hA := at_calls (r.tick t) B g v s w1 hR1 hk2 hs (by omega)
  have hA' := Lib.hid hA
  clear hA
  go_wp2_with fail
  refine hA'.out.mono ?_
  clear hA'
  unfold AtPost
  rintro e w2 ⟨i, cs', c, v', rfl, hAt, hl, hmem, hR2, hk3, hv⟩
  rw [tick_most] at hAt hmem
  rw [tick_len] at hl
  have hle : ∀ d ∈ cs', d.2 ≤ r.most := by
    intro d hd
    rcases hmem d hd with h | h
    · have := hk2.each d h
      rwa [tick_most] at this
    · omega
  have hcle := hle c (List.mem_of_getElem? hAt.here)
  have hmost := hk.most
  have hil := (List.getElem?_eq_some_iff.1 hAt.here).1
  have hown := hR2.own
  obtain ⟨p, cap, rfl⟩ := own_shape hown
  obtain ⟨b, rfl⟩ := own_some hown (Nat.lt_of_le_of_lt (Nat.zero_le _) hil)
  obtain ⟨d0, d1⟩ := rcells_at cs' i c hAt.here
  have a1 := (hown.cellAt (i * 2 + 1) (by show i * 2 + 1 < cs'.length * 2; omega)).trans d1
  have af := hown.frozenAt (i * 2 + 1)
  have qc := hR2.blk.cell
  have hgb : g ≠ b := fun e => hR2.ne (by rw [e]; rfl)
  have hil' : (i : Int) < (cs'.length : Int) := by omega
  have hvv : (Value.slice (some ⟨b, 0, none⟩) cs'.length cap) = v ∨ ∀ k, (Value.slice (some ⟨b, 0, none⟩) cs'.length cap).ownBlock = some k → w.heap.size ≤ k := by
    rcases hv with h | h
    · exact .inl h
    · exact .inr fun k hk => by have := h k hk; omega
  have hkk : Keeps (rset g v) w w2 := hk1.step hk3 (fun k e => .inl (.inl e))
  have hst : ∀ (x : Int) (x' : Nat), x = (x' : Int) → Rat (w2.setCell ⟨b, i * 2 + 1, none⟩ (.int .u64 x)) B g (.slice (some ⟨b, 0, none⟩) cs'.length cap) { r.tick t with cs := cs'.set i (c.1, x') } ∧ Keeps (rset g v) w (w2.setCell ⟨b, i * 2 + 1, none⟩ (.int .u64 x)) := fun x x' hx => by
    refine ⟨hR2.store hAt.here x x' hx, hkk.setCell (p := ⟨b, i * 2 + 1, none⟩) ?_ _⟩
    rcases hvv with h | h
    · exact .inl (.inr (by rw [← h]; rfl))
    · exact .inr (h b rfl)
  have hR2' := Lib.hid hR2
  have hAt' := Lib.hid hAt
  have hst' := Lib.hid hst
  clear hR2 hAt hst hv hown d0 d1 hmem hk3
  by_cases hn : n ≤ c.2
  · have hw : IntKind.u64.wrap ((c.2 : Int) - (n : Int)) = ((c.2 - n : Nat) : Int) := by rw [IntKind.wrap_u64]; omega
    have hlt : ¬ c.2 < n := by omega
    have hs2 := hst'.out ((c.2 - n : Nat) : Int) (c.2 - n) rfl
    have hs2' := Lib.hid hs2
    clear hs2
    go_wp2
    go_ret
    exact ⟨i, cs', c, _, by rw [decide_eq_true hn]; rfl, hAt'.out, hl, hle, by unfold rq; rw [if_pos hn]; exact hs2'.out.1, hs2'.out.2, hvv⟩
  · have hlt : c.2 < n := by omega
    have hs2 : Rat w2 B g (.slice (some ⟨b, 0, none⟩) cs'.length cap) (rq r t n i cs' c) := by
      unfold rq
      rw [if_neg hn, set_same hAt'.out.here]
      exact hR2'.out
    have hs2' := Lib.hid hs2
    clear hs2
    go_wp2
    go_ret
    exact ⟨i, cs', c, _, by rw [decide_eq_false hn]; rfl, hAt'.out, hl, hle, hs2'.out, hkk, hvv⟩
end Go.Proofs.Ytgclancneohpbaa
