/- The program's disk: one more act is noted. -/
import Derived.Test.YtgclancneohpbaaDW5
import Derived.Maps.AppendAt
namespace Go.Proofs.Ytgclancneohpbaa
open Go.RowKit Go.Maps
theorem info_act : (Try.prog.info? 96).map (fun i => (i.zero, i.size, i.bytes)) = some (some (.agg #[.string ⟨#[]⟩, .string ⟨#[]⟩, .pointer none]), 3, 40) := by kernel_rfl
theorem acells_snoc (l : List DAct) (a : DAct) : acells (l ++ [a]) = acells l ++ [.string a.frm, .string a.to, ptrV a.file] := by
  unfold acells
  rw [List.flatMap_append]
  simp
theorem ptrV_one (p : Option Nat) : (ptrV p).oneCell' = true := by cases p <;> rfl
/-- the blocks of a disk but its acts' row, held against that row -/
theorem Dat.row_ne {w : World} {B D bd bs n : Nat} {va : Value} {rows : Nat → Value} {k : Dk} (h : Dat w B D bd bs n va rows k) : va.ownBlock ≠ some D ∧ va.ownBlock ≠ some bd ∧ va.ownBlock ≠ some bs ∧ ∀ f x, k.file f = some x → va.ownBlock ≠ some f ∧ ∀ b, (rows f).ownBlock = some b → va.ownBlock ≠ some b := by
  obtain ⟨X, h1, _⟩ := h.dir
  obtain ⟨Y, h3, _⟩ := h.safe
  have hm : ∀ {b n : Nat} {X : DataW Unit}, w.ownsMap Try.prog 9 ptrR b n X → va.ownBlock ≠ some b := by
    intro b n X hX e
    obtain ⟨_, ⟨rfl, _⟩ | ⟨g, cap, cur, rfl, _, hg, _⟩⟩ := h.acts
    · cases e
    · obtain ⟨es, clock, hb, _⟩ := hX
      obtain rfl : g = b := by simpa [Value.ownBlock] using e
      rw [hg] at hb
      cases hb
  refine ⟨own_blk_ne h.acts h.blk (by decide), hm h1, hm h3, fun f x hf => ?_⟩
  obtain ⟨_, f2, f3, _⟩ := h.file f x hf
  refine ⟨own_blk_ne h.acts f2 (by decide), fun b hb e => ?_⟩
  obtain ⟨_, ⟨h4, _⟩ | ⟨g, cap, cur, h4, _, hg, _⟩⟩ := h.acts
  · rw [h4] at e; cases e
  · obtain ⟨_, ⟨h5, _⟩ | ⟨g', cap', cur', h5, _, hg', _⟩⟩ := f3
    · rw [h5] at hb; cases hb
    · rw [h4] at e
      rw [h5] at hb
      obtain rfl : g = b := by simpa [Value.ownBlock] using e
      obtain rfl : g' = g := by simpa [Value.ownBlock] using hb
      rw [hg] at hg'
      cases hg'
/-- what is left behind the note -/
structure Push (w : World) (B D bd bs n : Nat) (va : Value) (rows : Nat → Value) (k k' : Dk) (o : Nat) (v' : Value) (w' : World) : Prop where
  run : (Builtin.append_ #[86, 86] 86 #[va, .slice (some ⟨o, 0, none⟩) 1 1]).run Try.prog w = .ok v' w'
  cell : ∀ i, w'.cell? ⟨D, i, none⟩ = (dcells k bd bs va)[i]?
  frozen : ∀ i, w'.frozen? ⟨D, i, none⟩ = false
  shape : ∃ p m c, v' = .slice p m c
  dat : Dat (w'.setCell ⟨D, 5, none⟩ v') B D bd bs n v' rows k'
  keeps : Keeps (fun j => va.ownBlock = some j ∨ j = D) w (w'.setCell ⟨D, 5, none⟩ v')
  lies : v'.ownBlock = va.ownBlock ∨ v'.ownBlock = some w.heap.size
theorem Dat.push {w : World} {B D bd bs n : Nat} {va : Value} {rows : Nat → Value} {k : Dk} (h : Dat w B D bd bs n va rows k) (a : DAct) {o : Nat} (ho : Blk w o 96 #[.string a.frm, .string a.to, ptrV a.file]) (hl : k.acts.length ≤ 1000000) (hB : B ≤ w.heap.size) :
    ∃ v' w', Push w B D bd bs n va rows k { k with acts := k.acts ++ [a], room := k.room + 1 } o v' w' := by
  obtain ⟨i0, hi, hz0, hz1, hz2⟩ := info_parts info_act
  obtain ⟨v', w', h2, h3, h4, _, h5⟩ := run_append_own_at (P := Try.prog) w B 86 86 96 i0 (.agg #[.string ⟨#[]⟩, .string ⟨#[]⟩, .pointer none]) 3 40 Try.underlying86 hi hz0 hz1 hz2 rfl (by decide) va k.acts.length _ h.acts ⟨o, 0, none⟩ 1 1 [.string a.frm, .string a.to, ptrV a.file] rfl (by
      intro j u hj
      have e : (⟨o, 0, none⟩ : Addr).add j = ⟨o, j, none⟩ := by
        unfold Addr.add
        split
        · rename_i h0; subst h0; rfl
        · simp
      rw [e, ho.cell j, ← hj]
      simp) (by
      intro u hu
      simp at hu
      rcases hu with rfl | rfl | rfl
      · rfl
      · rfl
      · exact ptrV_one _) (by unfold maxLen; omega) (by omega) hB
  obtain ⟨r1, r2, r3, r4⟩ := h.row_ne
  have hk : Keeps (fun j => va.ownBlock = some j) w w' := (Keeps.refl _ w).grown h4 (fun j e => .inl (by rw [e]))
  have hD := h.blk.keeps hk r1
  have hne : v'.ownBlock ≠ some D := own_blk_ne h3 hD (by decide)
  have hs : Keeps (fun j => j = D) w' (w'.setCell ⟨D, 5, none⟩ v') := Keeps.setCell (S := fun j => j = D) (Keeps.refl _ w') (p := ⟨D, 5, none⟩) (.inl rfl) _
  obtain ⟨X, m1, d1⟩ := h.dir
  obtain ⟨Y, m2, d2⟩ := h.safe
  have m1' := map_keeps m1 hk r2
  have m2' := map_keeps m2 hk r3
  refine ⟨v', w', h2, hD.cell, hD.frozen, ?_, ⟨hD.set_ 5 _, ⟨X, map_keeps m1' hs (map_ne m1' hD), d1⟩, ⟨Y, map_keeps m2' hs (map_ne m2' hD), d2⟩, h.two, ?_, fun f x hf => ?_, h.apart, h.base⟩, ?_, h5⟩
  · obtain ⟨_, ⟨rfl, _⟩ | ⟨g, cap, cur, rfl, _⟩⟩ := h3
    · exact ⟨_, _, _, rfl⟩
    · exact ⟨_, _, _, rfl⟩
  · have h6 := own_keeps h3 hs (fun g hg e => hne (by rw [hg, e]))
    show World.ownsRow _ _ _ _ _ (k.acts ++ [a]).length (acells (k.acts ++ [a]))
    rw [List.length_append, acells_snoc]
    exact h6
  · obtain ⟨f1, f2, f3, f4⟩ := h.file f x hf
    obtain ⟨r5, r6⟩ := r4 f x hf
    have f2' := f2.keeps hk r5
    have f3' := own_keeps f3 hk r6
    exact ⟨f1, f2'.keeps hs (fun e => f2'.ne_ hD (by decide) e), own_keeps f3' hs (fun g hg e => own_blk_ne f3' hD (by decide) (by rw [hg, e])), f4⟩
  · exact (hk.mono (fun _ _ e => .inl e)).setCell (p := ⟨D, 5, none⟩) (.inl (.inr rfl)) _
/-- an append, kept shut -/
def dappOp (tys : Array TypeId) (ty : TypeId) (args : Array Value) : Sem Value := Builtin.append_ tys ty args
theorem dapp_op (tys : Array TypeId) (ty : TypeId) (args : Array Value) : Builtin.append_ tys ty args = dappOp tys ty args := rfl
end Go.Proofs.Ytgclancneohpbaa
