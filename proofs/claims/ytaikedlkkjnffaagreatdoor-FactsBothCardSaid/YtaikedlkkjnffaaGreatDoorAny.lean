/- A law of one's own for a statement that draws its order: one fact is kept, whichever operation comes next; each operation is looked at once. -/
import Derived.Orders
import Derived.WalkKit
namespace Go.Proofs.YtaikedlkkjnffaaGreatDoor
open Go.RowKit
variable {P : Program} {ops : Array Oper} {Q : Exit → Act → World → Prop}

def unlisted (n : Nat) (listed : Array Bool) : Nat := (List.range n).countP fun i => !listed.getD i true
theorem countP_lt {α : Type} {p q : α → Bool} : ∀ {l : List α}, (∀ x ∈ l, q x = true → p x = true) → (∃ x ∈ l, p x = true ∧ q x = false) → l.countP q < l.countP p
  | [], _, h => by obtain ⟨x, hx, _⟩ := h; cases hx
  | y :: l, hi, h => by
    have hle : l.countP q ≤ l.countP p := List.countP_mono_left fun x hx hq => hi x (List.mem_cons_of_mem _ hx) hq
    obtain ⟨x, hx, hp, hq⟩ := h
    rcases List.mem_cons.1 hx with rfl | hx
    · rw [List.countP_cons_of_pos hp, List.countP_cons_of_neg (by simp [hq])]; omega
    · have := countP_lt (l := l) (fun x hx hq => hi x (List.mem_cons_of_mem _ hx) hq) ⟨x, hx, hp, hq⟩
      have h0 := hi y List.mem_cons_self
      simp only [List.countP_cons]
      by_cases hy : q y = true
      · rw [if_pos hy, if_pos (h0 hy)]; omega
      · rw [if_neg hy]; omega
theorem ready_free {md : Region.Mode} {listed : Array Bool} {i : Nat} (h : i ∈ Region.ready md ops listed) : i < ops.size ∧ listed.getD i true = false := by
  unfold Region.ready at h
  simp only [List.mem_filter, List.mem_range, Bool.and_eq_true, Bool.not_eq_true'] at h
  exact ⟨h.1, h.2.1⟩
theorem unlisted_lt {md : Region.Mode} {listed : Array Bool} {i : Nat} (h : i ∈ Region.ready md ops listed) : unlisted ops.size (listed.setIfInBounds i true) < unlisted ops.size listed := by
  obtain ⟨hi, hf⟩ := ready_free h
  have hlt : i < listed.size := by
    rcases Nat.lt_or_ge i listed.size with h | h
    · exact h
    · simp [Array.getD, Nat.not_lt.2 h] at hf
  refine countP_lt (fun j _ hj => ?_) ⟨i, List.mem_range.2 hi, by simp only [hf, Bool.not_false], ?_⟩
  · by_cases e : j = i
    · subst e; simp only [hf, Bool.not_false]
    · have e' : i ≠ j := fun h => e h.symm
      simpa [Array.getD_eq_getD_getElem?, Array.getElem?_setIfInBounds_ne e'] using hj
  · simp [Array.getD_eq_getD_getElem?, hlt]
theorem wpAny_inv (I : Array Bool → Act → World → Prop)
    (hs : ∀ listed a w i, I listed a w → i ∈ Region.ready .any ops listed → wpOp P ops Q i (fun a' w' => I (listed.setIfInBounds i true) a' w') a w)
    (he : ∀ listed a w, I listed a w → Region.ready .any ops listed = [] → Q .normal a w) :
    ∀ (fuel : Nat) (listed : Array Bool) (a : Act) (w : World), unlisted ops.size listed ≤ fuel → I listed a w → wpAny P .any ops Q fuel listed a w
  | 0, listed, a, w, hu, hI => by
    have hr : Region.ready .any ops listed = [] := by
      cases hr : Region.ready .any ops listed with
      | nil => rfl
      | cons i l =>
        have := unlisted_lt (ops := ops) (md := .any) (listed := listed) (i := i) (by rw [hr]; exact List.mem_cons_self)
        omega
    exact ⟨hr, he listed a w hI hr⟩
  | fuel + 1, listed, a, w, hu, hI =>
    ⟨fun hr => he listed a w hI hr, fun i hi => wpOp_mono (fun a' w' h => wpAny_inv I hs he fuel _ a' w' (by have := unlisted_lt hi; omega) h) (hs listed a w i hI hi)⟩
theorem wp_region_inv {id : Nat} {a : Act} {w : World} (hm : P.follows .mixedOrders = true) (I : Array Bool → Act → World → Prop)
    (h0 : I (Array.replicate ops.size false) a w.drew)
    (hs : ∀ listed a w i, I listed a w → i ∈ Region.ready .any ops listed → wpOp P ops Q i (fun a' w' => I (listed.setIfInBounds i true) a' w') a w)
    (he : ∀ listed a w, I listed a w → listed.size = ops.size → Region.ready .any ops listed = [] → Q .normal a w) : (Code.region id ops true).wp P Q a w :=
  wp_region_any hm (wpAny_inv (fun l a w => l.size = ops.size ∧ I l a w) (fun l a w i hI hi => wpOp_mono (fun a' w' h => ⟨by simpa using hI.1, h⟩) (hs l a w i hI.2 hi)) (fun l a w hI hr => he l a w hI.2 hI.1 hr) _ _ _ _ (by unfold unlisted; exact Nat.le_trans List.countP_le_length (by simp)) ⟨by simp, h0⟩)
/-- what an operation waits for has come -/
theorem ready_on {listed : Array Bool} {i : Nat} {o : Oper} (h : i ∈ Region.ready .any ops listed) (ho : ops[i]? = some o) (e : Edge) (hmem : e ∈ o.after) (hb : Region.binds .any e = true) : listed.getD e.on false = true := by
  unfold Region.ready at h
  simp only [List.mem_filter, ho, Option.map_some, Option.getD_some, Bool.and_eq_true, Array.all_eq_true_iff_forall_mem] at h
  have := h.2.2 e hmem
  rw [hb] at this
  simpa using this
def onNormal (K : Act → World → Prop) (Q : Exit → Act → World → Prop) : Exit → Act → World → Prop
  | .normal, a, w => K a w
  | e, a, w => Q e a w
theorem upon_onNormal {o : Oper} {a : Act} {K next : Act → World → Prop} {r : Result Next} (h : o.upon P a next (onNormal K Q) r) : o.upon P a next Q r := by
  cases r with
  | ok n w' =>
    cases n <;> simp only [Oper.upon] at h ⊢ <;>
      first
        | exact h
        | exact Calls.mono h (fun e w'' he => by cases e <;> exact he)
  | halt x w' => cases x <;> simp only [Oper.upon] at h ⊢ <;> exact h
theorem wpOp_one {i : Nat} {o : Oper} {K : Act → World → Prop} {a : Act} {w : World} (hi : ops[i]? = some o) (h : wpList P ops (onNormal K Q) [o] a w) : wpOp P ops Q i K a w := by
  unfold wpList at h
  unfold wpOp
  simp only [hi]
  split
  · rename_i hw
    rw [if_pos hw] at h
    rcases h with h | ⟨h1, h2⟩
    · exact .inl (upon_onNormal h)
    · exact .inr ⟨h1, h2⟩
  · rename_i hw
    rw [if_neg hw] at h
    exact h
theorem getD_set_ne {l : Array Bool} {i j : Nat} (h : i ≠ j) (b : Bool) : (l.setIfInBounds i true).getD j b = l.getD j b := by
  simp [Array.getD_eq_getD_getElem?, Array.getElem?_setIfInBounds_ne h]
theorem getD_set_eq {l : Array Bool} {i : Nat} (h : l.getD i true = false) : (l.setIfInBounds i true).getD i false = true := by
  have hlt : i < l.size := by
    rcases Nat.lt_or_ge i l.size with h' | h'
    · exact h'
    · simp [Array.getD, Nat.not_lt.2 h'] at h
  simp [Array.getD_eq_getD_getElem?, hlt]
theorem not_listed {l : Array Bool} {i : Nat} (h : l.getD i true = false) : l.getD i false = false := by
  simp [Array.getD_eq_getD_getElem?] at h ⊢
  cases hl : l[i]? <;> simp [hl] at h ⊢
  exact h
theorem ready_done {listed : Array Bool} (hsz : listed.size = ops.size) (h : Region.ready .any ops listed = []) (i : Nat) (hi : i < ops.size)
    (hd : ∀ o, ops[i]? = some o → ∀ e ∈ o.after, Region.binds .any e = true → listed.getD e.on false = true) : listed.getD i false = true := by
  suffices hh : listed.getD i true = true by
    have hl : i < listed.size := by omega
    simpa [Array.getD_eq_getD_getElem?, hl] using hh
  cases hl : listed.getD i true with
  | true => rfl
  | false =>
    exfalso
    have : i ∈ Region.ready .any ops listed := by
      unfold Region.ready
      simp only [List.mem_filter, List.mem_range, Bool.and_eq_true, Bool.not_eq_true']
      refine ⟨hi, hl, ?_⟩
      rw [Array.getElem?_eq_getElem hi]
      simp only [Option.map_some, Option.getD_some, Array.all_eq_true_iff_forall_mem]
      intro e he
      cases hb : Region.binds .any e with
      | false => rfl
      | true => simpa using hd _ (Array.getElem?_eq_getElem hi) e he hb
    rw [h] at this
    cases this
/-- where no operation waits for a later one: when none is ready any more, all have come -/
theorem ready_all {listed : Array Bool} (hsz : listed.size = ops.size) (h : Region.ready .any ops listed = [])
    (hlow : ((List.range ops.size).all fun i => ((ops[i]?).map fun o => o.after.all fun e => decide (e.on < i)).getD true) = true) : ∀ i, i < ops.size → listed.getD i false = true := by
  intro i
  induction i using Nat.strongRecOn with
  | ind i ih =>
    intro hi
    refine ready_done hsz h i hi fun o ho e he _ => ?_
    rw [List.all_eq_true] at hlow
    have := hlow i (List.mem_range.2 hi)
    simp only [ho, Option.map_some, Option.getD_some, Array.all_eq_true_iff_forall_mem] at this
    have hlt : e.on < i := by simpa using this e he
    exact ih e.on hlt (by omega)
end Go.Proofs.YtaikedlkkjnffaaGreatDoor
