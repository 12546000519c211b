/- A statement that draws its order, walked in few orders: what only reads is taken first; of the others one comes, one of two, or one of three. -/
import Derived.Test.YtdfgbkilaepolaaGreatDoorPO13
namespace Go.Proofs.YtdfgbkilaepolaaGreatDoor
open Go.RowKit
/-- a way through: the end; what is taken first; what comes because nothing else can; one of two -/
inductive Wy where
  | done
  | take (i : Nat) (r : Wy)
  | go (j : Nat) (r : Wy)
  | both (j : Nat) (r : Wy) (k : Nat) (s : Wy)
  | three (j : Nat) (r : Wy) (k : Nat) (s : Wy) (l : Nat) (t : Wy)
def Wy.len : Wy → Nat
  | .done => 0
  | .take _ r => r.len + 1
  | .go _ r => r.len + 1
  | .both _ r _ s => max r.len s.len + 1
  | .three _ r _ s _ t => max (max r.len s.len) t.len + 1
section
variable {P : Program} {ops : Array Oper} {Q : Exit → Act → World → Prop} {md : Region.Mode} {S : World → Prop} {E : Nat → Bool}
def okY (md : Region.Mode) (ops : Array Oper) (Es : List Nat) : Wy → Array Bool → Bool
  | .done, listed => (Region.ready md ops listed).isEmpty
  | .take i r, listed => (Region.ready md ops listed).contains i && Region.free md ops listed i && !Es.contains i && Es.all (fun j => (ops[j]?).all fun oj => waitsFor md oj i && !listed.getD j true) && okY md ops Es r (listed.setIfInBounds i true)
  | .go j r, listed => (Region.ready md ops listed == [j]) && okY md ops Es r (listed.setIfInBounds j true)
  | .both j r k s, listed => (Region.ready md ops listed == [j, k]) && okY md ops Es r (listed.setIfInBounds j true) && okY md ops Es s (listed.setIfInBounds k true)
  | .three j r k s l t, listed => (Region.ready md ops listed == [j, k, l]) && okY md ops Es r (listed.setIfInBounds j true) && okY md ops Es s (listed.setIfInBounds k true) && okY md ops Es t (listed.setIfInBounds l true)
def wpY (P : Program) (ops : Array Oper) (Q : Exit → Act → World → Prop) (S : World → Prop) (Es : List Nat) : Wy → Act → World → Prop
  | .done, a, w => Q .normal a w
  | .take i r, a, w => ∃ oi v, ops[i]? = some oi ∧ YieldsIf P ops S oi v a ∧ wpY P ops Q S Es r (a.put oi.dst v) w
  | .go j r, a, w => wpOp P ops Q j (fun a' w' => (Es.contains j = false → S w') ∧ wpY P ops Q S Es r a' w') a w
  | .both j r k s, a, w => wpOp P ops Q j (fun a' w' => (Es.contains j = false → S w') ∧ wpY P ops Q S Es r a' w') a w ∧ wpOp P ops Q k (fun a' w' => (Es.contains k = false → S w') ∧ wpY P ops Q S Es s a' w') a w
  | .three j r k s l t, a, w => wpOp P ops Q j (fun a' w' => (Es.contains j = false → S w') ∧ wpY P ops Q S Es r a' w') a w ∧ wpOp P ops Q k (fun a' w' => (Es.contains k = false → S w') ∧ wpY P ops Q S Es s a' w') a w ∧ wpOp P ops Q l (fun a' w' => (Es.contains l = false → S w') ∧ wpY P ops Q S Es t a' w') a w
theorem wpY_take {Es : List Nat} {i : Nat} {r : Wy} {d : Option Tmp} {op : Op} {ty : TypeId} {pos : String} {af : Array Edge} {g : Option (Nat × Bool)} {v : Value} {a : Act} {w : World} (hi : ops[i]? = some ⟨d, op, ty, pos, af, g⟩) (hy : YieldsIf P ops S ⟨d, op, ty, pos, af, g⟩ v a) (h : wpY P ops Q S Es r (a.put d v) w) : wpY P ops Q S Es (.take i r) a w := ⟨_, v, hi, hy, h⟩
theorem wpY_go {Es : List Nat} {j : Nat} {r : Wy} {d : Option Tmp} {op : Op} {ty : TypeId} {pos : String} {af : Array Edge} {g : Option (Nat × Bool)} {a : Act} {w : World} (hj : ops[j]? = some ⟨d, op, ty, pos, af, g⟩) (h : wpList P ops (onNormal (fun a' w' => (Es.contains j = false → S w') ∧ wpY P ops Q S Es r a' w') Q) [⟨d, op, ty, pos, af, g⟩] a w) : wpY P ops Q S Es (.go j r) a w := wpOp_one hj h
theorem wpY_both {Es : List Nat} {j k : Nat} {r s : Wy} {d : Option Tmp} {op : Op} {ty : TypeId} {pos : String} {af : Array Edge} {g : Option (Nat × Bool)} {d' : Option Tmp} {op' : Op} {ty' : TypeId} {pos' : String} {af' : Array Edge} {g' : Option (Nat × Bool)} {a : Act} {w : World} (hj : ops[j]? = some ⟨d, op, ty, pos, af, g⟩) (hk : ops[k]? = some ⟨d', op', ty', pos', af', g'⟩)
    (h : wpList P ops (onNormal (fun a' w' => (Es.contains j = false → S w') ∧ wpY P ops Q S Es r a' w') Q) [⟨d, op, ty, pos, af, g⟩] a w) (h' : wpList P ops (onNormal (fun a' w' => (Es.contains k = false → S w') ∧ wpY P ops Q S Es s a' w') Q) [⟨d', op', ty', pos', af', g'⟩] a w) : wpY P ops Q S Es (.both j r k s) a w := ⟨wpOp_one hj h, wpOp_one hk h'⟩
theorem wpY_three {Es : List Nat} {j k l : Nat} {r s t : Wy} {d1 : Option Tmp} {op1 : Op} {ty1 : TypeId} {pos1 : String} {af1 : Array Edge} {g1 : Option (Nat × Bool)} {d2 : Option Tmp} {op2 : Op} {ty2 : TypeId} {pos2 : String} {af2 : Array Edge} {g2 : Option (Nat × Bool)} {d3 : Option Tmp} {op3 : Op} {ty3 : TypeId} {pos3 : String} {af3 : Array Edge} {g3 : Option (Nat × Bool)} {a : Act} {w : World} (hj : ops[j]? = some ⟨d1, op1, ty1, pos1, af1, g1⟩) (hk : ops[k]? = some ⟨d2, op2, ty2, pos2, af2, g2⟩) (hl : ops[l]? = some ⟨d3, op3, ty3, pos3, af3, g3⟩)
    (h1 : wpList P ops (onNormal (fun a' w' => (Es.contains j = false → S w') ∧ wpY P ops Q S Es r a' w') Q) [⟨d1, op1, ty1, pos1, af1, g1⟩] a w) (h2 : wpList P ops (onNormal (fun a' w' => (Es.contains k = false → S w') ∧ wpY P ops Q S Es s a' w') Q) [⟨d2, op2, ty2, pos2, af2, g2⟩] a w) (h3 : wpList P ops (onNormal (fun a' w' => (Es.contains l = false → S w') ∧ wpY P ops Q S Es t a' w') Q) [⟨d3, op3, ty3, pos3, af3, g3⟩] a w) : wpY P ops Q S Es (.three j r k s l t) a w := ⟨wpOp_one hj h1, wpOp_one hk h2, wpOp_one hl h3⟩
theorem wpY_done {Es : List Nat} {a : Act} {w : World} (h : Q .normal a w) : wpY P ops Q S Es .done a w := h
theorem wpAnyX_of_y {Es : List Nat} (hsel : Region.noSelect ops = true) (hQ : ∀ c a t v w, Q (.panic c) (a.put (some t) v) w → Q (.panic c) a w) : ∀ (sc : Wy) (fuel : Nat) (listed : Array Bool) (a : Act) (w : World),
    okY md ops Es sc listed = true → sc.len ≤ fuel → ((∀ j ∈ Es, (ops[j]?).isSome = true → listed.getD j true = false) → S w) → wpY P ops Q S Es sc a w → wpAnyX P md ops Q S (fun j => Es.contains j) fuel listed a w
  | .done, fuel, listed, a, w, hok, _, _, h => by
    have hr : Region.ready md ops listed = [] := List.isEmpty_iff.1 hok
    cases fuel with
    | zero => exact ⟨hr, h⟩
    | succ f => exact ⟨fun _ => h, by rw [hr]; simp⟩
  | .take i r, 0, listed, a, w, _, hf, _, _ => by simp [Wy.len] at hf
  | .go i r, 0, listed, a, w, _, hf, _, _ => by simp [Wy.len] at hf
  | .both i r k s, 0, listed, a, w, _, hf, _, _ => by simp [Wy.len] at hf
  | .three i r k s l t, 0, listed, a, w, _, hf, _, _ => by simp [Wy.len] at hf
  | .take i r, fuel + 1, listed, a, w, hok, hf, hS, h => by
    unfold okY at hok
    simp only [Bool.and_eq_true, Bool.not_eq_true', List.all_eq_true] at hok
    obtain ⟨⟨⟨⟨h1, h2⟩, h3⟩, h4⟩, h5⟩ := hok
    obtain ⟨oi, v, hi, hy, h⟩ := h
    have hun : ∀ j ∈ Es, (ops[j]?).isSome = true → listed.getD j true = false := by
      intro j hj hs
      obtain ⟨oj, ho⟩ := Option.isSome_iff_exists.1 hs
      have := h4 j hj
      rw [ho] at this
      simp only [Option.all_some, Bool.and_eq_true, Bool.not_eq_true'] at this
      exact this.2
    have hSw := hS hun
    refine wpAnyX_first hi (Region.noSelect_spec hsel) (fun c a w hh => by
      cases hd : oi.dst with
      | none => rw [hd] at hh; exact hh
      | some t => rw [hd] at hh; exact hQ c a t _ w hh) (fun j oj ho hj => ?_) h3 fuel listed a w (Region.free_spec hi h2) (by simpa using h1) hy hSw ?_
    · have := h4 j (by simpa using hj)
      rw [ho] at this
      simp only [Option.all_some, Bool.and_eq_true] at this
      exact this.1
    · exact wpAnyX_of_y hsel hQ r fuel _ _ _ h5 (by simp only [Wy.len] at hf; omega) (fun _ => hSw) h
  | .go j r, fuel + 1, listed, a, w, hok, hf, _, h => by
    unfold okY at hok
    simp only [Bool.and_eq_true, beq_iff_eq] at hok
    obtain ⟨h1, h2⟩ := hok
    refine ⟨fun h0 => (by rw [h0] at h1; cases h1), fun i hi => ?_⟩
    have hir := hi
    rw [h1] at hi
    obtain rfl : i = j := by simpa using hi
    exact wpOp_mono (fun a' w' h3 => ⟨h3.1, wpAnyX_of_y hsel hQ r fuel _ a' w' h2 (by simp only [Wy.len] at hf; omega) (fun hno => ready_un hir h3.1 hno) h3.2⟩) h
  | .both j r k s, fuel + 1, listed, a, w, hok, hf, _, h => by
    unfold okY at hok
    simp only [Bool.and_eq_true, beq_iff_eq] at hok
    obtain ⟨⟨h1, h2⟩, h2'⟩ := hok
    obtain ⟨h, h'⟩ := h
    refine ⟨fun h0 => (by rw [h0] at h1; cases h1), fun i hi => ?_⟩
    have hir := hi
    rw [h1] at hi
    rcases List.mem_cons.1 hi with e | e
    · subst e
      exact wpOp_mono (fun a' w' h3 => ⟨h3.1, wpAnyX_of_y hsel hQ r fuel _ a' w' h2 (by simp only [Wy.len] at hf; omega) (fun hno => ready_un hir h3.1 hno) h3.2⟩) h
    · obtain rfl : i = k := by simpa using e
      exact wpOp_mono (fun a' w' h3 => ⟨h3.1, wpAnyX_of_y hsel hQ s fuel _ a' w' h2' (by simp only [Wy.len] at hf; omega) (fun hno => ready_un hir h3.1 hno) h3.2⟩) h'
  | .three j r k s l t, fuel + 1, listed, a, w, hok, hf, _, h => by
    unfold okY at hok
    simp only [Bool.and_eq_true, beq_iff_eq] at hok
    obtain ⟨⟨⟨h1, h2⟩, h2'⟩, h2''⟩ := hok
    obtain ⟨h, h', h''⟩ := h
    refine ⟨fun h0 => (by rw [h0] at h1; cases h1), fun i hi => ?_⟩
    have hir := hi
    rw [h1] at hi
    rcases List.mem_cons.1 hi with e | e
    · subst e
      exact wpOp_mono (fun a' w' h3 => ⟨h3.1, wpAnyX_of_y hsel hQ r fuel _ a' w' h2 (by simp only [Wy.len] at hf; omega) (fun hno => ready_un hir h3.1 hno) h3.2⟩) h
    · rcases List.mem_cons.1 e with e | e
      · subst e
        exact wpOp_mono (fun a' w' h3 => ⟨h3.1, wpAnyX_of_y hsel hQ s fuel _ a' w' h2' (by simp only [Wy.len] at hf; omega) (fun hno => ready_un hir h3.1 hno) h3.2⟩) h'
      · obtain rfl : i = l := by simpa using e
        exact wpOp_mono (fun a' w' h3 => ⟨h3.1, wpAnyX_of_y hsel hQ t fuel _ a' w' h2'' (by simp only [Wy.len] at hf; omega) (fun hno => ready_un hir h3.1 hno) h3.2⟩) h''
theorem wp_region_y {id : Nat} {a : Act} {w : World} (S : World → Prop) (Es : List Nat) (sc : Wy) (hm : P.follows .mixedOrders = true) (hsel : Region.noSelect ops = true) (hok : okY .any ops Es sc (Array.replicate ops.size false) = true) (hlen : sc.len = ops.size)
    (hQ : ∀ c a t v w, Q (.panic c) (a.put (some t) v) w → Q (.panic c) a w) (hS : S w.drew) (h : wpY P ops Q S Es sc a w.drew) : (Code.region id ops true).wp P Q a w :=
  wp_region_any hm (wpAny_of_x _ _ _ _ (wpAnyX_of_y hsel hQ sc _ _ _ _ hok (Nat.le_of_eq hlen) (fun _ => hS) h))
end
end Go.Proofs.YtdfgbkilaepolaaGreatDoor
