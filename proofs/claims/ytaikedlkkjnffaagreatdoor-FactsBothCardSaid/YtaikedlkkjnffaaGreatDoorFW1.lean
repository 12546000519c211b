/- A book in memory: rows by key, sets of objects by type. -/
import Derived.Test.YtaikedlkkjnffaaGreatDoorFK1
import Derived.Test.YtaikedlkkjnffaaGreatDoorRKS
import Derived.Test.YtaikedlkkjnffaaGreatDoorFR1
namespace Go.Proofs.YtaikedlkkjnffaaGreatDoor
open Go.RowKit Go.Maps
section
variable {r : RowK Tri} {k t : TypeId} {w w' : World} {B b N : Nat} {F : Tri → List Tri}
/-- block b is a map of rows: at each key the row of F, no two in one block -/
def GrpAt (r : RowK Tri) (k : TypeId) (w : World) (B b N : Nat) (F : Tri → List Tri) : Prop :=
  ∃ n f, MapAt Tryz.prog k w b n f ∧ n ≤ N ∧ (∀ p : Tri, f p.v = none → F p = []) ∧ (∀ (p : Tri) v, f p.v = some v → r.Own B w v (F p)) ∧
    ∀ (p q : Tri) v u g, f p.v = some v → f q.v = some u → v.ownBlock = some g → u.ownBlock = some g → p = q
theorem MapAt.not_own {P : Program} {k : TypeId} {w : World} {b n : Nat} {f : Value → Option Value} {α : Type} {r : RowK α} {B : Nat} {v : Value} {l : List α} (h : MapAt P k w b n f) (ho : r.Own B w v l) : v.ownBlock ≠ some b := by
  intro e
  obtain ⟨cur, hc⟩ := own_blk ho b e
  exact h.ne_blk hc rfl
theorem GrpAt.lt (h : GrpAt r k w B b N F) : b < w.heap.size := by obtain ⟨n, f, h1, _⟩ := h; exact h1.lt
theorem GrpAt.keeps {S : Nat → Prop} (h : GrpAt r k w B b N F) (hk : Keeps S w w') (hb : ¬ S b) (hs : ∀ g cur, B ≤ g → Blk w g r.e cur → ¬ S g) : GrpAt r k w' B b N F := by
  obtain ⟨n, f, h1, h2, h3, h4, h5⟩ := h
  refine ⟨n, f, h1.keeps hk hb, h2, h3, fun p v hv => (h4 p v hv).keeps hk fun g hg => ?_, h5⟩
  obtain ⟨cur, hc⟩ := own_blk (h4 p v hv) g hg
  exact hs g cur ((h4 p v hv).lt g hg).1 hc
theorem GrpAt.below (h : GrpAt r k w B b N F) (hb : Below w.heap.size w w') : GrpAt r k w' B b N F :=
  h.keeps (S := fun _ => False) (.of_below hb) id fun _ _ _ _ => id
theorem GrpAt.made (r : RowK Tri) (k : TypeId) (w : World) (B : Nat) : GrpAt r k (w.alloc (.map #[] 0)) B w.heap.size 0 (fun _ => []) :=
  ⟨0, _, MapAt.made _ _ _, Nat.le_refl _, fun _ _ => rfl, (fun _ _ h => by cases h), fun _ _ _ _ _ h => by cases h⟩
/-- what may change when one more is laid into the row at a key -/
def grpS (r : RowK Tri) (w : World) (B b : Nat) : Nat → Prop := fun j => j = b ∨ (B ≤ j ∧ ∃ cur, Blk w j r.e cur)
/-- one more in the row at a key: the entry is taken in one world, the row grows in a later one, the entry is stored -/
theorem grp_core (ok : r.Ok Tryz.prog) (K : WideMaps.KeyLaw Tryz.prog k) (ht : Tryz.prog.underlying t = some (.map k r.s)) (hz : ∀ u : World, (zeroValue r.s).run Tryz.prog u = .ok (.slice none 0 0) u)
    (h : GrpAt r k w B b N F) (hN : N < 1000000) {p x : Tri} (hp : (F p).length ≤ 100000) (hkey : ∃ kl, keyOf Tryz.prog k p.v = some kl) {F' : Tri → List Tri} (hF1 : F' p = F p ++ [x]) (hF2 : ∀ q, q ≠ p → F' q = F q) (hB : B ≤ w.heap.size) :
    ∃ v0 st w1, (Instr.mapEntry t (.map (some b)) p.v).run Tryz.prog w = .ok (.tuple #[v0, goInt st]) w1 ∧ Keeps (fun j => j = b) w w1 ∧ (∀ j, v0.ownBlock = some j → B ≤ j ∧ ∃ cur, Blk w j r.e cur) ∧
      ∀ A2, Keeps (fun _ => False) w1 A2 → ∀ g, BlkIs A2 g (r.en x) → ∃ v' w2 w3, (dappOp #[r.s, r.s] r.s #[v0, .slice (some ⟨g, 0, none⟩) 1 1]).run Tryz.prog A2 = .ok v' w2 ∧ (Instr.entryStore t (.map (some b)) (goInt st) v').run Tryz.prog w2 = .ok () w3 ∧
        GrpAt r k w3 B b (N + 1) F' ∧ Keeps (grpS r w B b) A2 w3 := by
  obtain ⟨n, f, h1, h2, h3, h4, h5⟩ := h
  obtain ⟨kl, hkey⟩ := hkey
  obtain ⟨st, w1, e1, k1, e3⟩ := h1.entry K ht (by unfold maxLen; omega) hz hkey
  obtain ⟨v0, hv0⟩ : ∃ v0, (f p.v).getD (.slice none 0 0) = v0 := ⟨_, rfl⟩
  rw [hv0] at e1
  have hown : r.Own B w v0 (F p) := by
    cases hf : f p.v with
    | none => rw [hf] at hv0; subst hv0; rw [h3 p hf]; exact RowK.Own.nil _ _ _
    | some u => rw [hf] at hv0; subst hv0; exact h4 p u hf
  have hnb : v0.ownBlock ≠ some b := h1.not_own hown
  refine ⟨v0, st, w1, e1, k1, fun j hj => ⟨(hown.lt j hj).1, own_blk hown j hj⟩, fun A2 kA g hg => ?_⟩
  have hown1 := hown.keeps k1 fun j hj e => hnb (by rw [hj, e])
  have hownA := hown1.keeps kA fun _ _ => id
  obtain ⟨q, c, rfl⟩ := hown.slice
  obtain ⟨p', c', w2, a1, a2, a3, a4⟩ := hownA.app ok (t := x) (Nat.le_trans hB (Nat.le_trans k1.size kA.size)) hg (by omega)
  have hbA : A2.heap[b]? = w1.heap[b]? := kA.block b (Nat.lt_of_lt_of_le h1.lt k1.size) id
  have hb2 : w2.heap[b]? = w1.heap[b]? := (a3.block b (Nat.lt_of_lt_of_le h1.lt (Nat.le_trans k1.size kA.size)) hnb).trans hbA
  obtain ⟨w3, s1, s2, s3⟩ := e3 w2 (.slice p' ((F p).length + 1) c') hb2
  refine ⟨_, w2, w3, a1, s1, ⟨_, _, s2, ?_, ?_, ?_, ?_⟩, ?_⟩
  · split <;> omega
  · intro q' hq
    by_cases e : q' = p
    · subst e; rw [putV_same] at hq; cases hq
    · have hne : q'.v ≠ p.v := fun e2 => e (Tri.v_inj e2)
      rw [putV_other hne] at hq
      rw [hF2 q' e]; exact h3 q' hq
  · intro q' u hu
    by_cases e : q' = p
    · subst e
      rw [putV_same] at hu
      obtain rfl := Option.some.inj hu
      rw [hF1]
      exact a2.keeps s3 fun j hj ej => by
        rcases a4 with h | h
        · rw [h] at hj; exact hnb (by rw [hj, ej])
        · rw [h] at hj
          have := Option.some.inj hj
          have := h1.lt
          have := k1.size
          have := kA.size
          omega
    · have hne : q'.v ≠ p.v := fun e2 => e (Tri.v_inj e2)
      rw [putV_other hne] at hu
      rw [hF2 q' e]
      have o1 := h4 q' u hu
      have nb := h1.not_own o1
      have o2 := (o1.keeps k1 fun j hj e => nb (by rw [hj, e])).keeps kA fun _ _ => id
      have o3 := o2.keeps a3 fun j hj ej => by
        cases hf : f p.v with
        | none => rw [hf] at hv0; injection hv0 with hv1; subst hv1; cases ej
        | some u' =>
          rw [hf] at hv0
          obtain rfl : u' = _ := hv0
          exact e (h5 q' p u _ j hu hf hj ej)
      exact o3.keeps s3 fun j hj e => nb (by rw [hj, e])
  · have key : ∀ (q' : Tri) u g', q' ≠ p → f q'.v = some u → u.ownBlock = some g' → (Value.slice p' ((F p).length + 1) c').ownBlock = some g' → False := by
      intro q' u g' e hu hg1 hg2
      have o1 := h4 q' u hu
      rcases a4 with h | h
      · rw [h] at hg2
        cases hf : f p.v with
        | none => rw [hf] at hv0; injection hv0 with hv1; subst hv1; cases hg2
        | some u' =>
          rw [hf] at hv0
          obtain rfl : u' = _ := hv0
          exact e (h5 q' p u _ g' hu hf hg1 hg2)
      · rw [h] at hg2
        have := Option.some.inj hg2
        have := (o1.lt g' hg1).2
        have := k1.size
        have := kA.size
        omega
    intro q1 q2 u1 u2 g' hu1 hu2 hg1 hg2
    by_cases e1 : q1 = p <;> by_cases e2 : q2 = p
    · rw [e1, e2]
    · subst e1
      rw [putV_same] at hu1
      obtain rfl := Option.some.inj hu1
      rw [putV_other (fun e => e2 (Tri.v_inj e))] at hu2
      exact (key q2 u2 g' e2 hu2 hg2 hg1).elim
    · subst e2
      rw [putV_same] at hu2
      obtain rfl := Option.some.inj hu2
      rw [putV_other (fun e => e1 (Tri.v_inj e))] at hu1
      exact (key q1 u1 g' e1 hu1 hg1 hg2).elim
    · rw [putV_other (fun e => e1 (Tri.v_inj e))] at hu1
      rw [putV_other (fun e => e2 (Tri.v_inj e))] at hu2
      exact h5 q1 q2 u1 u2 g' hu1 hu2 hg1 hg2
  · refine (a3.mono fun j _ hj => ?_).trans (s3.mono fun j _ hj => .inl hj)
    exact .inr ⟨(hown.lt j hj).1, own_blk hown j hj⟩
/-- the look-up of a row -/
theorem GrpAt.look (K : WideMaps.KeyLaw Tryz.prog k) (ht : Tryz.prog.underlying t = some (.map k r.s)) (hz : ∀ u : World, (zeroValue r.s).run Tryz.prog u = .ok (.slice none 0 0) u) (h : GrpAt r k w B b N F) {p : Tri} (hkey : ∃ kl, keyOf Tryz.prog k p.v = some kl) :
    ∃ v, (Instr.lookup t (.map (some b)) p.v false).run Tryz.prog w = .ok v w ∧ r.Own B w v (F p) := by
  obtain ⟨n, f, h1, h2, h3, h4, h5⟩ := h
  obtain ⟨kl, hkey⟩ := hkey
  refine ⟨_, h1.look (Keyed.of_law K) ht (hz w) hkey, ?_⟩
  cases hf : f p.v with
  | none => rw [h3 p hf]; exact RowK.Own.nil _ _ _
  | some u => exact h4 p u hf
end
end Go.Proofs.YtaikedlkkjnffaaGreatDoor
