/- A book in memory: one more tuple. -/
import Derived.Test.YtaikedlkkjnffaaGreatDoorFW2
namespace Go.Proofs.YtaikedlkkjnffaaGreatDoor
open Go.RowKit Go.Maps
/-- a block of another type is spared -/
theorem Blk.spared {w : World} {g bx : Nat} {T T' : TypeId} {cs : Array Value} {S : Nat → Prop} (h : Blk w g T' cs) (hT : T' ≠ T) (hb : ¬ ∃ T cs, Blk w bx T cs) (hS : ∀ j, j < w.heap.size → S j → j = bx ∨ ∃ cur, Blk w j T cur) : ¬ S g := by
  intro e
  rcases hS g h.lt e with rfl | ⟨cur, hc⟩
  · exact hb ⟨_, _, h⟩
  · exact Blk.ne_ h hc hT rfl
section
variable {w w' : World} {B g bs bp bo N : Nat} {f : Value → Option Value} {SD PD : Tri → List Tri} {O : List Ob}
theorem BookAt.g_ne (h : BookAt w B g bs bp bo N f SD PD O) : g ≠ bs ∧ g ≠ bp := ⟨fun e => h.subs.not_blk ⟨_, _, e ▸ h.blk⟩, fun e => h.points.not_blk ⟨_, _, e ▸ h.blk⟩⟩
theorem ObjsAt.spared {b : Nat} {T : TypeId} {S : Nat → Prop} (h : ObjsAt w bo N O f) (hb : b < bo) (hk : Keeps S w w') (hS : ∀ j, j < w.heap.size → S j → j = b ∨ ∃ cur, Blk w j T cur) : ObjsAt w' bo N O f := by
  refine h.keeps (S := fun j => j < w.heap.size ∧ S j) ⟨hk.os, hk.tape, hk.output, hk.size, fun k hk' hs => hk.block k hk' fun e => hs ⟨hk', e⟩⟩ fun j hj hn e => ?_
  rcases hS j e.1 e.2 with rfl | ⟨cur, hc⟩
  · omega
  · exact hn ⟨_, _, hc⟩
/-- what the rows of subjects' step leaves of the rest -/
theorem BookAt.subs_done {S : Nat → Prop} {SD' : Tri → List Tri} (h : BookAt w B g bs bp bo N f SD PD O) (hk : Keeps S w w') (hS : ∀ j, j < w.heap.size → S j → j = bs ∨ ∃ cur, Blk w j 27 cur) (hs : GrpAt rkS 26 w' B bs (N + 1) SD') : BookAt w' B g bs bp bo (N + 1) f SD' PD O := by
  have hb := h.subs.not_blk
  obtain ⟨l1, l2, l3, l4⟩ := h.low
  have hS' : ∀ j, j < w.heap.size → (j < w.heap.size ∧ S j) → j = bs ∨ ∃ cur, Blk w j 27 cur := fun j hj e => hS j hj e.2
  have hk' : Keeps (fun j => j < w.heap.size ∧ S j) w w' := ⟨hk.os, hk.tape, hk.output, hk.size, fun k hk' hs => hk.block k hk' fun e => hs ⟨hk', e⟩⟩
  refine ⟨h.blk.keeps hk (h.blk.spared (by decide) hb hS), hs, (h.points.keeps hk' ?_ ?_).mono (by omega), (h.objs.spared (by omega) hk hS).mono (by omega), h.low⟩
  · rintro ⟨e1, e2⟩
    rcases hS bp e1 e2 with e | ⟨cur, hc⟩
    · omega
    · exact h.points.not_blk ⟨_, _, hc⟩
  · intro j cur _ hc e
    exact hc.spared (T := 27) (by decide) hb hS' e
theorem BookAt.points_done {S : Nat → Prop} {PD' : Tri → List Tri} (h : BookAt w B g bs bp bo N f SD PD O) (hk : Keeps S w w') (hS : ∀ j, j < w.heap.size → S j → j = bp ∨ ∃ cur, Blk w j 26 cur) (hs : GrpAt rkP 27 w' B bp (N + 1) PD') : BookAt w' B g bs bp bo (N + 1) f SD PD' O := by
  have hb := h.points.not_blk
  obtain ⟨l1, l2, l3, l4⟩ := h.low
  have hS' : ∀ j, j < w.heap.size → (j < w.heap.size ∧ S j) → j = bp ∨ ∃ cur, Blk w j 26 cur := fun j hj e => hS j hj e.2
  have hk' : Keeps (fun j => j < w.heap.size ∧ S j) w w' := ⟨hk.os, hk.tape, hk.output, hk.size, fun k hk' hs => hk.block k hk' fun e => hs ⟨hk', e⟩⟩
  refine ⟨h.blk.keeps hk (h.blk.spared (by decide) hb hS), (h.subs.keeps hk' ?_ ?_).mono (by omega), hs, (h.objs.spared (by omega) hk hS).mono (by omega), h.low⟩
  · rintro ⟨e1, e2⟩
    rcases hS bs e1 e2 with e | ⟨cur, hc⟩
    · omega
    · exact h.subs.not_blk ⟨_, _, hc⟩
  · intro j cur _ hc e
    exact hc.spared (T := 26) (by decide) hb hS' e
theorem grpS_old {r : RowK Tri} {A : World} {b : Nat} (hA : Keeps (fun _ => False) w A) : ∀ j, j < w.heap.size → grpS r A B b j → j = b ∨ ∃ cur, Blk w j r.e cur := by
  rintro j hj (e | ⟨_, cur, hc⟩)
  · exact .inl e
  · exact .inr ⟨cur, (hA.block j hj id).symm.trans hc⟩
theorem grpS_low {r : RowK Tri} {A : World} {b : Nat} (hb : B ≤ b) : ∀ j, grpS r A B b j → B ≤ j := by
  rintro j (rfl | ⟨h, _⟩)
  · exact hb
  · exact h
/-- b.subs[p] = append(b.subs[p], t.Sub): the new element's block is made ahead of the entry -/
theorem BookAt.subs1 (h : BookAt w B g bs bp bo N f SD PD O) (hN : N < 900000) {p x : Tri} (hp : p.x.size ≤ maxLen ∧ p.y.size ≤ maxLen ∧ p.z.size ≤ maxLen) (hlen : (SD p).length ≤ 100000) {SD' : Tri → List Tri} (h1 : SD' p = SD p ++ [x]) (h2 : ∀ q, q ≠ p → SD' q = SD q) :
    ∃ v0 st w1 v' w2 w3, (Instr.mapEntry 72 (.map (some bs)) (.agg #[.string p.x, .string p.y, .string p.z])).run Tryz.prog (w.alloc (.cells #[.string x.x, .string x.y, .string x.z] 27)).drew = .ok (.tuple #[v0, goInt st]) w1 ∧
      (dappOp #[33, 33] 33 #[v0, .slice (some ⟨w.heap.size, 0, none⟩) 1 1]).run Tryz.prog w1 = .ok v' w2 ∧ (Instr.entryStore 72 (.map (some bs)) (goInt st) v').run Tryz.prog w2 = .ok () w3 ∧
      BookAt w3 B g bs bp bo (N + 1) f SD' PD O ∧ (∃ S : Nat → Prop, Keeps S w w3 ∧ (∀ j, j < w.heap.size → S j → j = bs ∨ ∃ cur, Blk w j 27 cur) ∧ ∀ j, S j → B ≤ j) ∧ Keeps (fun j => j = bs) w w1 := by
  have bA := ((Below.refl w.heap.size w).alloc (Nat.le_refl _) (.cells #[.string x.x, .string x.y, .string x.z] 27)).drew
  have kA : Keeps (fun _ => False) w (w.alloc (.cells #[.string x.x, .string x.y, .string x.z] 27)).drew := .of_below bA
  have hx := (Blk.new w 27 #[.string x.x, .string x.y, .string x.z]).drew
  have l1 := h.low.1
  have lb := h.subs.lt
  obtain ⟨v0, st, w1, e1, k1, _, e2⟩ := grp_core rkS_ok lawP Tryz.underlying72 zeroRow33 (h.subs.below bA) (by omega) (x := x) hlen (keyP p hp.1 hp.2.1 hp.2.2) h1 h2 (Nat.le_trans (by omega) bA.size)
  obtain ⟨v', w2, w3, a1, a2, a3, a4⟩ := e2 w1 (Keeps.refl _ _) w.heap.size (fun j u hj => by rw [(hx.keeps k1 (by omega)).cell]; simpa [rkS, triL] using hj)
  have kk : Keeps (grpS rkS (w.alloc (.cells #[.string x.x, .string x.y, .string x.z] 27)).drew B bs) w w3 := ((kA.mono fun _ _ => False.elim).trans (k1.mono fun _ _ e => .inl e)).trans a4
  exact ⟨v0, st, w1, v', w2, w3, e1, a1, a2, h.subs_done kk (grpS_old kA) a3, ⟨_, kk, grpS_old kA, grpS_low (by omega)⟩, (kA.mono fun _ _ => False.elim).trans k1⟩
/-- .. behind the entry -/
theorem BookAt.subs2 (h : BookAt w B g bs bp bo N f SD PD O) (hN : N < 900000) {p x : Tri} (hp : p.x.size ≤ maxLen ∧ p.y.size ≤ maxLen ∧ p.z.size ≤ maxLen) (hlen : (SD p).length ≤ 100000) {SD' : Tri → List Tri} (h1 : SD' p = SD p ++ [x]) (h2 : ∀ q, q ≠ p → SD' q = SD q) :
    ∃ v0 st w1 v' w2 w3, (Instr.mapEntry 72 (.map (some bs)) (.agg #[.string p.x, .string p.y, .string p.z])).run Tryz.prog w.drew = .ok (.tuple #[v0, goInt st]) w1 ∧
      (dappOp #[33, 33] 33 #[v0, .slice (some ⟨w1.heap.size, 0, none⟩) 1 1]).run Tryz.prog (w1.alloc (.cells #[.string x.x, .string x.y, .string x.z] 27)) = .ok v' w2 ∧ (Instr.entryStore 72 (.map (some bs)) (goInt st) v').run Tryz.prog w2 = .ok () w3 ∧
      BookAt w3 B g bs bp bo (N + 1) f SD' PD O ∧ (∃ S : Nat → Prop, Keeps S w w3 ∧ (∀ j, j < w.heap.size → S j → j = bs ∨ ∃ cur, Blk w j 27 cur) ∧ ∀ j, S j → B ≤ j) ∧ Keeps (fun j => j = bs) w w1 := by
  have bA := (Below.refl w.heap.size w).drew
  have kA : Keeps (fun _ => False) w w.drew := .of_below bA
  have l1 := h.low.1
  have lb := h.subs.lt
  obtain ⟨v0, st, w1, e1, k1, _, e2⟩ := grp_core rkS_ok lawP Tryz.underlying72 zeroRow33 (h.subs.below bA) (by omega) (x := x) hlen (keyP p hp.1 hp.2.1 hp.2.2) h1 h2 (Nat.le_trans (by omega) bA.size)
  have hx := Blk.new w1 27 #[.string x.x, .string x.y, .string x.z]
  obtain ⟨v', w2, w3, a1, a2, a3, a4⟩ := e2 (w1.alloc (.cells #[.string x.x, .string x.y, .string x.z] 27)) ((Keeps.refl _ _).alloc _) w1.heap.size (fun j u hj => by rw [hx.cell]; simpa [rkS, triL] using hj)
  have kk : Keeps (grpS rkS w.drew B bs) w w3 := (((kA.mono fun _ _ => False.elim).trans (k1.mono fun _ _ e => .inl e)).alloc _).trans a4
  exact ⟨v0, st, w1, v', w2, w3, e1, a1, a2, h.subs_done kk (grpS_old kA) a3, ⟨_, kk, grpS_old kA, grpS_low (by omega)⟩, (kA.mono fun _ _ => False.elim).trans k1⟩
/-- b.points[t.Sub] = append(b.points[t.Sub], p) -/
theorem BookAt.points1 (h : BookAt w B g bs bp bo N f SD PD O) (hN : N < 900000) {p x : Tri} (hp : p.x.size ≤ maxLen ∧ p.y.size ≤ maxLen ∧ p.z.size ≤ maxLen) (hlen : (PD p).length ≤ 100000) {PD' : Tri → List Tri} (h1 : PD' p = PD p ++ [x]) (h2 : ∀ q, q ≠ p → PD' q = PD q) :
    ∃ v0 st w1 v' w2 w3, (Instr.mapEntry 73 (.map (some bp)) (.agg #[.string p.x, .string p.y, .string p.z])).run Tryz.prog (w.alloc (.cells #[.string x.x, .string x.y, .string x.z] 26)).drew = .ok (.tuple #[v0, goInt st]) w1 ∧
      (dappOp #[37, 37] 37 #[v0, .slice (some ⟨w.heap.size, 0, none⟩) 1 1]).run Tryz.prog w1 = .ok v' w2 ∧ (Instr.entryStore 73 (.map (some bp)) (goInt st) v').run Tryz.prog w2 = .ok () w3 ∧
      BookAt w3 B g bs bp bo (N + 1) f SD PD' O ∧ (∃ S : Nat → Prop, Keeps S w w3 ∧ (∀ j, j < w.heap.size → S j → j = bp ∨ ∃ cur, Blk w j 26 cur) ∧ ∀ j, S j → B ≤ j) ∧ Keeps (fun j => j = bp) w w1 := by
  have bA := ((Below.refl w.heap.size w).alloc (Nat.le_refl _) (.cells #[.string x.x, .string x.y, .string x.z] 26)).drew
  have kA : Keeps (fun _ => False) w (w.alloc (.cells #[.string x.x, .string x.y, .string x.z] 26)).drew := .of_below bA
  have hx := (Blk.new w 26 #[.string x.x, .string x.y, .string x.z]).drew
  have l1 := h.low.1
  have l2 := h.low.2.1
  have lb := h.points.lt
  obtain ⟨v0, st, w1, e1, k1, _, e2⟩ := grp_core rkP_ok lawS Tryz.underlying73 zeroRow37 (h.points.below bA) (by omega) (x := x) hlen (keyS p hp.1 hp.2.1 hp.2.2) h1 h2 (Nat.le_trans (by omega) bA.size)
  obtain ⟨v', w2, w3, a1, a2, a3, a4⟩ := e2 w1 (Keeps.refl _ _) w.heap.size (fun j u hj => by rw [(hx.keeps k1 (by omega)).cell]; simpa [rkP, triL] using hj)
  have kk : Keeps (grpS rkP (w.alloc (.cells #[.string x.x, .string x.y, .string x.z] 26)).drew B bp) w w3 := ((kA.mono fun _ _ => False.elim).trans (k1.mono fun _ _ e => .inl e)).trans a4
  exact ⟨v0, st, w1, v', w2, w3, e1, a1, a2, h.points_done kk (grpS_old kA) a3, ⟨_, kk, grpS_old kA, grpS_low (by omega)⟩, (kA.mono fun _ _ => False.elim).trans k1⟩
theorem BookAt.points2 (h : BookAt w B g bs bp bo N f SD PD O) (hN : N < 900000) {p x : Tri} (hp : p.x.size ≤ maxLen ∧ p.y.size ≤ maxLen ∧ p.z.size ≤ maxLen) (hlen : (PD p).length ≤ 100000) {PD' : Tri → List Tri} (h1 : PD' p = PD p ++ [x]) (h2 : ∀ q, q ≠ p → PD' q = PD q) :
    ∃ v0 st w1 v' w2 w3, (Instr.mapEntry 73 (.map (some bp)) (.agg #[.string p.x, .string p.y, .string p.z])).run Tryz.prog w.drew = .ok (.tuple #[v0, goInt st]) w1 ∧
      (dappOp #[37, 37] 37 #[v0, .slice (some ⟨w1.heap.size, 0, none⟩) 1 1]).run Tryz.prog (w1.alloc (.cells #[.string x.x, .string x.y, .string x.z] 26)) = .ok v' w2 ∧ (Instr.entryStore 73 (.map (some bp)) (goInt st) v').run Tryz.prog w2 = .ok () w3 ∧
      BookAt w3 B g bs bp bo (N + 1) f SD PD' O ∧ (∃ S : Nat → Prop, Keeps S w w3 ∧ (∀ j, j < w.heap.size → S j → j = bp ∨ ∃ cur, Blk w j 26 cur) ∧ ∀ j, S j → B ≤ j) ∧ Keeps (fun j => j = bp) w w1 := by
  have bA := (Below.refl w.heap.size w).drew
  have kA : Keeps (fun _ => False) w w.drew := .of_below bA
  have l1 := h.low.1
  have l2 := h.low.2.1
  have lb := h.points.lt
  obtain ⟨v0, st, w1, e1, k1, _, e2⟩ := grp_core rkP_ok lawS Tryz.underlying73 zeroRow37 (h.points.below bA) (by omega) (x := x) hlen (keyS p hp.1 hp.2.1 hp.2.2) h1 h2 (Nat.le_trans (by omega) bA.size)
  have hx := Blk.new w1 26 #[.string x.x, .string x.y, .string x.z]
  obtain ⟨v', w2, w3, a1, a2, a3, a4⟩ := e2 (w1.alloc (.cells #[.string x.x, .string x.y, .string x.z] 26)) ((Keeps.refl _ _).alloc _) w1.heap.size (fun j u hj => by rw [hx.cell]; simpa [rkP, triL] using hj)
  have kk : Keeps (grpS rkP w.drew B bp) w w3 := (((kA.mono fun _ _ => False.elim).trans (k1.mono fun _ _ e => .inl e)).alloc _).trans a4
  exact ⟨v0, st, w1, v', w2, w3, e1, a1, a2, h.points_done kk (grpS_old kA) a3, ⟨_, kk, grpS_old kA, grpS_low (by omega)⟩, (kA.mono fun _ _ => False.elim).trans k1⟩
end
end Go.Proofs.YtaikedlkkjnffaaGreatDoor
