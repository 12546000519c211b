/- A book's objects in memory: sets by type. The whole of a book. -/
import Derived.Test.YtaikedlkkjnffaaGreatDoorFW1
import Derived.Test.YtaikedlkkjnffaaGreatDoorFM5
namespace Go.Proofs.YtaikedlkkjnffaaGreatDoor
open Go.RowKit Go.Maps
theorem boolKeyed : Keyed Tryz.prog 9 := string_keyed Tryz.underlying9
theorem zeroRow33 (u : World) : (zeroValue rkS.s).run Tryz.prog u = .ok (.slice none 0 0) u := Tryz.zeroValue33 u
theorem zeroRow37 (u : World) : (zeroValue rkP.s).run Tryz.prog u = .ok (.slice none 0 0) u := Tryz.zeroValue37 u
theorem zeroMap84 (u : World) : (zeroValue 84).run Tryz.prog u = .ok (.map none) u := Tryz.zeroValue84 u
theorem zeroBool (u : World) : (zeroValue 4).run Tryz.prog u = .ok (.bool false) u := Tryz.zeroValue4 u
/-- block bo is a map of sets of objects, by their types; each in a block of its own, behind bo -/
def ObjsAt (w : World) (bo N : Nat) (O : List Ob) (f : Value → Option Value) : Prop :=
  ∃ n, MapAt Tryz.prog 9 w bo n f ∧ n ≤ N ∧ (∀ s : ByteArray, f (.string s) = none → ∀ o ∈ O, o.t ≠ s) ∧
    (∀ (s : ByteArray) v, f (.string s) = some v → ∃ bi m fi, v = .map (some bi) ∧ bo < bi ∧ MapAt Tryz.prog 24 w bi m fi ∧ m ≤ N ∧ ∀ kv, (fi kv).isSome = true ↔ ∃ o ∈ O, o.t = s ∧ kv = o.v) ∧
    ∀ (s s' : ByteArray) v, f (.string s) = some v → f (.string s') = some v → s = s'
section
variable {w w' : World} {bo N : Nat} {O : List Ob} {f : Value → Option Value}
theorem ObjsAt.lt (h : ObjsAt w bo N O f) : bo < w.heap.size := by obtain ⟨n, h1, _⟩ := h; exact h1.lt
theorem ObjsAt.keeps {S : Nat → Prop} (h : ObjsAt w bo N O f) (hk : Keeps S w w') (hs : ∀ j, bo ≤ j → ¬ (∃ T cs, Blk w j T cs) → ¬ S j) : ObjsAt w' bo N O f := by
  obtain ⟨n, h1, h2, h3, h4, h5⟩ := h
  refine ⟨n, h1.keeps hk (hs bo (Nat.le_refl _) fun ⟨T, cs, hb⟩ => h1.ne_blk hb rfl), h2, h3, fun s v hv => ?_, h5⟩
  obtain ⟨bi, m, fi, rfl, hlt, hm, hmN, hd⟩ := h4 s v hv
  exact ⟨bi, m, fi, rfl, hlt, hm.keeps hk (hs bi (Nat.le_of_lt hlt) fun ⟨T, cs, hb⟩ => hm.ne_blk hb rfl), hmN, hd⟩
theorem ObjsAt.below (h : ObjsAt w bo N O f) (hb : Below w.heap.size w w') : ObjsAt w' bo N O f := h.keeps (S := fun _ => False) (.of_below hb) fun _ _ _ => id
theorem ObjsAt.mono {N' : Nat} (h : ObjsAt w bo N O f) (hN : N ≤ N') : ObjsAt w bo N' O f := by
  obtain ⟨n, h1, h2, h3, h4, h5⟩ := h
  exact ⟨n, h1, by omega, h3, fun s v hv => by
    obtain ⟨bi, m, fi, e, hlt, hm, hmN, hd⟩ := h4 s v hv
    exact ⟨bi, m, fi, e, hlt, hm, by omega, hd⟩, h5⟩
theorem ObjsAt.made (w : World) : ObjsAt (w.alloc (.map #[] 0)) w.heap.size 0 [] (fun _ => none) :=
  ⟨0, MapAt.made _ _ _, Nat.le_refl _, (fun _ _ o h => by cases h), (fun _ _ h => by cases h), fun _ _ _ h => by cases h⟩
theorem strKey {s : ByteArray} (hs : s.size ≤ maxLen) : keyOf Tryz.prog 9 (.string s) = some (.string s.data.toList) := WideMaps.keyOf_string_mk Tryz.underlying9 hs
/-- a type's set -/
theorem ObjsAt.look (h : ObjsAt w bo N O f) {s : ByteArray} (hs : s.size ≤ maxLen) : (Instr.lookup 74 (.map (some bo)) (.string s) false).run Tryz.prog w = .ok ((f (.string s)).getD (.map none)) w := by
  obtain ⟨n, h1, _⟩ := h
  exact h1.look boolKeyed Tryz.underlying74 (zeroMap84 w) (strKey hs)
/-- a new set for a type that has none -/
theorem ObjsAt.make (h : ObjsAt w bo N O f) (hN : N < 1000000) {s : ByteArray} (hs : s.size ≤ maxLen) (hf : f (.string s) = none) {W : World} {bi : Nat} (hW : Keeps (fun _ => False) w W) (hM : MapAt Tryz.prog 24 W bi 0 (fun _ => none)) (hbi : w.heap.size ≤ bi) :
    ∃ w', (Instr.mapUpdate 74 (.map (some bo)) (.string s) (.map (some bi))).run Tryz.prog W = .ok () w' ∧ ObjsAt w' bo (N + 1) O (putV f (.string s) (.map (some bi))) ∧ Keeps (fun j => j = bo) W w' := by
  have hlt := h.lt
  have hk := h.keeps hW fun _ _ _ => id
  obtain ⟨n, h1, h2, h3, h4, h5⟩ := hk
  obtain ⟨w', e, m1, k1⟩ := h1.put boolKeyed Tryz.underlying74 (by unfold maxLen; omega) (strKey hs) (.map (some bi))
  rw [hf] at m1
  refine ⟨w', e, ⟨_, m1, by simp; omega, ?_, ?_, ?_⟩, k1⟩
  · intro s' hs' o ho
    by_cases e2 : s' = s
    · subst e2; rw [putV_same] at hs'; cases hs'
    · rw [putV_other (fun e3 => e2 (by injection e3))] at hs'
      exact h3 s' hs' o ho
  · intro s' v hv
    by_cases e2 : s' = s
    · subst e2
      rw [putV_same] at hv
      obtain rfl := Option.some.inj hv
      refine ⟨bi, 0, _, rfl, by omega, hM.keeps k1 (by omega), Nat.zero_le _, fun kv => ⟨fun h => (by cases h), fun ⟨o, ho, ht, _⟩ => (h3 s' hf o ho ht).elim⟩⟩
    · rw [putV_other (fun e3 => e2 (by injection e3))] at hv
      obtain ⟨bj, m, fi, e3, hlt', hm, hmN, hd⟩ := h4 s' v hv
      exact ⟨bj, m, fi, e3, hlt', hm.keeps k1 (by omega), by omega, hd⟩
  · obtain ⟨_, _, _, _, g4, _⟩ := h
    have old : ∀ (s1 : ByteArray), f (.string s1) = some (.map (some bi)) → False := by
      intro s1 hv
      obtain ⟨bj, m, fi, e3, hlt', hm, hmN, hd⟩ := g4 s1 _ hv
      injection e3 with e3
      injection e3 with e3
      have := hm.lt
      omega
    intro s1 s2 v hv1 hv2
    by_cases e1 : s1 = s <;> by_cases e2 : s2 = s
    · rw [e1, e2]
    · subst e1
      rw [putV_same] at hv1
      obtain rfl := Option.some.inj hv1
      rw [putV_other (fun e3 => e2 (by injection e3))] at hv2
      exact (old s2 hv2).elim
    · subst e2
      rw [putV_same] at hv2
      obtain rfl := Option.some.inj hv2
      rw [putV_other (fun e3 => e1 (by injection e3))] at hv1
      exact (old s1 hv1).elim
    · rw [putV_other (fun e3 => e1 (by injection e3))] at hv1
      rw [putV_other (fun e3 => e2 (by injection e3))] at hv2
      exact h5 s1 s2 v hv1 hv2
/-- an object laid into its type's set -/
theorem ObjsAt.put (h : ObjsAt w bo N O f) (hN : N < 1000000) {o : Ob} (ht : o.t.size ≤ maxLen) (hi : o.i.size ≤ maxLen) {v : Value} (hf : f (.string o.t) = some v) :
    ∃ bi w', v = .map (some bi) ∧ (Instr.mapUpdate 84 (.map (some bi)) (.agg #[.string o.t, .string o.i]) (.bool true)).run Tryz.prog w = .ok () w' ∧ ObjsAt w' bo (N + 1) (O ++ [o]) f ∧ bo < bi ∧ Keeps (fun j => j = bi) w w' ∧ ¬ ∃ T cs, Blk w bi T cs := by
  obtain ⟨n, h1, h2, h3, h4, h5⟩ := h
  obtain ⟨bi, m, fi, rfl, hlt, hm, hmN, hd⟩ := h4 _ _ hf
  obtain ⟨kl, hkey⟩ := keyO o ht hi
  obtain ⟨w', e, m1, k1⟩ := hm.put (Keyed.of_law lawO) Tryz.underlying84 (by unfold maxLen; omega) hkey (.bool true)
  refine ⟨bi, w', rfl, e, ⟨n, h1.keeps k1 (by omega), by omega, ?_, ?_, h5⟩, hlt, k1, fun ⟨T, cs, hb⟩ => hm.ne_blk hb rfl⟩
  · intro s hs o' ho' e2
    rcases List.mem_append.1 ho' with ho' | ho'
    · exact h3 s hs o' ho' e2
    · obtain rfl := List.mem_singleton.1 ho'
      rw [← e2, hf] at hs; cases hs
  · intro s v hv
    by_cases e2 : s = o.t
    · subst e2
      rw [hf] at hv
      obtain rfl := Option.some.inj hv
      refine ⟨bi, _, _, rfl, hlt, m1, by split <;> omega, fun kv => ?_⟩
      by_cases e3 : kv = o.v
      · subst e3
        rw [putV_same]
        exact ⟨fun _ => ⟨o, List.mem_append.2 (.inr (List.mem_singleton.2 rfl)), rfl, rfl⟩, fun _ => rfl⟩
      · rw [putV_other e3, hd kv]
        constructor
        · rintro ⟨o', ho', t', e4⟩
          exact ⟨o', List.mem_append.2 (.inl ho'), t', e4⟩
        · rintro ⟨o', ho', t', e4⟩
          rcases List.mem_append.1 ho' with ho' | ho'
          · exact ⟨o', ho', t', e4⟩
          · obtain rfl := List.mem_singleton.1 ho'
            exact absurd e4 e3
    · obtain ⟨bj, m', fj, rfl, hlt', hm', hmN', hd'⟩ := h4 s v hv
      have hne : bj ≠ bi := by
        rintro rfl
        exact e2 (h5 s o.t _ hv hf)
      refine ⟨bj, m', fj, rfl, hlt', hm'.keeps k1 hne, by omega, fun kv => ?_⟩
      rw [hd' kv]
      constructor
      · rintro ⟨o', ho', t', e4⟩
        exact ⟨o', List.mem_append.2 (.inl ho'), t', e4⟩
      · rintro ⟨o', ho', t', e4⟩
        rcases List.mem_append.1 ho' with ho' | ho'
        · exact ⟨o', ho', t', e4⟩
        · obtain rfl := List.mem_singleton.1 ho'
          exact absurd t'.symm e2
end
/-- a book of tuples lies at block g: its maps at bs, bp, bo; f tells the sets of objects -/
structure BookAt (w : World) (B g bs bp bo N : Nat) (f : Value → Option Value) (SD PD : Tri → List Tri) (O : List Ob) : Prop where
  blk : Blk w g 76 #[.map (some bs), .map (some bp), .map (some bo)]
  subs : GrpAt rkS 26 w B bs N SD
  points : GrpAt rkP 27 w B bp N PD
  objs : ObjsAt w bo N O f
  low : B ≤ bs ∧ bs < bp ∧ bp < bo ∧ B ≤ g
section
variable {w w' : World} {B g bs bp bo N : Nat} {f : Value → Option Value} {SD PD : Tri → List Tri} {O : List Ob}
theorem BookAt.below (h : BookAt w B g bs bp bo N f SD PD O) (hb : Below w.heap.size w w') : BookAt w' B g bs bp bo N f SD PD O :=
  ⟨h.blk.below hb h.blk.lt, h.subs.below hb, h.points.below hb, h.objs.below hb, h.low⟩
theorem GrpAt.mono {r : RowK Tri} {k : TypeId} {F : Tri → List Tri} {b N' : Nat} (h : GrpAt r k w B b N F) (hN : N ≤ N') : GrpAt r k w B b N' F := by
  obtain ⟨n, f, h1, h2, h3⟩ := h
  exact ⟨n, f, h1, by omega, h3⟩
theorem GrpAt.not_blk {r : RowK Tri} {k : TypeId} {F : Tri → List Tri} {b : Nat} (h : GrpAt r k w B b N F) : ¬ ∃ T cs, Blk w b T cs := by
  obtain ⟨n, f, h1, _⟩ := h
  exact fun ⟨T, cs, hb⟩ => h1.ne_blk hb rfl
end
end Go.Proofs.YtaikedlkkjnffaaGreatDoor
