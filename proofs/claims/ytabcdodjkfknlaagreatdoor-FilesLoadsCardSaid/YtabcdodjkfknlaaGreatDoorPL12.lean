/- Apply: tables by their numbers, as a map tells them. Apply: its memory. The keys of a map of a call's own, collected in some order. No program in sight. Apply: tables taken out of a map, one by one. Contracts of slices.SortFunc over objects, laid at this translation by a program of the kit; each under the premises that it states. Walks: tables sorted. -/
import Derived.Test.YtabcdodjkfknlaaGreatDoorPL11
import Derived.Test.YtabcdodjkfknlaaGreatDoorPL09
import Derived.Maps.Range
import Derived.Maps.RangeWalk
import Derived.Shelf.SlSortCmp.WholeK
import Derived.Test.YtabcdodjkfknlaaGreatDoorProg
import Derived.Shelf.SlSortCmp.NoneTotal
namespace Go.Proofs.YtabcdodjkfknlaaGreatDoor
open Go.RowKit Go.Maps
/-- the table of a number -/
def getT_ (l : List Tbl) (n : Int) : Option Tbl := l.find? fun t => decide (t.num = n)
noncomputable def tabf (l : List Tbl) (kv : Value) : Option Value := open Classical in if h : ∃ n, kv = .int .i64 n then (getT_ l h.choose).map Tbl.v else none
theorem tabf_int (l : List Tbl) (n : Int) : tabf l (.int .i64 n) = (getT_ l n).map Tbl.v := by
  have h : ∃ m, Value.int .i64 n = .int .i64 m := ⟨n, rfl⟩
  unfold tabf
  rw [dif_pos h]
  have e := h.choose_spec
  injection e with _ e
  rw [← e]
theorem tabf_not (l : List Tbl) {kv : Value} (h : ¬ ∃ n, kv = .int .i64 n) : tabf l kv = none := by unfold tabf; rw [dif_neg h]
theorem tabf_nil : tabf [] = fun _ => none := by
  funext kv
  by_cases h : ∃ n, kv = .int .i64 n
  · obtain ⟨n, rfl⟩ := h; rw [tabf_int]; rfl
  · exact tabf_not _ h
theorem getT_put {l : List Tbl} {t : Tbl} (h : ∀ u ∈ l, u.num ≠ t.num) (n : Int) : getT_ (l ++ [t]) n = if n = t.num then some t else getT_ l n := by
  unfold getT_
  rw [List.find?_append]
  by_cases e : n = t.num
  · subst e
    rw [if_pos rfl, List.find?_eq_none.2 (fun u hu => by simpa using h u hu)]
    simp
  · rw [if_neg e]
    have : ¬ t.num = n := fun e' => e e'.symm
    simp [this]
theorem getT_drop (l : List Tbl) (n m : Int) : getT_ (l.filter fun t => !decide (t.num = n)) m = if m = n then none else getT_ l m := by
  unfold getT_
  by_cases e : m = n
  · subst e
    rw [if_pos rfl]
    exact List.find?_eq_none.2 fun u hu => by simpa using (List.mem_filter.1 hu).2
  · rw [if_neg e]
    induction l with
    | nil => rfl
    | cons t l ih =>
      by_cases h1 : t.num = n
      · have h2 : ¬ t.num = m := fun h => e (h.symm.trans h1)
        rw [List.filter_cons_of_neg (by simp [h1]), List.find?_cons_of_neg (by simp [h2])]
        exact ih
      · rw [List.filter_cons_of_pos (by simp [h1])]
        by_cases h2 : t.num = m
        · rw [List.find?_cons_of_pos (by simp [h2]), List.find?_cons_of_pos (by simp [h2])]
        · rw [List.find?_cons_of_neg (by simp [h2]), List.find?_cons_of_neg (by simp [h2])]
          exact ih
theorem getT_any (l : List Tbl) (n : Int) : (getT_ l n).isSome = l.any fun t => decide (t.num = n) := by
  unfold getT_
  induction l with
  | nil => rfl
  | cons t l ih =>
    by_cases h : t.num = n
    · rw [List.find?_cons_of_pos (by simp [h])]; simp [h]
    · rw [List.find?_cons_of_neg (by simp [h]), ih]; simp [h]
theorem tabf_put {l : List Tbl} {t : Tbl} (h : ∀ u ∈ l, u.num ≠ t.num) : putV (tabf l) (.int .i64 t.num) t.v = tabf (l ++ [t]) := by
  funext kv
  by_cases e : kv = .int .i64 t.num
  · subst e
    rw [putV_same, tabf_int, getT_put h, if_pos rfl]; rfl
  · rw [putV_other e]
    by_cases hn : ∃ n, kv = .int .i64 n
    · obtain ⟨n, rfl⟩ := hn
      rw [tabf_int, tabf_int, getT_put h, if_neg (fun h' => e (by rw [h']))]
    · rw [tabf_not _ hn, tabf_not _ hn]
theorem tabf_drop (l : List Tbl) (n : Int) : delV (tabf l) (.int .i64 n) = tabf (l.filter fun t => !decide (t.num = n)) := by
  funext kv
  by_cases e : kv = .int .i64 n
  · subst e
    rw [delV_same, tabf_int, getT_drop, if_pos rfl]; rfl
  · rw [delV_other e]
    by_cases hn : ∃ n, kv = .int .i64 n
    · obtain ⟨m, rfl⟩ := hn
      rw [tabf_int, tabf_int, getT_drop, if_neg (fun h' => e (by rw [h']))]
    · rw [tabf_not _ hn, tabf_not _ hn]
theorem tabf_some (l : List Tbl) (n : Int) : (tabf l (.int .i64 n)).isSome = l.any fun t => decide (t.num = n) := by
  rw [tabf_int, Option.isSome_map, getT_any]
theorem getT_mem {l : List Tbl} {n : Int} {t : Tbl} (h : getT_ l n = some t) : t ∈ l ∧ t.num = n :=
  ⟨List.mem_of_find?_eq_some h, by simpa using List.find?_some h⟩
theorem getT_of : ∀ {l : List Tbl}, (l.map Tbl.num).Nodup → ∀ {t : Tbl}, t ∈ l → getT_ l t.num = some t
  | u :: l, hn, t, ht => by
    rw [List.map_cons, List.nodup_cons] at hn
    unfold getT_
    rcases List.mem_cons.1 ht with e | e
    · subst e
      rw [List.find?_cons_of_pos (by simp)]
    · have hne : ¬ u.num = t.num := fun h => hn.1 (h ▸ List.mem_map_of_mem e)
      rw [List.find?_cons_of_neg (by simp [hne])]
      exact getT_of hn.2 e
end Go.Proofs.YtabcdodjkfknlaaGreatDoor
namespace Go.Proofs.YtabcdodjkfknlaaGreatDoor
open Go.RowKit Go.Maps
abbrev vZero : Array Value := #[.slice none 0 0, .int .u64 0, .int .u64 0, .int .i64 0, .int .i64 0]
/-- the variables of Apply: version, edit, what is made; the tables by their numbers -/
structure ApAt (w wr : World) (M : Nat) (vc ec : Array Value) (l : List Tbl) : Prop where
  below : Below w.heap.size w wr
  bv : Blk wr w.heap.size 30 vc
  be : Blk wr (w.heap.size + 1) 33 ec
  bo : Blk wr (w.heap.size + 2) 30 vZero
  map : MapAt Tryz.prog 3 wr M l.length (tabf l)
  nodup : (l.map Tbl.num).Nodup
  hM : w.heap.size + 2 < M
theorem drop_len : ∀ {l : List Tbl}, (l.map Tbl.num).Nodup → ∀ {n : Int}, (l.any fun t => decide (t.num = n)) = true → (l.filter fun t => !decide (t.num = n)).length = l.length - 1
  | u :: l, hn, n, h => by
    rw [List.map_cons, List.nodup_cons] at hn
    by_cases e : u.num = n
    · rw [List.filter_cons_of_neg (by simp [e])]
      have : l.filter (fun t => !decide (t.num = n)) = l := by
        rw [List.filter_eq_self]
        intro t ht
        have : t.num ≠ n := fun h => hn.1 (by rw [e, ← h]; exact List.mem_map_of_mem ht)
        simpa using this
      rw [this]; rfl
    · rw [List.filter_cons_of_pos (by simp [e])]
      have h' : (l.any fun t => decide (t.num = n)) = true := by simpa [e] using h
      have := drop_len hn.2 h'
      have hl : 0 < l.length := by
        rcases l with _ | ⟨x, l⟩
        · cases h'
        · simp
      rw [List.length_cons, this, List.length_cons]; omega
section
variable {w wr : World} {M : Nat} {vc ec : Array Value} {l : List Tbl}
theorem ApAt.alloc (h : ApAt w wr M vc ec l) (o : Obj) : ApAt w (wr.alloc o) M vc ec l :=
  ⟨h.below.alloc h.below.size o, h.bv.alloc o, h.be.alloc o, h.bo.alloc o, h.map.later ((Below.refl _ _).alloc (Nat.le_refl _) o), h.nodup, h.hM⟩
theorem ApAt.keeps {w' : World} {l' : List Tbl} (h : ApAt w wr M vc ec l) (hk : Keeps (fun j => j = M) wr w') (hm : MapAt Tryz.prog 3 w' M l'.length (tabf l')) (hn : (l'.map Tbl.num).Nodup) : ApAt w w' M vc ec l' := by
  have hM := h.hM
  have hs := h.below.size
  exact ⟨h.below.trans (hk.below (fun j _ e => by omega) hs), h.bv.keeps hk (fun e => by omega), h.be.keeps hk (fun e => by omega), h.bo.keeps hk (fun e => by omega), hm, hn, hM⟩
theorem ApAt.put (h : ApAt w wr M vc ec l) {t : Tbl} (ht : t.lang) (hl : l.length ≤ 1000000) (hn : ∀ u ∈ l, u.num ≠ t.num) :
    ∃ w', (Instr.mapUpdate 150 (.map (some M)) (.int .i64 t.num) (.agg #[.int .i64 t.num, .int .i64 t.level, .int .i64 t.size, .string t.first, .string t.last])).run Tryz.prog wr = .ok () w' ∧ ApAt w w' M vc ec (l ++ [t]) ∧ Keeps (fun j => j = M) wr w' := by
  obtain ⟨w', hr, hm, hk⟩ := h.map.put keyI Tryz.underlying150 (by unfold maxLen; omega) (keyI_of ht.1 ht.2.1) t.v
  rw [tabf_put hn] at hm
  have hnone : (tabf l (.int .i64 t.num)).isSome = false := by
    rw [tabf_some, List.any_eq_false]
    intro u hu
    simpa using hn u hu
  rw [hnone] at hm
  refine ⟨w', hr, h.keeps hk (by rw [List.length_append]; exact hm) ?_, hk⟩
  rw [List.map_append, List.nodup_append]
  exact ⟨h.nodup, by simp, fun a ha b hb => by
    obtain ⟨u, hu, rfl⟩ := List.mem_map.1 ha
    simp at hb
    subst hb
    exact hn u hu⟩
theorem ApAt.drop (h : ApAt w wr M vc ec l) {n : Int} (h1 : -9223372036854775808 ≤ n) (h2 : n < 9223372036854775808) (ha : (l.any fun t => decide (t.num = n)) = true) (ty : TypeId) :
    ∃ w', (Builtin.delete_ #[150, 3] ty #[.map (some M), .int .i64 n]).run Tryz.prog wr = .ok (.tuple #[]) w' ∧ ApAt w w' M vc ec (l.filter fun t => !decide (t.num = n)) ∧ Keeps (fun j => j = M) wr w' := by
  obtain ⟨w', hr, hm, hk⟩ := h.map.drop keyI Tryz.underlying150 (keyI_of h1 h2) ty
  rw [tabf_drop, tabf_some, if_pos ha, ← drop_len h.nodup ha] at hm
  exact ⟨w', hr, h.keeps hk hm (((List.filter_sublist (p := fun t => !decide (t.num = n)) (l := l)).map Tbl.num).nodup h.nodup), hk⟩
theorem ApAt.look (h : ApAt w wr M vc ec l) {n : Int} (h1 : -9223372036854775808 ≤ n) (h2 : n < 9223372036854775808) :
    ∃ t : Tbl, (Instr.lookup 150 (.map (some M)) (.int .i64 n) true).run Tryz.prog wr = .ok (.tuple #[.agg #[.int .i64 t.num, .int .i64 t.level, .int .i64 t.size, .string t.first, .string t.last], .bool (l.any fun t => decide (t.num = n))]) wr := by
  have hz : (zeroValue 76).run Tryz.prog wr = .ok (.agg #[.int .i64 0, .int .i64 0, .int .i64 0, .string ⟨#[]⟩, .string ⟨#[]⟩]) wr := by kernel_rfl
  have := h.map.look_ok keyI Tryz.underlying150 hz (keyI_of h1 h2)
  rw [tabf_some, tabf_int] at this
  cases hg : getT_ l n with
  | none => rw [hg] at this; exact ⟨⟨0, 0, 0, ⟨#[]⟩, ⟨#[]⟩⟩, this⟩
  | some t => rw [hg] at this; exact ⟨t, this⟩
end
/-- the five cells of a version stored -/
theorem ver_set {w : World} {R : Nat} {cs : Array Value} (hs : cs.size = 5) (h : Blk w R 30 cs) (a b c d e : Value) :
    ∃ W, ((((w.setCell ⟨R, 0, none⟩ a).setCell ⟨R, 1, none⟩ b).setCell ⟨R, 2, none⟩ c).setCell ⟨R, 3, none⟩ d).setCell ⟨R, 4, none⟩ e = W ∧ Blk W R 30 #[a, b, c, d, e] ∧ Keeps (fun j => j = R) w W := by
  obtain ⟨l, hl⟩ : ∃ l, cs = ⟨l⟩ := ⟨cs.toList, by simp⟩
  subst hl
  match l, hs with
  | [x0, x1, x2, x3, x4], _ =>
    exact ⟨_, rfl, ((((h.set_ 0 a).set_ 1 b).set_ 2 c).set_ 3 d).set_ 4 e, (((((Keeps.refl (fun j => j = R) w).setCell (p := ⟨R, 0, none⟩) (.inl rfl) a).setCell (p := ⟨R, 1, none⟩) (.inl rfl) b).setCell (p := ⟨R, 2, none⟩) (.inl rfl) c).setCell (p := ⟨R, 3, none⟩) (.inl rfl) d).setCell (p := ⟨R, 4, none⟩) (.inl rfl) e⟩
end Go.Proofs.YtabcdodjkfknlaaGreatDoor
namespace Go.Proofs.YtabcdodjkfknlaaGreatDoor
open Go.RowKit Go.Maps
/-- the keys met so far: no key twice; a key is among them just where the map has it and it is no longer to come -/
def CollK {β : Type} (P : Program) (k : TypeId) (enk : β → Value) (f : Value → Option Value) (left : Lit → Bool) (ss : List β) : Prop :=
  ss.Nodup ∧ ∀ x, x ∈ ss ↔ (f (enk x)).isSome = true ∧ ∀ kl, keyOf P k (enk x) = some kl → left kl = false
section
variable {β : Type} {P : Program} {k : TypeId} {enk : β → Value} {f : Value → Option Value} {left : Lit → Bool} {ss : List β} {D : DataW Value}
theorem CollK.start (h2 : ∀ kv kl, keyOf P k kv = some kl → Maps.has D kl = (f kv).isSome ∧ ∀ v z, f kv = some v → D.atKey kl z = .held v) (h3 : ∀ kv, keyOf P k kv = none → f kv = none) : CollK P k enk f (Maps.has D) [] := by
  refine ⟨List.nodup_nil, fun x => ⟨fun h => (by cases h), fun ⟨h, h4⟩ => ?_⟩⟩
  cases hk : keyOf P k (enk x) with
  | none => rw [h3 _ hk] at h; cases h
  | some kl =>
    have h5 := h4 kl hk
    rw [(h2 _ kl hk).1, h] at h5
    cases h5
theorem CollK.step (K : Keyed P k) (hinj : ∀ x y, enk x = enk y → x = y) (h : CollK P k enk f left ss) (h2 : ∀ kv kl, keyOf P k kv = some kl → Maps.has D kl = (f kv).isSome ∧ ∀ v z, f kv = some v → D.atKey kl z = .held v) {x : β} {kl : Lit} {y : DataW Value} (hkey : keyOf P k (enk x) = some kl) (hlk : left kl = true) (hat : ∀ zd, D.atKey kl zd = y) :
    CollK P k enk f (fun z => left z && !z.sameKey kl) (ss ++ [x]) := by
  have hhas : (f (enk x)).isSome = true := by rw [← (h2 _ kl hkey).1]; exact has_true_of_atKey hat
  have hnew : x ∉ ss := fun hx => by have := ((h.2 x).1 hx).2 kl hkey; rw [hlk] at this; cases this
  refine ⟨List.nodup_append.2 ⟨h.1, by simp, fun a ha b hb => by simp at hb; subst hb; exact fun e => hnew (e ▸ ha)⟩, fun z => ?_⟩
  by_cases hz : z = x
  · subst hz
    refine ⟨fun _ => ⟨hhas, fun kl' hk' => ?_⟩, fun _ => by simp⟩
    obtain rfl : kl = kl' := by rw [hkey] at hk'; exact Option.some.inj hk'
    show (left kl && !kl.sameKey kl) = false
    rw [WideAt.sameKey_self (K.key hkey)]
    simp
  · rw [List.mem_append, List.mem_singleton]
    refine ⟨fun hm => ?_, fun ⟨h4, h5⟩ => .inl ((h.2 z).2 ⟨h4, fun kl' hk' => ?_⟩)⟩
    · obtain ⟨h4, h5⟩ := (h.2 z).1 (hm.resolve_right hz)
      exact ⟨h4, fun kl' hk' => by show (left kl' && _) = false; rw [h5 kl' hk']; rfl⟩
    · have h6 := h5 kl' hk'
      have hne : kl' ≠ kl := fun e => hz (hinj _ _ (K.inj hk' (by rw [e]; exact hkey)))
      change (left kl' && !kl'.sameKey kl) = false at h6
      rw [Maps.sameKey_ne hne] at h6
      simpa using h6
theorem CollK.fin (h : CollK P k enk f left ss) (hl : ∀ kl, left kl = false) (x : β) : x ∈ ss ↔ (f (enk x)).isSome = true := by
  rw [h.2 x]
  exact ⟨fun e => e.1, fun e => ⟨e, fun kl _ => hl kl⟩⟩
end
end Go.Proofs.YtabcdodjkfknlaaGreatDoor
namespace Go.Proofs.YtabcdodjkfknlaaGreatDoor
open Go.RowKit Go.Maps
theorem ranges_keeps {H : Type} {P : Program} {k : TypeId} {R : Value → Option (DataW H × List MemPlace)} {w w' : World} {b r n : Nat} {D : DataW H} {left : Lit → Bool} {cnt : Nat} {S : Nat → Prop} (h : w.ranges P k R b r n D left cnt) (hk : Keeps S w w') (hb : ¬ S b) (hr : ¬ S r) : w'.ranges P k R b r n D left cnt := by
  obtain ⟨es, clock, since, seen, c0, h1, h2, h3, h4, h5, h6⟩ := h
  have l1 := (Array.getElem?_eq_some_iff.1 h1).1
  have l2 := (Array.getElem?_eq_some_iff.1 h5).1
  exact ⟨es, clock, since, seen, c0, (hk.block b l1 hb).trans h1, h2, h3, h4, (hk.block r l2 hr).trans h5, h6⟩
theorem ranges_ne_blk {H : Type} {P : Program} {k : TypeId} {R : Value → Option (DataW H × List MemPlace)} {w : World} {b r n : Nat} {D : DataW H} {left : Lit → Bool} {cnt : Nat} {g : Nat} {T : TypeId} {cs : Array Value} (h : w.ranges P k R b r n D left cnt) (hg : Blk w g T cs) : g ≠ r ∧ g ≠ b := by
  obtain ⟨es, clock, since, seen, c0, h1, _, _, _, h5, _⟩ := h
  unfold Blk at hg
  constructor
  · rintro rfl; rw [hg] at h5; injection h5 with h5; cases h5
  · rintro rfl; rw [hg] at h1; injection h1 with h1; cases h1
theorem RowK.Own.blk_of {α : Type} {r : RowK α} {B : Nat} {w : World} {v : Value} {l : List α} (h : r.Own B w v l) : ∀ g, v.ownBlock = some g → ∃ cs, Blk w g r.e cs := by
  intro g hg
  obtain ⟨_, h2 | ⟨g', cap, cur, h2, h3, h4, _⟩⟩ := h
  · rw [h2.1] at hg; cases hg
  · rw [h2] at hg
    obtain rfl : g' = g := Option.some.inj hg
    exact ⟨cur, h4⟩
/-- a map's tables on their way into a row -/
structure RgAt (w wr : World) (M O r n : Nat) (D : DataW Value) (left : Lit → Bool) (cnt : Nat) (f h l x : Int) (ss : List Tbl) : Prop where
  rg : wr.ranges Tryz.prog 3 rawR M r n D left cnt
  below : Below w.heap.size w wr
  bo : Blk wr (w.heap.size + 2) 30 vZero
  row : ∃ p c, Blk wr O 30 #[.slice p ss.length c, .int .u64 f, .int .u64 h, .int .i64 l, .int .i64 x] ∧ rkT.Own w.heap.size wr (.slice p ss.length c) ss
  hO : w.heap.size + 2 < O
section
variable {w wr w' : World} {M O r n : Nat} {D : DataW Value} {left left' : Lit → Bool} {cnt cnt' : Nat} {f h l x : Int} {ss : List Tbl}
theorem RgAt.keeps {S : Nat → Prop} (a : RgAt w wr M O r n D left cnt f h l x ss) (hk : Keeps S wr w') (hs : ∀ j, S j → w.heap.size ≤ j) (h1 : ¬ S (w.heap.size + 2)) (h2 : ¬ S O) (h3 : ∀ j cs, Blk wr j 76 cs → ¬ S j) (hr : w'.ranges Tryz.prog 3 rawR M r n D left' cnt') : RgAt w w' M O r n D left' cnt' f h l x ss := by
  obtain ⟨_, hb, hbo, ⟨p, c, h4, h5⟩, hO⟩ := a
  refine ⟨hr, hb.trans (hk.below (fun j _ e => hs j e) hb.size), hbo.keeps hk h1, ⟨p, c, h4.keeps hk h2, h5.keeps hk fun g hg => ?_⟩, hO⟩
  obtain ⟨cs, hcs⟩ := h5.blk_of g hg
  exact h3 g cs hcs
theorem RgAt.next (a : RgAt w wr M O r n D left cnt f h l x ss) (hw : w.heap.size ≤ r) (hg : wr.grownBy w' (some r)) (hr : w'.ranges Tryz.prog 3 rawR M r n D left' cnt') : RgAt w w' M O r n D left' cnt' f h l x ss := by
  have hk : Keeps (fun j => j = r) wr w' := (Keeps.refl _ wr).grown hg fun k e => .inl (by simpa using e.symm)
  obtain ⟨p, c, h4, _⟩ := a.row
  exact a.keeps hk (fun j e => by omega) (fun e => (ranges_ne_blk a.rg a.bo).1 e) (fun e => (ranges_ne_blk a.rg h4).1 e) (fun j cs hj e => (ranges_ne_blk a.rg hj).1 e) hr
theorem RgAt.alloc (a : RgAt w wr M O r n D left cnt f h l x ss) (o : Obj) : RgAt w (wr.alloc o) M O r n D left cnt f h l x ss :=
  a.keeps (S := fun _ => False) (.of_below ((Below.refl _ _).alloc (Nat.le_refl _) o)) (fun _ => False.elim) id id (fun _ _ _ => id) (a.rg.alloc o)
theorem RgAt.app (a : RgAt w wr M O r n D left cnt f h l x ss) {p : Option Addr} {c : Nat} (hp : Blk wr O 30 #[.slice p ss.length c, .int .u64 f, .int .u64 h, .int .i64 l, .int .i64 x]) {t : Tbl} {g : Nat} (hg : BlkIs wr g (rkT.en t)) (hn : ss.length ≤ 1000000) :
    ∃ p' c' w', (dappOp #[27, 27] 27 #[.slice p ss.length c, .slice (some ⟨g, 0, none⟩) 1 1]).run Tryz.prog wr = .ok (.slice p' (ss.length + 1) c') w' ∧ Blk w' O 30 #[.slice p ss.length c, .int .u64 f, .int .u64 h, .int .i64 l, .int .i64 x] ∧
      RgAt w (w'.setCell ⟨O, 0, none⟩ (.slice p' (ss.length + 1) c')) M O r n D left cnt f h l x (ss ++ [t]) := by
  obtain ⟨hrg, hb, hbo, ⟨p0, c0, h4, h5⟩, hO⟩ := a
  obtain ⟨rfl, rfl⟩ : p = p0 ∧ c = c0 := by
    unfold Blk at h4 hp
    rw [h4] at hp
    injection hp with hp
    injection hp with hp _
    have h6 := congrArg (fun a : Array Value => a[0]?) hp
    have h7 := Value.slice.inj (Option.some.inj h6)
    exact ⟨h7.1.symm, h7.2.2.symm⟩
  obtain ⟨p', c', w', e1, o1, k1, n1⟩ := h5.app rkT_ok (t := t) hb.size hg hn
  have hs : ∀ j, (Value.slice p ss.length c).ownBlock = some j → ∃ cs, Blk wr j 76 cs := fun j hj => h5.blk_of j hj
  have hlo : ∀ j, (Value.slice p ss.length c).ownBlock = some j → w.heap.size ≤ j := fun j hj => (h5.lt j hj).1
  have hbo1 := hbo.keeps k1 (h5.blk_ne hbo (by decide))
  have h41 := h4.keeps k1 (h5.blk_ne h4 (by decide))
  have hrg1 := ranges_keeps hrg k1 (fun e => by obtain ⟨cs, hcs⟩ := hs _ e; exact (ranges_ne_blk hrg hcs).2 rfl) (fun e => by obtain ⟨cs, hcs⟩ := hs _ e; exact (ranges_ne_blk hrg hcs).1 rfl)
  have hb1 := hb.trans (k1.below (fun j _ e => hlo j e) hb.size)
  have hk2 : Keeps (fun j => j = O) w' (w'.setCell ⟨O, 0, none⟩ (.slice p' (ss.length + 1) c')) := (Keeps.refl (fun j => j = O) w').setCell (p := ⟨O, 0, none⟩) (.inl rfl) _
  have hOne := (ranges_ne_blk hrg1 h41)
  refine ⟨p', c', w', e1, h41, ranges_keeps hrg1 hk2 (fun e => hOne.2 e.symm) (fun e => hOne.1 e.symm), hb1.trans (hk2.below (fun j _ e => by omega) hb1.size), hbo1.keeps hk2 (fun e => by omega), ⟨p', c', ?_, ?_⟩, hO⟩
  · rw [List.length_append]; exact h41.set_ 0 _
  · rw [List.length_append]
    exact o1.keeps hk2 fun g hg e => o1.blk_ne h41 (by decide) (by rw [hg, e])
end
end Go.Proofs.YtabcdodjkfknlaaGreatDoor
namespace Go.Proofs
open Go.Shelf
def Tryz.sortTb_ren : Go.Shelf.Ren := ⟨fun | 6 => 110 | 15 => 147 | 14 => 146 | 28 => 177 | 29 => 178 | 20 => 169 | 21 => 170 | 22 => 171 | 23 => 172 | 24 => 173 | 25 => 174 | 26 => 175 | 27 => 176 | 46 => 196 | 47 => 197 | 48 => 198 | 49 => 199 | 50 => 200 | 57 => 206 | n => n, fun | 22 => 27 | 24 => 76 | 25 => 135 | 3 => 3 | 39 => 141 | 0 => 0 | 53 => 93 | 55 => 28 | 4 => 4 | 46 => 206 | 45 => 205 | 50 => 210 | 5 => 5 | 9 => 9 | 66 => 230 | 70 => 233 | 76 => 237 | 77 => 238 | n => n, fun | n => n⟩
theorem Tryz.sortTb : Go.Proofs.SlLaysF0.n6 Tryz.prog Tryz.sortTb_ren := {
  mixed := by kernel_rfl
  f6 := ⟨Tryz.f110.name, by decide, Tryz.func110.trans (congrArg some (by kernel_rfl))⟩
  f14 := ⟨Tryz.f146.name, by decide, Tryz.func146.trans (congrArg some (by kernel_rfl))⟩
  f15 := Tryz.func147.trans (congrArg some (by kernel_rfl))
  f20 := ⟨Tryz.f169.name, by decide, Tryz.func169.trans (congrArg some (by kernel_rfl))⟩
  f21 := ⟨Tryz.f170.name, by decide, Tryz.func170.trans (congrArg some (by kernel_rfl))⟩
  f22 := ⟨Tryz.f171.name, by decide, Tryz.func171.trans (congrArg some (by kernel_rfl))⟩
  f23 := ⟨Tryz.f172.name, by decide, Tryz.func172.trans (congrArg some (by kernel_rfl))⟩
  f24 := ⟨Tryz.f173.name, by decide, Tryz.func173.trans (congrArg some (by kernel_rfl))⟩
  f25 := ⟨Tryz.f174.name, by decide, Tryz.func174.trans (congrArg some (by kernel_rfl))⟩
  f26 := ⟨Tryz.f175.name, by decide, Tryz.func175.trans (congrArg some (by kernel_rfl))⟩
  f27 := ⟨Tryz.f176.name, by decide, Tryz.func176.trans (congrArg some (by kernel_rfl))⟩
  f28 := Tryz.func177.trans (congrArg some (by kernel_rfl))
  f29 := Tryz.func178.trans (congrArg some (by kernel_rfl))
  f46 := ⟨Tryz.f196.name, by decide, Tryz.func196.trans (congrArg some (by kernel_rfl))⟩
  f47 := Tryz.func197.trans (congrArg some (by kernel_rfl))
  f48 := Tryz.func198.trans (congrArg some (by kernel_rfl))
  f49 := ⟨Tryz.f199.name, by decide, Tryz.func199.trans (congrArg some (by kernel_rfl))⟩
  f50 := ⟨Tryz.f200.name, by decide, Tryz.func200.trans (congrArg some (by kernel_rfl))⟩
  f57 := ⟨Tryz.f206.name, by decide, Tryz.func206.trans (congrArg some (by kernel_rfl))⟩
  t0 := Tryz.underlying0
  a0 := Tryz.isAgg0
  z0 := Tryz.sizeOf0
  v0 := Tryz.zeroValue0
  t3 := Tryz.underlying3
  a3 := Tryz.isAgg3
  z3 := Tryz.sizeOf3
  v3 := Tryz.zeroValue3
  t4 := Tryz.underlying4
  a4 := Tryz.isAgg4
  z4 := Tryz.sizeOf4
  v4 := Tryz.zeroValue4
  t5 := Tryz.underlying5
  a5 := Tryz.isAgg5
  z5 := Tryz.sizeOf5
  v5 := Tryz.zeroValue5
  t9 := Tryz.underlying9
  a9 := Tryz.isAgg9
  z9 := Tryz.sizeOf9
  v9 := Tryz.zeroValue9
  t22 := Tryz.underlying27
  a22 := Tryz.isAgg27
  z22 := Tryz.sizeOf27
  v22 := Tryz.zeroValue27
  t25 := Tryz.underlying135
  a25 := Tryz.isAgg135
  z25 := Tryz.sizeOf135
  v25 := Tryz.zeroValue135
  t39 := Tryz.underlying141
  a39 := Tryz.isAgg141
  z39 := Tryz.sizeOf141
  v39 := Tryz.zeroValue141
  t45 := Tryz.underlying205
  a45 := Tryz.isAgg205
  z45 := Tryz.sizeOf205
  v45 := Tryz.zeroValue205
  t46 := Tryz.underlying206
  a46 := Tryz.isAgg206
  z46 := Tryz.sizeOf206
  v46 := Tryz.zeroValue206
  t50 := Tryz.underlying210
  a50 := Tryz.isAgg210
  z50 := Tryz.sizeOf210
  v50 := Tryz.zeroValue210
  t53 := Tryz.underlying93
  a53 := Tryz.isAgg93
  z53 := Tryz.sizeOf93
  v53 := Tryz.zeroValue93
  t55 := Tryz.underlying28
  a55 := Tryz.isAgg28
  z55 := Tryz.sizeOf28
  v55 := Tryz.zeroValue28
  t66 := Tryz.underlying230
  a66 := Tryz.isAgg230
  z66 := Tryz.sizeOf230
  v66 := Tryz.zeroValue230
  t70 := Tryz.underlying233
  a70 := Tryz.isAgg233
  z70 := Tryz.sizeOf233
  v70 := Tryz.zeroValue233
  t76 := Tryz.underlying237
  a76 := Tryz.isAgg237
  z76 := Tryz.sizeOf237
  v76 := Tryz.zeroValue237
  t77 := Tryz.underlying238
  a77 := Tryz.isAgg238
  z77 := Tryz.sizeOf238
  v77 := Tryz.zeroValue238 }
end Go.Proofs
namespace Go.Proofs.YtabcdodjkfknlaaGreatDoor
open Go.RowKit Go.Sort Go.Shelf
instance : Inhabited Tbl := ⟨⟨0, 0, 0, ⟨#[]⟩, ⟨#[]⟩⟩⟩
theorem orderT_lays (blk off size : Nat) (w : World) : CmpLays Tryz.prog 87 #[] Tbl.cells 5 ordT blk off size w :=
  fun _ _ _ _ x y => (order_dr x y _).mono fun _ _ ⟨he, hb, hd⟩ => ⟨he, grow_of_below hb hd⟩
theorem ltTb (x y : Tbl) : ltOf ordT x y = decide (ordT x y < 0) := rfl
theorem swoTb : SWO (ltOf ordT) where
  irrefl x := by rw [ltTb, ordT_3.self]; rfl
  trans x y z h1 h2 := by
    rw [ltTb, decide_eq_true_eq] at *
    exact ordT_3.trans _ _ _ h1 h2
  ntrans x y z h1 h2 := by
    rw [ltTb, decide_eq_false_iff_not] at *
    exact ordT_3.ntrans h1 h2
theorem tblCells_one (a : Tbl) : ∀ u ∈ a.cells, u.oneCell' = true := rkT_ok.one a
theorem sortTb_calls {B : Nat} {w : World} {p : Option Addr} {c : Nat} {ts : List Tbl} (h : rkT.Own B w (.slice p ts.length c) ts) (hn : ts.length ≤ 1000000) :
    Calls Tryz.prog 110 #[.slice p ts.length c, .func (.func 87) #[] #[]] w fun e w' => e = .returned (.tuple #[]) ∧ ∃ s, (s.Perm ts ∧ s.Pairwise fun a b => ¬ ordT b a < 0) ∧ rkT.Own B w' (.slice p ts.length c) s ∧ Keeps (fun j => (Value.slice p ts.length c).ownBlock = some j) w w' := by
  cases ts with
  | nil =>
    have := AnyF.slices_SortFunc_none { Tryz.sortTb with } p c (.func (.func 87) #[] #[]) w
    exact this.mono fun e w' ⟨he, hw⟩ => ⟨he, [], ⟨List.Perm.refl _, List.Pairwise.nil⟩, by rw [hw]; exact h, by rw [hw]; exact Keeps.refl _ _⟩
  | cons t ts' =>
    obtain ⟨g, c', e, _, _, hlt, _⟩ := h.cells (by simp)
    obtain ⟨rfl, rfl⟩ : p = some ⟨g, 0, none⟩ ∧ c = c' := by injection e with e1 _ e3; exact ⟨e1, e3⟩
    have eg : ∀ args w, (callFunc 87 args).run Tryz.prog w = .ok (.enter 87 args) w := enters_of Tryz.func87 (by kernel_rfl) rfl
    have hlt9 : (t :: ts').toArray.size < 4611686018427387904 := Nat.lt_of_le_of_lt (Nat.le_trans (Nat.le_of_eq (by simp)) hn) (by decide)
    have hcon := AnyQ.slices_SortFunc Tryz.sortTb 5 Tryz.isAgg76 Tryz.sizeOf76 Tbl.cells (fun _ => rfl) tblCells_one ordT swoTb 87 #[] g 0 c (t :: ts').toArray w eg (orderT_lays g 0 _ w) (h.holdsK rkT_ok) hlt hlt9
    change Calls Tryz.prog 110 _ _ _ at hcon
    have hsz : (t :: ts').toArray.size = (t :: ts').length := by simp
    rw [hsz] at hcon
    refine hcon.mono fun e w' ⟨he, d', m, os, hp, hs, hw⟩ => ⟨he, d'.toList, ?_, ?_⟩
    · rw [← hsz] at hp hs
      refine ⟨permIn_permG hp, ?_⟩
      rw [← hp.1] at hs
      exact sortedIn_pairwiseG ltTb hs
    · have hd : d'.size = (t :: ts').length := by rw [← hsz] at hp; rw [hp.1, hsz]
      obtain ⟨h1, h2⟩ := h.sorted rkT_ok (m := m) (os := os) hd
      rw [hw]
      exact ⟨h1, h2.mono fun j _ e => by rw [e]; rfl⟩
end Go.Proofs.YtabcdodjkfknlaaGreatDoor
