/- Maps of a call's own, told by a function of their keys' values. No program in sight. -/
import Derived.Test.YtaikedlkkjnffaaGreatDoorKeep
import Derived.Maps.OwnSet
import Derived.Maps.Views
import Derived.WideKeyEntry
import Derived.Maps.Range
namespace Go.Proofs.YtaikedlkkjnffaaGreatDoor
open Go.RowKit Go.Maps
/-- an element reads as itself -/
def rawR (v : Value) : Option (DataW Value × List MemPlace) := some (.held v, [])
/-- block b is a map of n entries; f tells what stands at each key -/
def MapAt (P : Program) (k : TypeId) (w : World) (b n : Nat) (f : Value → Option Value) : Prop :=
  ∃ D, w.ownsMap P k rawR b n D ∧ Maps.size D = n ∧ (∀ kv kl, keyOf P k kv = some kl → Maps.has D kl = (f kv).isSome ∧ ∀ v z, f kv = some v → D.atKey kl z = .held v) ∧ ∀ kv, keyOf P k kv = none → f kv = none
/-- a function of values, with one key's value laid anew -/
noncomputable def putV (f : Value → Option Value) (kv v : Value) : Value → Option Value := fun x => open Classical in if x = kv then some v else f x
noncomputable def delV (f : Value → Option Value) (kv : Value) : Value → Option Value := fun x => open Classical in if x = kv then none else f x
theorem putV_same (f : Value → Option Value) (kv v : Value) : putV f kv v kv = some v := by unfold putV; exact if_pos rfl
theorem putV_other {f : Value → Option Value} {kv v x : Value} (h : x ≠ kv) : putV f kv v x = f x := by unfold putV; exact if_neg h
theorem delV_same (f : Value → Option Value) (kv : Value) : delV f kv kv = none := by unfold delV; exact if_pos rfl
theorem delV_other {f : Value → Option Value} {kv x : Value} (h : x ≠ kv) : delV f kv x = f x := by unfold delV; exact if_neg h
section
variable {P : Program} {k : TypeId} {w w' : World} {b n : Nat} {f : Value → Option Value} {S : Nat → Prop}
theorem ownsMap_tight {H : Type} {R : Value → Option (DataW H × List MemPlace)} {D : DataW H} (h : w.ownsMap P k R b n D) : w.ownsMap P k R b (Maps.size D) D := by
  obtain ⟨es, clock, hb, F, hs, rfl⟩ := h
  refine ⟨es, clock, hb, F, ?_, rfl⟩
  show es.size ≤ ((es.toList.map (WideElems.rg P k R)).foldr DataW.insert []).length
  rw [length_read]
  exact Nat.le_refl _
theorem MapAt.made (P : Program) (k : TypeId) (w : World) : MapAt P k (w.alloc (.map #[] 0)) w.heap.size 0 (fun _ => none) :=
  ⟨.map [], World.ownsMap_made _ _ _ _, rfl, fun _ _ _ => ⟨rfl, fun _ _ h => by cases h⟩, fun _ _ => rfl⟩
theorem MapAt.lt (h : MapAt P k w b n f) : b < w.heap.size := by obtain ⟨D, h1, _⟩ := h; exact h1.lt
theorem MapAt.keeps (h : MapAt P k w b n f) (hk : Keeps S w w') (hs : ¬ S b) : MapAt P k w' b n f := by
  obtain ⟨D, h1, h2⟩ := h
  exact ⟨D, map_keeps h1 hk hs, h2⟩
theorem MapAt.below {B : Nat} (h : MapAt P k w b n f) (hk : Below B w w') (hb : b < B) : MapAt P k w' b n f :=
  h.keeps (S := fun j => B ≤ j) (.of_below' hk fun _ hj _ => hj) (by omega)
theorem MapAt.later (h : MapAt P k w b n f) (hk : Below w.heap.size w w') : MapAt P k w' b n f := h.below hk h.lt
theorem MapAt.ne_blk {g : Nat} {t : TypeId} {cs : Array Value} (h : MapAt P k w b n f) (hg : Blk w g t cs) : b ≠ g := by
  obtain ⟨D, ⟨es, clock, hb, _⟩, _⟩ := h
  rintro rfl
  unfold Blk at hg
  rw [hb] at hg
  cases hg
theorem MapAt.frozen (h : MapAt P k w b n f) : ∃ es clock, w.heap[b]? = some (.map es clock) := by
  obtain ⟨D, ⟨es, clock, hb, _⟩, _⟩ := h
  exact ⟨es, clock, hb⟩
/-- 'm[k]' -/
theorem MapAt.look {t e : TypeId} (h : MapAt P k w b n f) (K : Keyed P k) (ht : P.underlying t = some (.map k e)) {z : Value} (hz : (zeroValue e).run P w = .ok z w) {kv : Value} {kl : Lit} (hkey : keyOf P k kv = some kl) :
    (Instr.lookup t (.map (some b)) kv false).run P w = .ok ((f kv).getD z) w := by
  obtain ⟨D, h1, _, h2, _⟩ := h
  obtain ⟨v, ps, hr, hv⟩ := h1.lookup K ht hz (zd := .held z) (zp := []) rfl hkey
  obtain ⟨e1, e2⟩ := h2 kv kl hkey
  cases hf : f kv with
  | none =>
    rw [hf] at e1
    rw [Maps.atKey_of_not_has e1] at hv
    unfold rawR at hv
    injection hv with hv
    injection hv with hv _
    injection hv with hv
    rw [hv] at hr
    exact hr
  | some u =>
    rw [e2 u _ hf] at hv
    unfold rawR at hv
    injection hv with hv
    injection hv with hv _
    injection hv with hv
    rw [hv] at hr
    exact hr
/-- 'v, ok := m[k]' -/
theorem MapAt.look_ok {t e : TypeId} (h : MapAt P k w b n f) (K : Keyed P k) (ht : P.underlying t = some (.map k e)) {z : Value} (hz : (zeroValue e).run P w = .ok z w) {kv : Value} {kl : Lit} (hkey : keyOf P k kv = some kl) :
    (Instr.lookup t (.map (some b)) kv true).run P w = .ok (.tuple #[(f kv).getD z, .bool (f kv).isSome]) w := by
  obtain ⟨D, h1, _, h2, _⟩ := h
  obtain ⟨v, ps, hr, hv⟩ := h1.look_ok K ht hz (zd := .held z) (zp := []) rfl hkey
  obtain ⟨e1, e2⟩ := h2 kv kl hkey
  rw [e1] at hr
  cases hf : f kv with
  | none =>
    rw [hf] at e1 hr
    rw [Maps.atKey_of_not_has e1] at hv
    unfold rawR at hv
    injection hv with hv
    injection hv with hv _
    injection hv with hv
    rw [hv] at hr
    exact hr
  | some u =>
    rw [hf] at hr
    rw [e2 u _ hf] at hv
    unfold rawR at hv
    injection hv with hv
    injection hv with hv _
    injection hv with hv
    rw [hv] at hr
    exact hr
/-- 'm[k] = v' -/
theorem MapAt.put {t e : TypeId} (h : MapAt P k w b n f) (K : Keyed P k) (ht : P.underlying t = some (.map k e)) (hn : n < maxLen) {kv : Value} {kl : Lit} (hkey : keyOf P k kv = some kl) (v : Value) :
    ∃ w', (Instr.mapUpdate t (.map (some b)) kv v).run P w = .ok () w' ∧ MapAt P k w' b (if (f kv).isSome then n else n + 1) (putV f kv v) ∧ Keeps (fun j => j = b) w w' := by
  obtain ⟨D, h1, h0, h2, h3⟩ := h
  obtain ⟨w', hr, ho, hg⟩ := h1.update K ht hn hkey (val := v) (d := .held v) (ps := []) rfl
  have hT := h1.tidy K
  have hsz : Maps.size (D.put kl (.held v)) = if (f kv).isSome then n else n + 1 := by rw [Maps.size_put hT, (h2 kv kl hkey).1, h0]
  refine ⟨w', hr, ⟨D.put kl (.held v), by rw [← hsz]; exact ownsMap_tight ho, hsz, fun x xl hx => ?_, fun x hx => ?_⟩, (Keeps.refl _ _).grown hg (fun j e => .inl (by simpa using e.symm))⟩
  · by_cases e : x = kv
    · subst e
      obtain rfl : xl = kl := by rw [hx] at hkey; exact Option.some.inj hkey
      rw [putV_same]
      refine ⟨Maps.has_put_same h1.isMap (K.key hx) _, fun u z hu => ?_⟩
      obtain rfl := Option.some.inj hu
      exact Maps.atKey_put_same h1.isMap (K.key hx) _ _
    · have hne : xl ≠ kl := fun e2 => e (K.inj hx (by rw [e2]; exact hkey))
      rw [putV_other e]
      obtain ⟨i1, i2⟩ := h2 x xl hx
      exact ⟨(Maps.has_put_other hne _).trans i1, fun u z hu => (Maps.atKey_put_other hne _ _).trans (i2 u z hu)⟩
  · rw [putV_other (fun e => by rw [e, hkey] at hx; cases hx)]
    exact h3 x hx
/-- 'delete(m, k)' -/
theorem MapAt.drop {t e : TypeId} (h : MapAt P k w b n f) (K : Keyed P k) (ht : P.underlying t = some (.map k e)) {kv : Value} {kl : Lit} (hkey : keyOf P k kv = some kl) (ty : TypeId) :
    ∃ w', (Builtin.delete_ #[t, k] ty #[.map (some b), kv]).run P w = .ok (.tuple #[]) w' ∧ MapAt P k w' b (if (f kv).isSome then n - 1 else n) (delV f kv) ∧ Keeps (fun j => j = b) w w' := by
  obtain ⟨D, h1, h0, h2, h3⟩ := h
  obtain ⟨w', hr, ho, ht'⟩ := h1.drop K ht hkey ty
  have hT := h1.tidy K
  have hsz : Maps.size (D.del kl) = if (f kv).isSome then n - 1 else n := by
    have := Maps.size_del (k := kl) hT
    rw [(h2 kv kl hkey).1, h0] at this
    split at this <;> rename_i hc
    · rw [if_pos hc]; omega
    · rw [if_neg hc]; omega
  refine ⟨w', hr, ⟨D.del kl, by rw [← hsz]; exact ownsMap_tight ho, hsz, fun x xl hx => ?_, fun x hx => ?_⟩, (Keeps.refl _ _).grown ht'.grown (fun j e => .inl (by simpa using e.symm))⟩
  · by_cases e : x = kv
    · subst e
      obtain rfl : xl = kl := by rw [hx] at hkey; exact Option.some.inj hkey
      rw [delV_same]
      exact ⟨Maps.has_del_same, fun u z hu => by cases hu⟩
    · have hne : xl ≠ kl := fun e2 => e (K.inj hx (by rw [e2]; exact hkey))
      rw [delV_other e]
      obtain ⟨i1, i2⟩ := h2 x xl hx
      exact ⟨(Maps.has_del_other hne).trans i1, fun u z hu => (Maps.atKey_del_other hne _).trans (i2 u z hu)⟩
  · rw [delV_other (fun e => by rw [e, hkey] at hx; cases hx)]
    exact h3 x hx
/-- 'len(m)' -/
theorem MapAt.len {t e : TypeId} (h : MapAt P k w b n f) (ht : P.underlying t = some (.map k e)) (ty : TypeId) : (Builtin.len_ #[t] ty #[.map (some b)]).run P w = .ok (.int .i64 n) w := by
  obtain ⟨D, h1, h0, _⟩ := h
  rw [h1.len ht ty, h0]
theorem MapAt.of_block (h : MapAt P k w b n f) (e : w'.heap[b]? = w.heap[b]?) : MapAt P k w' b n f := by
  obtain ⟨D, ⟨es, clock, hb, h1⟩, h2⟩ := h
  exact ⟨D, ⟨es, clock, e.trans hb, h1⟩, h2⟩
/-- 'm[k] = append(m[k], ..)': the entry is taken, and stored to later -/
theorem MapAt.entry {t e : TypeId} (h : MapAt P k w b n f) (K : WideMaps.KeyLaw P k) (ht : P.underlying t = some (.map k e)) (hn : n < maxLen) {z : Value} (hz : ∀ u : World, (zeroValue e).run P u = .ok z u) {kv : Value} {kl : Lit} (hkey : keyOf P k kv = some kl) :
    ∃ (st : Nat) (w1 : World), (Instr.mapEntry t (.map (some b)) kv).run P w = .ok (.tuple #[(f kv).getD z, goInt st]) w1 ∧ Keeps (fun j => j = b) w w1 ∧
      ∀ (w2 : World) (v : Value), w2.heap[b]? = w1.heap[b]? → ∃ w3, (Instr.entryStore t (.map (some b)) (goInt st) v).run P w2 = .ok () w3 ∧ MapAt P k w3 b (if (f kv).isSome then n else n + 1) (putV f kv v) ∧ Keeps (fun j => j = b) w2 w3 := by
  have hput := fun v => h.put (Keyed.of_law K) ht hn hkey v
  obtain ⟨D, h1, h0, h2, h3⟩ := h
  obtain ⟨es, clock, hb, F, hs, rfl⟩ := h1
  obtain ⟨v0, st, es1, clock1, hr, hv, hst⟩ := WideElems.entry_then_store K ht hz hb F hkey
  have hf : v0 = (f kv).getD z := by
    obtain ⟨e1, e2⟩ := h2 kv kl hkey
    rcases Maps.fit_look false (Keyed.of_law K) ht (hz w) hb F hkey with ⟨_, hno, hat⟩ | ⟨e0, y, hm0, hk0, _, hR, hat, _⟩
    · have : Maps.has (DataW.map ((es.toList.map (WideElems.rg P k rawR)).foldr DataW.insert [])) kl = false := Maps.has_false_of_atKey hat
      rw [this] at e1
      cases hfk : f kv with
      | some u => rw [hfk] at e1; cases e1
      | none =>
        rcases hv with ⟨e', hm', hk', _⟩ | ⟨_, hv⟩
        · exact absurd hk' (hno e' hm')
        · exact hv
    · have : Maps.has (DataW.map ((es.toList.map (WideElems.rg P k rawR)).foldr DataW.insert [])) kl = true := Maps.has_true_of_atKey hat
      rw [this] at e1
      cases hfk : f kv with
      | none => rw [hfk] at e1; cases e1
      | some u =>
        have h4 := e2 u .nil hfk
        rw [hat .nil] at h4
        unfold rawR at hR
        obtain rfl := Option.some.inj hR
        injection h4 with h4
        rcases hv with ⟨e', hm', hk', hv⟩ | ⟨hno, _⟩
        · have hp := ((MapKept.stamped_iff es clock).1 F.stamped).2.2
          have : e' = e0 := entry_eq_of_key hp hm' hm0 (by rw [hk', hk0])
          rw [hv, this, h4]; rfl
        · exact absurd hk0 (hno e0 hm0)
  have hlt : b < w.heap.size := (Array.getElem?_eq_some_iff.1 hb).1
  refine ⟨st, ChangeMaps.setBlock w b (.map es1 clock1), by rw [← hf]; exact hr, ⟨rfl, rfl, rfl, by simp [ChangeMaps.setBlock], fun j _ hj => ChangeMaps.heap_setBlock_other hb _ hj⟩, fun w2 v hw2 => ?_⟩
  rw [ChangeMaps.heap_setBlock_same hb] at hw2
  obtain ⟨es', clock', hs1, hs2⟩ := hst w2 v hw2
  obtain ⟨w', hr', hM, _⟩ := hput v
  rw [hs2] at hr'
  injection hr' with _ hr'
  subst hr'
  refine ⟨ChangeMaps.setBlock w2 b (.map es' clock'), hs1, hM.of_block ?_, ⟨rfl, rfl, rfl, by simp [ChangeMaps.setBlock], fun j _ hj => ChangeMaps.heap_setBlock_other hw2 _ hj⟩⟩
  rw [ChangeMaps.heap_setBlock_same hb, ChangeMaps.heap_setBlock_same hw2]
theorem MapAt.congr {f' : Value → Option Value} (h : MapAt P k w b n f) (hf : ∀ x, f x = f' x) : MapAt P k w b n f' := by
  rwa [← show f = f' from funext hf]
end
end Go.Proofs.YtaikedlkkjnffaaGreatDoor
