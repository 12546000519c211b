/- The keys of a map of a call's own, collected in some order. No program in sight. -/
import Derived.Test.YtaikedlkkjnffaaGreatDoorMapV
import Derived.Maps.Range
namespace Go.Proofs.YtaikedlkkjnffaaGreatDoor
open Go.RowKit Go.Maps
/-- the keys met so far: no key twice; a key is among them just where the map has it and it is no longer to come -/
def CollK {β : Type} (P : Program) (k : TypeId) (enk : β → Value) (f : Value → Option Value) (left : Lit → Bool) (ss : List β) : Prop :=
  ss.Nodup ∧ ∀ x, x ∈ ss ↔ (f (enk x)).isSome = true ∧ ∀ kl, keyOf P k (enk x) = some kl → left kl = false
section
variable {β : Type} {P : Program} {k : TypeId} {enk : β → Value} {f : Value → Option Value} {left : Lit → Bool} {ss : List β} {D : DataW Value}
theorem CollK.start (h2 : ∀ kv kl, keyOf P k kv = some kl → Maps.has D kl = (f kv).isSome ∧ ∀ v z, f kv = some v → D.atKey kl z = .held v) (h3 : ∀ kv, keyOf P k kv = none → f kv = none) : CollK P k enk f (Maps.has D) [] := by
  refine ⟨List.nodup_nil, fun x => ⟨fun h => (by cases h), fun ⟨h, h4⟩ => ?_⟩⟩
  cases hk : keyOf P k (enk x) with
  | none => rw [h3 _ hk] at h; cases h
  | some kl =>
    have h5 := h4 kl hk
    rw [(h2 _ kl hk).1, h] at h5
    cases h5
theorem CollK.step (K : Keyed P k) (hinj : ∀ x y, enk x = enk y → x = y) (h : CollK P k enk f left ss) (h2 : ∀ kv kl, keyOf P k kv = some kl → Maps.has D kl = (f kv).isSome ∧ ∀ v z, f kv = some v → D.atKey kl z = .held v) {x : β} {kl : Lit} {y : DataW Value} (hkey : keyOf P k (enk x) = some kl) (hlk : left kl = true) (hat : ∀ zd, D.atKey kl zd = y) :
    CollK P k enk f (fun z => left z && !z.sameKey kl) (ss ++ [x]) := by
  have hhas : (f (enk x)).isSome = true := by rw [← (h2 _ kl hkey).1]; exact has_true_of_atKey hat
  have hnew : x ∉ ss := fun hx => by have := ((h.2 x).1 hx).2 kl hkey; rw [hlk] at this; cases this
  refine ⟨List.nodup_append.2 ⟨h.1, by simp, fun a ha b hb => by simp at hb; subst hb; exact fun e => hnew (e ▸ ha)⟩, fun z => ?_⟩
  by_cases hz : z = x
  · subst hz
    refine ⟨fun _ => ⟨hhas, fun kl' hk' => ?_⟩, fun _ => by simp⟩
    obtain rfl : kl = kl' := by rw [hkey] at hk'; exact Option.some.inj hk'
    show (left kl && !kl.sameKey kl) = false
    rw [WideAt.sameKey_self (K.key hkey)]
    simp
  · rw [List.mem_append, List.mem_singleton]
    refine ⟨fun hm => ?_, fun ⟨h4, h5⟩ => .inl ((h.2 z).2 ⟨h4, fun kl' hk' => ?_⟩)⟩
    · obtain ⟨h4, h5⟩ := (h.2 z).1 (hm.resolve_right hz)
      exact ⟨h4, fun kl' hk' => by show (left kl' && _) = false; rw [h5 kl' hk']; rfl⟩
    · have h6 := h5 kl' hk'
      have hne : kl' ≠ kl := fun e => hz (hinj _ _ (K.inj hk' (by rw [e]; exact hkey)))
      change (left kl' && !kl'.sameKey kl) = false at h6
      rw [Maps.sameKey_ne hne] at h6
      simpa using h6
theorem CollK.fin (h : CollK P k enk f left ss) (hl : ∀ kl, left kl = false) (x : β) : x ∈ ss ↔ (f (enk x)).isSome = true := by
  rw [h.2 x]
  exact ⟨fun e => e.1, fun e => ⟨e, fun kl _ => hl kl⟩⟩
end
end Go.Proofs.YtaikedlkkjnffaaGreatDoor
