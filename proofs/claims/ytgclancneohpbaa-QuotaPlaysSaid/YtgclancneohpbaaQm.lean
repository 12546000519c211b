/- A quota in memory: its struct, its map of purses; a look-up and a store at the operation. -/
import Derived.Test.YtgclancneohpbaaProg
import Derived.Test.YtgclancneohpbaaKeep
import Derived.Test.YtgclancneohpbaaQt
import Derived.Maps.OwnSet
import Derived.Maps.Views
namespace Go.Proofs.Ytgclancneohpbaa
open Go.RowKit Go.Maps
def purseV (p : Nat × Nat) : Value := .agg #[.int .u64 p.1, .int .u64 p.2]
@[go_sem] theorem purseV_eq (p : Nat × Nat) : purseV p = .agg #[.int .u64 p.1, .int .u64 p.2] := rfl
def purseD (p : Nat × Nat) : DataW Unit := .agg [.lit (.int .u64 p.1), .lit (.int .u64 p.2)]
def purseR : Value → Option (DataW Unit × List MemPlace)
  | .agg cs => if cs.size = 2 then match cs[0]!, cs[1]! with
    | .int .u64 a, .int .u64 b => some (.agg [.lit (.int .u64 a), .lit (.int .u64 b)], [])
    | _, _ => none else none
  | _ => none
theorem purseR_mk (p : Nat × Nat) : purseR (purseV p) = some (purseD p, []) := rfl
theorem purseR_inv {v : Value} {p : Nat × Nat} {ps : List MemPlace} (h : purseR v = some (purseD p, ps)) : v = purseV p := by
  unfold purseR at h
  split at h
  · rename_i cs
    split at h
    · rename_i hs
      split at h
      · rename_i a b e0 e1
        simp [purseD] at h
        obtain ⟨⟨rfl, rfl⟩, _⟩ := h
        obtain ⟨l⟩ := cs
        match l, hs with
        | [x, y], _ =>
          simp at e0 e1
          subst e0 e1
          rfl
      · cases h
    · cases h
  · cases h
/-- the datum of a map says what f says -/
def mapIs (D : DataW Unit) (f : List UInt8 → Option (Nat × Nat)) : Prop := ∀ s, Maps.has D (.string s) = (f s).isSome ∧ ∀ p z, f s = some p → D.atKey (.string s) z = purseD p
theorem mapIs_nil : mapIs (.map []) fun _ => none := fun s => ⟨rfl, fun p z h => by cases h⟩
theorem mapIs_put {D : DataW Unit} {f : List UInt8 → Option (Nat × Nat)} (hD : IsMap D) (h : mapIs D f) (s : List UInt8) (p : Nat × Nat) : mapIs (D.put (.string s) (purseD p)) (fun s' => if s' = s then some p else f s') := by
  intro s'
  show Maps.has _ _ = (if s' = s then some p else f s').isSome ∧ ∀ p' z, (if s' = s then some p else f s') = some p' → _
  by_cases e : s' = s
  · subst e
    rw [if_pos rfl]
    exact ⟨has_put_same (k := .string s') hD trivial _, fun p' z hp => by obtain rfl := Option.some.inj hp; exact atKey_put_same (k := .string s') hD trivial _ _⟩
  · rw [if_neg e]
    have hne : (Lit.string s') ≠ .string s := fun h => e (by simpa using h)
    obtain ⟨h1, h2⟩ := h s'
    exact ⟨(has_put_other hne _).trans h1, fun p' z hp => (atKey_put_other hne _ _).trans (h2 p' z hp)⟩
theorem str_keyed : Keyed Try.prog 9 := string_keyed Try.underlying9
theorem zeroPurse (w : World) : (zeroValue 76).run Try.prog w = .ok (purseV (0, 0)) w := by kernel_rfl
section
variable (w : World) {ops : Array Oper} {rest : List Oper} {o : Oper} {a : Act} {Q : Exit → Act → World → Prop}
/-- 'v, ok := m[k]' -/
theorem wpList_purse (hg : o.guard = none) (m x : Operand) (hop : o.op = Op.lookup 72 m x true) (b n : Nat) (D : DataW Unit) (f : List UInt8 → Option (Nat × Nat))
    (hm : a.eval m = .map (some b)) (hown : w.ownsMap Try.prog 9 purseR b n D) (hD : mapIs D f) (s : ByteArray) (hx : a.eval x = .string s) (hs : s.size ≤ maxLen)
    (hK : wpList Try.prog ops Q rest (a.put o.dst (.tuple #[purseV ((f s.data.toList).getD (0, 0)), .bool (f s.data.toList).isSome])) w) :
    wpList Try.prog ops Q (o :: rest) a w :=
  wpList_lookup_own_ok w hg m x 72 hop 9 76 str_keyed Try.underlying72 purseR (zeroPurse w) (purseD (0, 0)) [] (purseR_mk _) b n D hm hown (.string s) (.string s.data.toList) hx (WideMaps.keyOf_string_mk Try.underlying9 hs) (fun v ps hv => by
    obtain ⟨h1, h2⟩ := hD s.data.toList
    rw [h1]
    cases hf : f s.data.toList with
    | none =>
      rw [hf] at h1 hK
      rw [Maps.atKey_of_not_has h1] at hv
      obtain rfl := purseR_inv hv
      exact hK
    | some p =>
      rw [hf] at hK
      rw [h2 p _ hf] at hv
      obtain rfl := purseR_inv hv
      exact hK)
/-- 'm[k] = v' -/
theorem wpList_purse_put (hg : o.guard = none) (m x v : Operand) (hop : o.op = Op.mapUpdate 72 m x v) (b n : Nat) (D : DataW Unit) (f : List UInt8 → Option (Nat × Nat))
    (hm : a.eval m = .map (some b)) (hown : w.ownsMap Try.prog 9 purseR b n D) (hD : mapIs D f) (hn : n < maxLen) (s : ByteArray) (hx : a.eval x = .string s) (hs : s.size ≤ maxLen) (p : Nat × Nat) (hv : a.eval v = purseV p)
    (hK : ∀ w', w'.ownsMap Try.prog 9 purseR b (n + 1) (D.put (.string s.data.toList) (purseD p)) → mapIs (D.put (.string s.data.toList) (purseD p)) (fun s' => if s' = s.data.toList then some p else f s') → w.grownBy w' (some b) → wpList Try.prog ops Q rest (a.put o.dst undef) w') :
    wpList Try.prog ops Q (o :: rest) a w :=
  wpList_mapUpdate_own w hg m x v 72 hop 9 76 str_keyed Try.underlying72 purseR b n D hm hown hn (.string s) (purseV p) (.string s.data.toList) hx hv (WideMaps.keyOf_string_mk Try.underlying9 hs) (purseD p) [] (purseR_mk p)
    (fun w' h1 h2 => hK w' h1 (mapIs_put hown.isMap hD _ _) h2)
end
/-- a quota lies at block g, its map at block b, of at most n entries -/
structure Qat (w : World) (g b n : Nat) (q : Qt) : Prop where
  blk : Blk w g 74 #[.int .u64 q.rate, .int .u64 q.most, .int .u64 q.now, .map (some b)]
  map : ∃ D, w.ownsMap Try.prog 9 purseR b n D ∧ mapIs D q.f
  ok : q.ok
theorem Qat.ne {w : World} {g b n : Nat} {q : Qt} (h : Qat w g b n q) : b ≠ g := by
  obtain ⟨D, ⟨es, clock, hb, _⟩, _⟩ := h.map
  rintro rfl
  have h1 := h.blk
  unfold Blk at h1
  rw [hb] at h1
  cases h1
theorem Qat.lt {w : World} {g b n : Nat} {q : Qt} (h : Qat w g b n q) : g < w.heap.size ∧ b < w.heap.size := ⟨h.blk.lt, by obtain ⟨D, h1, _⟩ := h.map; exact h1.lt⟩
theorem Qat.keeps {S : Nat → Prop} {w w' : World} {g b n : Nat} {q : Qt} (h : Qat w g b n q) (hk : Keeps S w w') (hg : ¬ S g) (hb : ¬ S b) : Qat w' g b n q := by
  obtain ⟨D, h1, h2⟩ := h.map
  exact ⟨h.blk.keeps hk hg, ⟨D, map_keeps h1 hk hb, h2⟩, h.ok⟩
/-- the blocks of a quota -/
def two (g b : Nat) : Nat → Prop := fun k => k = g ∨ k = b
end Go.Proofs.Ytgclancneohpbaa
