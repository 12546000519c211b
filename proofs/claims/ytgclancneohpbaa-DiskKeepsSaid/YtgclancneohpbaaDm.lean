/- A disk in memory: its struct, its two maps, its files, their rows. -/
import Derived.Test.YtgclancneohpbaaProg
import Derived.Test.YtgclancneohpbaaKeep
import Derived.Maps.OwnSet
import Derived.Maps.Views
namespace Go.Proofs.Ytgclancneohpbaa
open Go.RowKit Go.Maps
structure File where
  data : List UInt8
  safe : Nat
/-- what was done to the directory -/
structure DAct where
  (frm to : ByteArray)
  file : Option Nat
/-- a disk -/
structure Dk where
  cap : Nat
  down : Bool
  fuse : Int
  dir : List UInt8 → Option Nat
  safe : List UInt8 → Option Nat
  acts : List DAct
  used : Int
  file : Nat → Option File
  /-- how much was done to it, at most -/
  room : Nat
  /-- how many names the safe directory was given, at most -/
  slots : Nat
def ptrV : Option Nat → Value
  | none => .pointer none
  | some f => .pointer (some ⟨f, 0, none⟩)
def ptrD : Option Nat → DataW Unit
  | none => .nil
  | some f => .lit (.int .u64 f)
def ptrR : Value → Option (DataW Unit × List MemPlace)
  | .pointer none => some (.nil, [])
  | .pointer (some a) => if a = ⟨a.block, 0, none⟩ then some (.lit (.int .u64 a.block), []) else none
  | _ => none
theorem ptrR_mk : ∀ p : Option Nat, ptrR (ptrV p) = some (ptrD p, [])
  | none => rfl
  | some f => by simp [ptrR, ptrV, ptrD]
theorem ptrR_inv {v : Value} {p : Option Nat} {ps : List MemPlace} (h : ptrR v = some (ptrD p, ps)) : v = ptrV p := by
  unfold ptrR at h
  split at h
  · cases p with
    | none => rfl
    | some f => simp [ptrD] at h
  · rename_i a
    split at h
    · rename_i ha
      cases p with
      | none => simp [ptrD] at h
      | some f =>
        simp [ptrD] at h
        have e : a.block = f := Int.ofNat_inj.1 h.1
        rw [ha, e]
        rfl
    · cases h
  · cases h
/-- the datum of a map says what f says -/
def dirIs (D : DataW Unit) (f : List UInt8 → Option Nat) : Prop := ∀ s, Maps.has D (.string s) = (f s).isSome ∧ ∀ p z, f s = some p → D.atKey (.string s) z = ptrD (some p)
theorem dirIs_nil : dirIs (.map []) fun _ => none := fun s => ⟨rfl, fun p z h => by cases h⟩
theorem dirIs_put {D : DataW Unit} {f : List UInt8 → Option Nat} (hD : IsMap D) (h : dirIs D f) (s : List UInt8) (p : Nat) : dirIs (D.put (.string s) (ptrD (some p))) (fun s' => if s' = s then some p else f s') := by
  intro s'
  show Maps.has _ _ = (if s' = s then some p else f s').isSome ∧ ∀ p' z, (if s' = s then some p else f s') = some p' → _
  by_cases e : s' = s
  · subst e
    rw [if_pos rfl]
    exact ⟨has_put_same (k := .string s') hD trivial _, fun p' z hp => by obtain rfl := Option.some.inj hp; exact atKey_put_same (k := .string s') hD trivial _ _⟩
  · rw [if_neg e]
    have hne : (Lit.string s') ≠ .string s := fun h => e (by simpa using h)
    obtain ⟨h1, h2⟩ := h s'
    exact ⟨(has_put_other hne _).trans h1, fun p' z hp => (atKey_put_other hne _ _).trans (h2 p' z hp)⟩
theorem dirIs_del {D : DataW Unit} {f : List UInt8 → Option Nat} (h : dirIs D f) (s : List UInt8) : dirIs (D.del (.string s)) (fun s' => if s' = s then none else f s') := by
  intro s'
  show Maps.has _ _ = (if s' = s then none else f s').isSome ∧ ∀ p' z, (if s' = s then none else f s') = some p' → _
  by_cases e : s' = s
  · subst e
    rw [if_pos rfl]
    exact ⟨has_del_same (k := .string s'), fun p' z hp => by cases hp⟩
  · rw [if_neg e]
    have hne : (Lit.string s') ≠ .string s := fun h => e (by simpa using h)
    obtain ⟨h1, h2⟩ := h s'
    exact ⟨(has_del_other hne).trans h1, fun p' z hp => (atKey_del_other hne _).trans (h2 p' z hp)⟩
theorem dstr_keyed : Keyed Try.prog 9 := string_keyed Try.underlying9
theorem zeroPtr (w : World) : (zeroValue 89).run Try.prog w = .ok (ptrV none) w := by kernel_rfl
/-- a look-up, as an equation -/
theorem dir_run {w : World} {b n : Nat} {D : DataW Unit} {f : List UInt8 → Option Nat} (h1 : w.ownsMap Try.prog 9 ptrR b n D) (h2 : dirIs D f) {s : ByteArray} (hs : s.size ≤ maxLen) :
    (Instr.lookup 85 (.map (some b)) (.string s) false).run Try.prog w = .ok (ptrV (f s.data.toList)) w := by
  obtain ⟨v, ps, hr, hv⟩ := h1.lookup dstr_keyed Try.underlying85 (zeroPtr w) (ptrR_mk none) (WideMaps.keyOf_string_mk Try.underlying9 hs)
  obtain ⟨e1, e2⟩ := h2 s.data.toList
  cases hf : f s.data.toList with
  | none =>
    rw [hf] at e1
    rw [Maps.atKey_of_not_has e1] at hv
    obtain rfl := ptrR_inv hv
    exact hr
  | some p =>
    rw [e2 p _ hf] at hv
    obtain rfl := ptrR_inv hv
    exact hr
/-- a store, as an equation -/
theorem dir_put {w : World} {b n : Nat} {D : DataW Unit} {f : List UInt8 → Option Nat} (h1 : w.ownsMap Try.prog 9 ptrR b n D) (h2 : dirIs D f) (hn : n < maxLen) {s : ByteArray} (hs : s.size ≤ maxLen) (p : Nat) :
    ∃ w', (Instr.mapUpdate 85 (.map (some b)) (.string s) (.pointer (some ⟨p, 0, none⟩))).run Try.prog w = .ok () w' ∧ (∃ D', w'.ownsMap Try.prog 9 ptrR b (n + 1) D' ∧ dirIs D' (fun s' => if s' = s.data.toList then some p else f s')) ∧ Keeps (fun k => k = b) w w' := by
  obtain ⟨w', hr, ho, hg⟩ := h1.update dstr_keyed Try.underlying85 hn (WideMaps.keyOf_string_mk Try.underlying9 hs) (ptrR_mk (some p))
  exact ⟨w', hr, ⟨_, ho, dirIs_put h1.isMap h2 _ _⟩, (Keeps.refl _ _).grown hg (fun k e => .inl (by simpa using e.symm))⟩
/-- a deletion, as an equation -/
theorem dir_del {w : World} {b n : Nat} {D : DataW Unit} {f : List UInt8 → Option Nat} (h1 : w.ownsMap Try.prog 9 ptrR b n D) (h2 : dirIs D f) {s : ByteArray} (hs : s.size ≤ maxLen) (ty : TypeId) :
    ∃ w', (Builtin.delete_ #[85, 9] ty #[.map (some b), .string s]).run Try.prog w = .ok (.tuple #[]) w' ∧ (∃ D', w'.ownsMap Try.prog 9 ptrR b n D' ∧ dirIs D' (fun s' => if s' = s.data.toList then none else f s')) ∧ Keeps (fun k => k = b) w w' := by
  obtain ⟨w', hr, ho, ht⟩ := h1.drop dstr_keyed Try.underlying85 (WideMaps.keyOf_string_mk Try.underlying9 hs) ty
  exact ⟨w', hr, ⟨_, ho, dirIs_del h2 _⟩, (Keeps.refl _ _).grown ht.grown (fun k e => .inl (by simpa using e.symm))⟩
def acells (l : List DAct) : List Value := l.flatMap fun a => [.string a.frm, .string a.to, ptrV a.file]
def bcells (l : List UInt8) : List Value := l.map fun b => .int .u8 b.toNat
/-- a disk lies at block D: its blocks are those of O, all from B on -/
structure Dat (w : World) (B D bd bs n : Nat) (va : Value) (rows : Nat → Value) (k : Dk) : Prop where
  blk : Blk w D 88 #[.int .i64 k.cap, .bool k.down, .int .i64 k.fuse, .map (some bd), .map (some bs), va, .int .i64 k.used]
  dir : ∃ X, w.ownsMap Try.prog 9 ptrR bd n X ∧ dirIs X k.dir
  safe : ∃ X, w.ownsMap Try.prog 9 ptrR bs k.slots X ∧ dirIs X k.safe
  two : bd ≠ bs
  acts : w.ownsRow B 96 3 va k.acts.length (acells k.acts)
  file : ∀ f x, k.file f = some x → B ≤ f ∧ Blk w f 94 #[rows f, .int .i64 x.safe] ∧ w.ownsRow B 5 1 (rows f) x.data.length (bcells x.data) ∧ x.safe ≤ x.data.length
  apart : ∀ f f' x x' b, k.file f = some x → k.file f' = some x' → (rows f).ownBlock = some b → (rows f').ownBlock = some b → f = f'
  base : B ≤ D ∧ B ≤ bd ∧ B ≤ bs
/-- its blocks -/
def dset (D bd bs : Nat) (va : Value) (rows : Nat → Value) (k : Dk) : Nat → Prop := fun j => j = D ∨ j = bd ∨ j = bs ∨ va.ownBlock = some j ∨ ∃ f x, k.file f = some x ∧ (j = f ∨ (rows f).ownBlock = some j)
theorem Dat.keeps {S : Nat → Prop} {w w' : World} {B D bd bs n : Nat} {va : Value} {rows : Nat → Value} {k : Dk} (h : Dat w B D bd bs n va rows k) (hk : Keeps S w w') (hs : ∀ j, dset D bd bs va rows k j → ¬ S j) : Dat w' B D bd bs n va rows k := by
  obtain ⟨X, h1, h2⟩ := h.dir
  obtain ⟨Y, h3, h4⟩ := h.safe
  exact ⟨h.blk.keeps hk (hs _ (.inl rfl)), ⟨X, map_keeps h1 hk (hs _ (.inr (.inl rfl))), h2⟩, ⟨Y, map_keeps h3 hk (hs _ (.inr (.inr (.inl rfl)))), h4⟩, h.two, own_keeps h.acts hk (fun g hg => hs _ (.inr (.inr (.inr (.inl hg))))),
    fun f x hf => ⟨(h.file f x hf).1, (h.file f x hf).2.1.keeps hk (hs _ (.inr (.inr (.inr (.inr ⟨f, x, hf, .inl rfl⟩))))), own_keeps (h.file f x hf).2.2.1 hk (fun g hg => hs _ (.inr (.inr (.inr (.inr ⟨f, x, hf, .inr hg⟩))))), (h.file f x hf).2.2.2⟩, h.apart, h.base⟩
theorem Dat.from_ {w : World} {B D bd bs n : Nat} {va : Value} {rows : Nat → Value} {k : Dk} (h : Dat w B D bd bs n va rows k) : ∀ j, dset D bd bs va rows k j → B ≤ j ∧ j < w.heap.size := by
  obtain ⟨X, h1, _⟩ := h.dir
  obtain ⟨Y, h3, _⟩ := h.safe
  obtain ⟨b1, b2, b3⟩ := h.base
  rintro j (rfl | rfl | rfl | e | ⟨f, x, hf, rfl | e⟩)
  · exact ⟨b1, h.blk.lt⟩
  · exact ⟨b2, h1.lt⟩
  · exact ⟨b3, h3.lt⟩
  · exact h.acts.lt j e
  · exact ⟨(h.file _ x hf).1, (h.file _ x hf).2.1.lt⟩
  · exact (h.file f x hf).2.2.1.lt j e
/-- a disk, whatever its blocks: those of O -/
def Disk (w : World) (B D : Nat) (O : Nat → Prop) (k : Dk) : Prop := ∃ bd bs n va rows, Dat w B D bd bs n va rows k ∧ (n ≤ k.room ∧ k.slots + k.acts.length ≤ k.room) ∧ O = dset D bd bs va rows k
/-- what a call leaves of a disk -/
structure DPost (w : World) (B D : Nat) (O : Nat → Prop) (k' : Dk) (w' : World) : Prop where
  disk : ∃ O', Disk w' B D O' k' ∧ ∀ j, O' j → O j ∨ w.heap.size ≤ j
  keeps : Keeps O w w'
end Go.Proofs.Ytgclancneohpbaa
