/- Plain words on texts (lists of bytes), on names and on tuples. No program in sight. Worlds of which all blocks stand but some. Maps of a call's own, told by a function of their keys' values. No program in sight. Conditions as trees; the tokens of a text; what tokens say: a condition, or where it is wrong. No program in sight. How a condition is written: pieces, tokens and blanks between. No program in sight. A condition's tokens, as it is written, say that condition. No program in sight. A condition's tokens, as it is written, say that condition: each form. No program in sight. What is written is read as it is: by the size of a condition. No program in sight. What is written is read as it is: products, sums, comparisons, lists, rows. No program in sight. What is written is read as it is: the whole of a condition. No program in sight. What is written is read as it is: the induction. No program in sight. Numerals, and the tokens of pieces: what is written is split as it was meant. No program in sight. What is written stands well: its tokens are split as they were meant, with more blanks, too. No program in sight. -/
import Derived.WalkKit
import Derived.Below
import Derived.Laws.OwnMore
import Derived.Deep.Draws
import Derived.Laws.Rows
import Derived.WalkSpells
import Derived.Lib.Strings
import Derived.Lib.Hide
import Derived.Maps.OwnSet
import Derived.Maps.Views
import Derived.WideKeyEntry
import Derived.Maps.Range
import Derived.Lib.ItoaNum
namespace Go.Proofs.YtdfgbkilaepolaaGreatDoor
open Go.RowKit

/-- a byte of a name -/
def nameByte (c : UInt8) : Bool := (97 ≤ c && c ≤ 122) || (48 ≤ c && c ≤ 57) || c == 95 || c == 45
/-- a name -/
def isName (l : List UInt8) : Bool := l.all nameByte && decide (1 ≤ l.length) && decide (l.length ≤ 32)

theorem nameByte_int (c : UInt8) : nameByte c = (decide (97 ≤ (c.toNat : Int)) && decide ((c.toNat : Int) ≤ 122) || decide (48 ≤ (c.toNat : Int)) && decide ((c.toNat : Int) ≤ 57) || decide ((c.toNat : Int) = 95) || decide ((c.toNat : Int) = 45)) := by
  unfold nameByte
  have e1 : (c == 95) = decide ((c.toNat : Int) = 95) := by
    rw [Bool.eq_iff_iff]; simp [← UInt8.toNat_inj]; omega
  have e2 : (c == 45) = decide ((c.toNat : Int) = 45) := by
    rw [Bool.eq_iff_iff]; simp [← UInt8.toNat_inj]; omega
  rw [e1, e2]
  simp only [UInt8.le_iff_toNat_le]
  rw [Bool.eq_iff_iff]
  simp
  omega

theorem take_snoc (s : ByteArray) (k : Nat) (h : k < s.size) : s.data.toList.take (k + 1) = s.data.toList.take k ++ [s[k]] := by
  rw [List.take_succ_eq_append_getElem (by simpa using h)]; rfl

theorem all_snoc (s : ByteArray) (k : Nat) (h : k < s.size) : (s.data.toList.take (k + 1)).all nameByte = ((s.data.toList.take k).all nameByte && nameByte s[k]) := by
  rw [take_snoc s k h]; simp

theorem not_all (s : ByteArray) (k : Nat) (h : k < s.size) (hn : nameByte s[k] = false) : isName s.data.toList = false := by
  unfold isName
  have : s.data.toList.all nameByte = false := by
    rw [List.all_eq_false]
    exact ⟨s[k], by simp [ByteArray.getElem_eq_getElem_data], by simp [hn]⟩
  simp [this]

theorem nbT1 (c : UInt8) (h : 97 ≤ (c.toNat : Int)) (h2 : (c.toNat : Int) ≤ 122) : nameByte c = true := by
  rw [nameByte_int]; simp; omega
theorem nbT2 (c : UInt8) (h : 48 ≤ (c.toNat : Int)) (h2 : (c.toNat : Int) ≤ 57) : nameByte c = true := by
  rw [nameByte_int]; simp; omega
theorem nbT3 (c : UInt8) (h : ((c.toNat : Int) == 95) = true) : nameByte c = true := by
  rw [nameByte_int]; simp at h; simp; omega
theorem nbT4 (c : UInt8) (h : ((c.toNat : Int) == 45) = true) : nameByte c = true := by
  rw [nameByte_int]; simp at h; simp; omega
theorem nbF (c : UInt8) (h1 : ¬ (97 ≤ (c.toNat : Int) ∧ (c.toNat : Int) ≤ 122)) (h2 : ¬ (48 ≤ (c.toNat : Int) ∧ (c.toNat : Int) ≤ 57)) (h3 : ((c.toNat : Int) == 95) = false) (h4 : ((c.toNat : Int) == 45) = false) : nameByte c = false := by
  rw [nameByte_int]; simp at h3 h4; simp; omega
theorem all_step (s : ByteArray) (k : Nat) (h : k < s.size) (h0 : (s.data.toList.take k).all nameByte = true) (h1 : nameByte s[k] = true) : (s.data.toList.take (k + 1)).all nameByte = true := by
  rw [all_snoc s k h, h0, h1]; rfl
theorem isName_all (s : ByteArray) (h : s.data.toList.all nameByte = true) : isName s.data.toList = (!s.toList.isEmpty && decide ((s.size : Int) ≤ 32)) := by
  unfold isName
  rw [h, Lib.toList_data, Lib.size_eq]
  cases hl : s.data.toList <;> simp
  omega
theorem ret_bool {a b : Bool} (h : a = b) : Ending.returned (.bool a) = .returned (.bool b) := by rw [h]
theorem ret_int {k : IntKind} {a b : Int} (h : a = b) : Ending.returned (.int k a) = .returned (.int k b) := by rw [h]
def Blk (w : World) (g : Nat) (t : TypeId) (cs : Array Value) : Prop := w.heap[g]? = some (.cells cs t (0, 0))

section
variable {w w' : World} {g : Nat} {t : TypeId} {cs : Array Value}
theorem Blk.lt (h : Blk w g t cs) : g < w.heap.size := by
  rcases Nat.lt_or_ge g w.heap.size with hlt | hge
  · exact hlt
  · unfold Blk at h; rw [Array.getElem?_eq_none hge] at h; cases h
theorem Blk.cell (h : Blk w g t cs) (i : Nat) : w.cell? ⟨g, i, none⟩ = cs[i]? := cell_of_row w g i cs t (0, 0) h
theorem Blk.frozen (h : Blk w g t cs) (i : Nat) : w.frozen? ⟨g, i, none⟩ = false := by
  unfold Blk at h
  simp [World.frozen?, h]
theorem Blk.new (w : World) (t : TypeId) (cs : Array Value) : Blk (w.alloc (.cells cs t)) w.heap.size t cs := heap_alloc_new w _
theorem Blk.drew (h : Blk w g t cs) : Blk w.drew g t cs := h
theorem Blk.drewN (h : Blk w g t cs) (n : Nat) : Blk (w.drewN n) g t cs := h
theorem Blk.alloc (h : Blk w g t cs) (o : Obj) : Blk (w.alloc o) g t cs := (Below.heap_alloc w o g h.lt).trans h
theorem Blk.set_ (h : Blk w g t cs) (i : Nat) (u : Value) : Blk (w.setCell ⟨g, i, none⟩ u) g t (cs.setIfInBounds i u) := by
  unfold Blk at h ⊢
  simp [World.setCell, Array.getElem?_modify, h]
theorem Blk.far (h : Blk w g t cs) {p : Addr} (hp : g ≠ p.block) (u : Value) : Blk (w.setCell p u) g t cs := (Below.heap_setCell w p u g hp).trans h
theorem Blk.below {B : Nat} (h : Blk w g t cs) (hb : Below B w w') (hg : g < B) : Blk w' g t cs := (hb.block g hg).trans h
theorem Blk.grown {row : Option Nat} (h : Blk w g t cs) (hb : w.grownBy w' row) (hg : some g ≠ row) : Blk w' g t cs := (hb.block g h.lt hg).trans h
theorem Blk.ne_ {g' : Nat} {t' : TypeId} {cs' : Array Value} (h : Blk w g t cs) (h' : Blk w g' t' cs') (hne : t ≠ t') : g ≠ g' := by
  rintro rfl
  unfold Blk at h h'
  rw [h] at h'
  injection h' with h'
  injection h' with _ ht
  exact hne ht
end

theorem bdrewN {B : Nat} {a w : World} (h : Below B a w) (n : Nat) : Below B a (w.drewN n) := ⟨h.os, h.tape, h.output, h.size, h.block⟩
end Go.Proofs.YtdfgbkilaepolaaGreatDoor
namespace Go.Proofs.YtdfgbkilaepolaaGreatDoor
open Go.RowKit
/-- each block that lay in w stands in w', but those of S -/
structure Keeps (S : Nat → Prop) (w w' : World) : Prop where
  os : w'.os = w.os
  tape : w'.tape = w.tape
  output : w'.output = w.output
  size : w.heap.size ≤ w'.heap.size
  block : ∀ k, k < w.heap.size → ¬ S k → w'.heap[k]? = w.heap[k]?
variable {S T : Nat → Prop} {w w' w'' : World}
theorem Keeps.refl (S : Nat → Prop) (w : World) : Keeps S w w := ⟨rfl, rfl, rfl, Nat.le_refl _, fun _ _ _ => rfl⟩
theorem Keeps.trans (h : Keeps S w w') (h' : Keeps S w' w'') : Keeps S w w'' :=
  ⟨h'.os.trans h.os, h'.tape.trans h.tape, h'.output.trans h.output, Nat.le_trans h.size h'.size, fun k hk hs => (h'.block k (Nat.lt_of_lt_of_le hk h.size) hs).trans (h.block k hk hs)⟩
theorem Keeps.mono (h : Keeps S w w') (hs : ∀ k, k < w.heap.size → S k → T k) : Keeps T w w' := ⟨h.os, h.tape, h.output, h.size, fun k hk ht => h.block k hk fun e => ht (hs k hk e)⟩
theorem Keeps.below {B : Nat} (h : Keeps S w w') (hs : ∀ k, k < w.heap.size → S k → B ≤ k) (hB : B ≤ w.heap.size) : Below B w w' := ⟨h.os, h.tape, h.output, h.size, fun k hk => h.block k (by omega) fun e => by have := hs k (by omega) e; omega⟩
theorem Keeps.of_below (h : Below w.heap.size w w') : Keeps S w w' := ⟨h.os, h.tape, h.output, h.size, fun k hk _ => h.block k hk⟩
theorem Keeps.of_below' {B : Nat} (h : Below B w w') (hs : ∀ k, B ≤ k → k < w.heap.size → S k) : Keeps S w w' := ⟨h.os, h.tape, h.output, h.size, fun k hk hn => h.block k (Nat.lt_of_not_le fun e => hn (hs k e hk))⟩
theorem Keeps.alloc (h : Keeps S w w') (o : Obj) : Keeps S w (w'.alloc o) := h.trans (.of_below ((Below.refl _ _).alloc (Nat.le_refl _) o))
theorem Keeps.drew (h : Keeps S w w') : Keeps S w w'.drew := h.trans (.of_below (Below.refl _ _).drew)
theorem Keeps.drewN (h : Keeps S w w') (n : Nat) : Keeps S w (w'.drewN n) := h.trans (.of_below (bdrewN (Below.refl _ _) n))
theorem Keeps.setCell (h : Keeps S w w') {p : Addr} (hp : S p.block ∨ w.heap.size ≤ p.block) (u : Value) : Keeps S w (w'.setCell p u) := by
  have h' : Below p.block w' (w'.setCell p u) := (Below.refl _ _).setCell (Nat.le_refl _) u
  refine ⟨h'.os.trans h.os, h'.tape.trans h.tape, h'.output.trans h.output, Nat.le_trans h.size h'.size, fun k hk hs => ?_⟩
  have hne : k ≠ p.block := by
    rintro rfl
    rcases hp with hp | hp
    · exact hs hp
    · omega
  exact (Below.heap_setCell w' p u k hne).trans (h.block k hk hs)
theorem Keeps.grown {row : Option Nat} (h : Keeps S w w') (hg : w'.grownBy w'' row) (hr : ∀ k, row = some k → S k ∨ w.heap.size ≤ k) : Keeps S w w'' := by
  refine ⟨hg.os.trans h.os, hg.tape.trans h.tape, hg.output.trans h.output, Nat.le_trans h.size hg.size, fun k hk hs => ?_⟩
  refine (hg.block k (Nat.lt_of_lt_of_le hk h.size) ?_).trans (h.block k hk hs)
  intro e
  rcases hr k e.symm with h1 | h1
  · exact hs h1
  · omega
theorem Keeps.step (h : Keeps S w w') (h' : Keeps T w' w'') (hs : ∀ k, T k → S k ∨ w.heap.size ≤ k) : Keeps S w w'' := by
  refine ⟨h'.os.trans h.os, h'.tape.trans h.tape, h'.output.trans h.output, Nat.le_trans h.size h'.size, fun k hk hn => ?_⟩
  refine (h'.block k (Nat.lt_of_lt_of_le hk h.size) ?_).trans (h.block k hk hn)
  intro e
  rcases hs k e with h1 | h1
  · exact hn h1
  · omega
theorem Keeps.below_step {B : Nat} (h : Below B w w') (hB : B ≤ w'.heap.size) (h' : Keeps T w' w'') (hs : ∀ k, T k → B ≤ k) : Below B w w'' :=
  h.trans (h'.below (fun k _ e => hs k e) hB)
theorem Blk.keeps {g : Nat} {t : TypeId} {cs : Array Value} (h : Blk w g t cs) (hb : Keeps S w w') (hg : ¬ S g) : Blk w' g t cs := (hb.block g h.lt hg).trans h
theorem own_keeps {B : Nat} {e : TypeId} {k : Nat} {v : Value} {n : Nat} {xs : List Value} (h : w.ownsRow B e k v n xs) (hb : Keeps S w w') (hv : ∀ g, v.ownBlock = some g → ¬ S g) : w'.ownsRow B e k v n xs := by
  obtain ⟨h1, h2⟩ := h
  refine ⟨h1, ?_⟩
  rcases h2 with h2 | ⟨g, cap, cur, rfl, hg, hh, hr⟩
  · exact .inl h2
  · exact .inr ⟨g, cap, cur, rfl, hg, (hb.block g (by rcases Nat.lt_or_ge g w.heap.size with h4 | h4; exact h4; rw [Array.getElem?_eq_none h4] at hh; cases hh) (hv g rfl)).trans hh, hr⟩
theorem map_keeps {H : Type} {P : Program} {k : TypeId} {R : Value → Option (DataW H × List MemPlace)} {b n : Nat} {D : DataW H} (h : w.ownsMap P k R b n D) (hb : Keeps S w w') (hs : ¬ S b) : w'.ownsMap P k R b n D := by
  have hlt := h.lt
  obtain ⟨es, clock, h1, h2⟩ := h
  exact ⟨es, clock, (hb.block b hlt hs).trans h1, h2⟩
end Go.Proofs.YtdfgbkilaepolaaGreatDoor
namespace Go.Proofs.YtdfgbkilaepolaaGreatDoor
open Go.RowKit Go.Maps
/-- an element reads as itself -/
def rawR (v : Value) : Option (DataW Value × List MemPlace) := some (.held v, [])
/-- block b is a map of n entries; f tells what stands at each key -/
def MapAt (P : Program) (k : TypeId) (w : World) (b n : Nat) (f : Value → Option Value) : Prop :=
  ∃ D, w.ownsMap P k rawR b n D ∧ Maps.size D = n ∧ (∀ kv kl, keyOf P k kv = some kl → Maps.has D kl = (f kv).isSome ∧ ∀ v z, f kv = some v → D.atKey kl z = .held v) ∧ ∀ kv, keyOf P k kv = none → f kv = none
/-- a function of values, with one key's value laid anew -/
noncomputable def putV (f : Value → Option Value) (kv v : Value) : Value → Option Value := fun x => open Classical in if x = kv then some v else f x
noncomputable def delV (f : Value → Option Value) (kv : Value) : Value → Option Value := fun x => open Classical in if x = kv then none else f x
theorem putV_same (f : Value → Option Value) (kv v : Value) : putV f kv v kv = some v := by unfold putV; exact if_pos rfl
theorem putV_other {f : Value → Option Value} {kv v x : Value} (h : x ≠ kv) : putV f kv v x = f x := by unfold putV; exact if_neg h
section
variable {P : Program} {k : TypeId} {w w' : World} {b n : Nat} {f : Value → Option Value} {S : Nat → Prop}
theorem ownsMap_tight {H : Type} {R : Value → Option (DataW H × List MemPlace)} {D : DataW H} (h : w.ownsMap P k R b n D) : w.ownsMap P k R b (Maps.size D) D := by
  obtain ⟨es, clock, hb, F, hs, rfl⟩ := h
  refine ⟨es, clock, hb, F, ?_, rfl⟩
  show es.size ≤ ((es.toList.map (WideElems.rg P k R)).foldr DataW.insert []).length
  rw [length_read]
  exact Nat.le_refl _
theorem MapAt.made (P : Program) (k : TypeId) (w : World) : MapAt P k (w.alloc (.map #[] 0)) w.heap.size 0 (fun _ => none) :=
  ⟨.map [], World.ownsMap_made _ _ _ _, rfl, fun _ _ _ => ⟨rfl, fun _ _ h => by cases h⟩, fun _ _ => rfl⟩
theorem MapAt.lt (h : MapAt P k w b n f) : b < w.heap.size := by obtain ⟨D, h1, _⟩ := h; exact h1.lt
theorem MapAt.keeps (h : MapAt P k w b n f) (hk : Keeps S w w') (hs : ¬ S b) : MapAt P k w' b n f := by
  obtain ⟨D, h1, h2⟩ := h
  exact ⟨D, map_keeps h1 hk hs, h2⟩
theorem MapAt.below {B : Nat} (h : MapAt P k w b n f) (hk : Below B w w') (hb : b < B) : MapAt P k w' b n f :=
  h.keeps (S := fun j => B ≤ j) (.of_below' hk fun _ hj _ => hj) (by omega)
theorem MapAt.later (h : MapAt P k w b n f) (hk : Below w.heap.size w w') : MapAt P k w' b n f := h.below hk h.lt
theorem MapAt.frozen (h : MapAt P k w b n f) : ∃ es clock, w.heap[b]? = some (.map es clock) := by
  obtain ⟨D, ⟨es, clock, hb, _⟩, _⟩ := h
  exact ⟨es, clock, hb⟩
/-- 'm[k]' -/
theorem MapAt.look {t e : TypeId} (h : MapAt P k w b n f) (K : Keyed P k) (ht : P.underlying t = some (.map k e)) {z : Value} (hz : (zeroValue e).run P w = .ok z w) {kv : Value} {kl : Lit} (hkey : keyOf P k kv = some kl) :
    (Instr.lookup t (.map (some b)) kv false).run P w = .ok ((f kv).getD z) w := by
  obtain ⟨D, h1, _, h2, _⟩ := h
  obtain ⟨v, ps, hr, hv⟩ := h1.lookup K ht hz (zd := .held z) (zp := []) rfl hkey
  obtain ⟨e1, e2⟩ := h2 kv kl hkey
  cases hf : f kv with
  | none =>
    rw [hf] at e1
    rw [Maps.atKey_of_not_has e1] at hv
    unfold rawR at hv
    injection hv with hv
    injection hv with hv _
    injection hv with hv
    rw [hv] at hr
    exact hr
  | some u =>
    rw [e2 u _ hf] at hv
    unfold rawR at hv
    injection hv with hv
    injection hv with hv _
    injection hv with hv
    rw [hv] at hr
    exact hr
/-- 'v, ok := m[k]' -/
theorem MapAt.look_ok {t e : TypeId} (h : MapAt P k w b n f) (K : Keyed P k) (ht : P.underlying t = some (.map k e)) {z : Value} (hz : (zeroValue e).run P w = .ok z w) {kv : Value} {kl : Lit} (hkey : keyOf P k kv = some kl) :
    (Instr.lookup t (.map (some b)) kv true).run P w = .ok (.tuple #[(f kv).getD z, .bool (f kv).isSome]) w := by
  obtain ⟨D, h1, _, h2, _⟩ := h
  obtain ⟨v, ps, hr, hv⟩ := h1.look_ok K ht hz (zd := .held z) (zp := []) rfl hkey
  obtain ⟨e1, e2⟩ := h2 kv kl hkey
  rw [e1] at hr
  cases hf : f kv with
  | none =>
    rw [hf] at e1 hr
    rw [Maps.atKey_of_not_has e1] at hv
    unfold rawR at hv
    injection hv with hv
    injection hv with hv _
    injection hv with hv
    rw [hv] at hr
    exact hr
  | some u =>
    rw [hf] at hr
    rw [e2 u _ hf] at hv
    unfold rawR at hv
    injection hv with hv
    injection hv with hv _
    injection hv with hv
    rw [hv] at hr
    exact hr
/-- 'm[k] = v' -/
theorem MapAt.put {t e : TypeId} (h : MapAt P k w b n f) (K : Keyed P k) (ht : P.underlying t = some (.map k e)) (hn : n < maxLen) {kv : Value} {kl : Lit} (hkey : keyOf P k kv = some kl) (v : Value) :
    ∃ w', (Instr.mapUpdate t (.map (some b)) kv v).run P w = .ok () w' ∧ MapAt P k w' b (if (f kv).isSome then n else n + 1) (putV f kv v) ∧ Keeps (fun j => j = b) w w' := by
  obtain ⟨D, h1, h0, h2, h3⟩ := h
  obtain ⟨w', hr, ho, hg⟩ := h1.update K ht hn hkey (val := v) (d := .held v) (ps := []) rfl
  have hT := h1.tidy K
  have hsz : Maps.size (D.put kl (.held v)) = if (f kv).isSome then n else n + 1 := by rw [Maps.size_put hT, (h2 kv kl hkey).1, h0]
  refine ⟨w', hr, ⟨D.put kl (.held v), by rw [← hsz]; exact ownsMap_tight ho, hsz, fun x xl hx => ?_, fun x hx => ?_⟩, (Keeps.refl _ _).grown hg (fun j e => .inl (by simpa using e.symm))⟩
  · by_cases e : x = kv
    · subst e
      obtain rfl : xl = kl := by rw [hx] at hkey; exact Option.some.inj hkey
      rw [putV_same]
      refine ⟨Maps.has_put_same h1.isMap (K.key hx) _, fun u z hu => ?_⟩
      obtain rfl := Option.some.inj hu
      exact Maps.atKey_put_same h1.isMap (K.key hx) _ _
    · have hne : xl ≠ kl := fun e2 => e (K.inj hx (by rw [e2]; exact hkey))
      rw [putV_other e]
      obtain ⟨i1, i2⟩ := h2 x xl hx
      exact ⟨(Maps.has_put_other hne _).trans i1, fun u z hu => (Maps.atKey_put_other hne _ _).trans (i2 u z hu)⟩
  · rw [putV_other (fun e => by rw [e, hkey] at hx; cases hx)]
    exact h3 x hx
/-- 'len(m)' -/
theorem MapAt.len {t e : TypeId} (h : MapAt P k w b n f) (ht : P.underlying t = some (.map k e)) (ty : TypeId) : (Builtin.len_ #[t] ty #[.map (some b)]).run P w = .ok (.int .i64 n) w := by
  obtain ⟨D, h1, h0, _⟩ := h
  rw [h1.len ht ty, h0]
end
end Go.Proofs.YtdfgbkilaepolaaGreatDoor
namespace Go.Proofs.YtdfgbkilaepolaaGreatDoor
inductive CT where
  | node (kind n : Int) (s : List UInt8) (parts : List CT)
def CT.kind : CT → Int | .node k _ _ _ => k
def CT.num : CT → Int | .node _ n _ _ => n
def CT.str : CT → List UInt8 | .node _ _ s _ => s
def CT.parts : CT → List CT | .node _ _ _ p => p
/-- a token: its sort, its text, where it begins; is it a minus that a digit stands right behind? -/
structure Tok where
  sort : Nat
  text : List UInt8
  pos : Nat
  dig : Bool
abbrev Toks := List Tok
def isDig (c : UInt8) : Bool := 48 ≤ c && c ≤ 57
def isLet (c : UInt8) : Bool := c == 95 || (97 ≤ c && c ≤ 122)
def isWrd (c : UInt8) : Bool := isDig c || isLet c
def isQuo (c : UInt8) : Bool := 32 ≤ c && c ≤ 126 && !(c == 39)
def spanN (p : UInt8 → Bool) (l : List UInt8) : Nat := (l.takeWhile p).length
def marks1 : List UInt8 := [61, 60, 62, 43, 45, 42, 40, 41, 91, 93, 44]
def two (t : List UInt8) : Bool := t.take 2 == [60, 61] || t.take 2 == [62, 61] || t.take 2 == [33, 61]
/-- the token at the head of a text that begins with no blank: its sort, its text, how many bytes it takes -/
def tokH (t : List UInt8) : Nat × List UInt8 × Nat := match t with
  | [] => (1, [], 0)
  | c :: r =>
    if isDig c then (4, t.take (spanN isDig t), spanN isDig t)
    else if isLet c then (3, t.take (spanN isWrd t), spanN isWrd t)
    else if c == 39 then
      if r[spanN isQuo r]? = some 39 then (5, r.take (spanN isQuo r), spanN isQuo r + 2) else (0, [], 1)
    else if two t then (2, t.take 2, 2)
    else if marks1.contains c then (2, [c], 1)
    else (0, [], 1)
def blankN (t : List UInt8) : Nat := spanN (fun c => c == 32) t
def minusL : List UInt8 := [45]
def digAt (t : List UInt8) : Bool := match t with | c :: _ => isDig c | [] => false
/-- the token that comes at a place -/
def tokAt (p : Nat) (t : List UInt8) : Tok :=
  ⟨(tokH (t.drop (blankN t))).1, (tokH (t.drop (blankN t))).2.1, p + blankN t, (tokH (t.drop (blankN t))).1 == 2 && (tokH (t.drop (blankN t))).2.1 == minusL && digAt ((t.drop (blankN t)).drop (tokH (t.drop (blankN t))).2.2)⟩
/-- how many bytes it takes, the blanks ahead of it, too -/
def tokN (t : List UInt8) : Nat := blankN t + (tokH (t.drop (blankN t))).2.2
/-- the tokens from a place on, up to the end or a sign that is none -/
def lexF : Nat → Nat → List UInt8 → Toks
  | 0, _, _ => []
  | f + 1, p, t => tokAt p t :: if (tokAt p t).sort ≤ 1 then [] else lexF f (p + tokN t) (t.drop (tokN t))
def lex (p : Nat) (t : List UInt8) : Toks := lexF (t.length + 1) p t
/-- the words that are no names -/
def wordsL : List (List UInt8) := [[97, 110, 100], [111, 114], [110, 111, 116], [105, 110], [116, 114, 117, 101], [102, 97, 108, 115, 101]]
def isNameC (t : List UInt8) : Bool := isName t && !digAt t && !t.contains 45 && !wordsL.contains t
def decVal (t : List UInt8) : Nat := t.foldl (fun a c => a * 10 + (c.toNat - 48)) 0
def mostN : Nat := 1000000000000000
def numG (t : List UInt8) (least : Nat) : Option Nat := if least ≤ decVal t ∧ decVal t ≤ mostN ∧ (t.length = 1 ∨ t.head? ≠ some 48) then some (decVal t) else none
/-- what tokens say: a condition and the tokens behind it; or the place at which they are wrong -/
abbrev Res := Except Nat (CT × Toks)
def posT (l : Toks) : Nat := match l with | t :: _ => t.pos | [] => 0
/-- does a sign or a word come? -/
def isT (l : Toks) (s : List UInt8) : Bool := match l with | t :: _ => (t.sort == 2 || t.sort == 3) && t.text == s | [] => false
def isW (l : Toks) (s : List UInt8) : Bool := match l with | t :: _ => t.sort == 3 && t.text == s | [] => false
def leaf (k n : Int) (s : List UInt8) : CT := .node k n s []
def pairC (k : Int) (a b : CT) : CT := .node k 0 [] [a, b]
def notC (a : CT) : CT := .node 6 0 [] [a]
def openL : List UInt8 := [40]
def closeL : List UInt8 := [41]
def trueL : List UInt8 := [116, 114, 117, 101]
def falseL : List UInt8 := [102, 97, 108, 115, 101]
def notL : List UInt8 := [110, 111, 116]
def inL : List UInt8 := [105, 110]
def andL : List UInt8 := [97, 110, 100]
def orL : List UInt8 := [111, 114]
/-- a unit; sub: what stands in brackets, if there may be any -/
def gUnit (sub : Option (Toks → Res)) (l : Toks) : Res := match l with
  | [] => .error 0
  | t :: r =>
    if t.sort = 4 then match numG t.text 0 with | some n => .ok (leaf 3 n [], r) | none => .error t.pos
    else if t.sort = 5 then .ok (leaf 4 0 t.text, r)
    else if t.sort = 2 ∧ t.text = minusL ∧ t.dig = true then match numG (r.headD ⟨0, [], 0, false⟩).text 1 with | some n => .ok (leaf 3 (-n) [], r.tail) | none => .error (posT r)
    else if isT l trueL then .ok (leaf 1 0 [], r)
    else if isT l falseL then .ok (leaf 2 0 [], r)
    else if t.sort = 3 ∧ isNameC t.text = true then .ok (leaf 5 0 t.text, r)
    else match sub with
      | none => .error t.pos
      | some G => if isT l openL then match G r with
          | .error e => .error e
          | .ok (c, m) => if isT m closeL then .ok (c, m.tail) else .error (posT m)
        else .error t.pos
def timesL (unit : Toks → Res) : Nat → CT → Toks → Res
  | 0, a, l => .ok (a, l)
  | f + 1, a, l => if isT l [42] then match unit l.tail with
      | .error e => .error e
      | .ok (b, m) => timesL unit f (pairC 14 a b) m
    else .ok (a, l)
def gTimes (unit : Toks → Res) (l : Toks) : Res := match unit l with
  | .error e => .error e
  | .ok (a, m) => timesL unit (m.length + 1) a m
def sumL (times : Toks → Res) : Nat → CT → Toks → Res
  | 0, a, l => .ok (a, l)
  | f + 1, a, l => if isT l [43] then match times l.tail with
      | .error e => .error e
      | .ok (b, m) => sumL times f (pairC 12 a b) m
    else if isT l [45] then match times l.tail with
      | .error e => .error e
      | .ok (b, m) => sumL times f (pairC 13 a b) m
    else .ok (a, l)
def gSum (times : Toks → Res) (l : Toks) : Res := match times l with
  | .error e => .error e
  | .ok (a, m) => sumL times (m.length + 1) a m
/-- the parts of a list, in square brackets -/
def inLp (sum : Toks → Res) : Nat → List CT → Toks → Except Nat (List CT × Toks)
  | 0, acc, l => .ok (acc, l)
  | f + 1, acc, l => match sum l with
    | .error e => .error e
    | .ok (b, m) => if isT m [44] then inLp sum f (acc ++ [b]) m.tail else .ok (acc ++ [b], m)
def heldB (sum : Toks → Res) (l : Toks) (mk : CT → CT) : Res := match sum l with
  | .error e => .error e
  | .ok (b, m) => .ok (mk b, m)
def gHeld (sum : Toks → Res) (l : Toks) : Res := match sum l with
  | .error e => .error e
  | .ok (a, m) =>
    if isT m [61] then heldB sum m.tail fun b => pairC 9 a b
    else if isT m [33, 61] then heldB sum m.tail fun b => notC (pairC 9 a b)
    else if isT m [60] then heldB sum m.tail fun b => pairC 10 a b
    else if isT m [60, 61] then heldB sum m.tail fun b => pairC 11 a b
    else if isT m [62] then heldB sum m.tail fun b => pairC 10 b a
    else if isT m [62, 61] then heldB sum m.tail fun b => pairC 11 b a
    else if isT m inL then
      if isT m.tail [91] then match inLp sum (m.length + 1) [a] m.tail.tail with
        | .error e => .error e
        | .ok (ps, q) => if isT q [93] then .ok (.node 15 0 [] ps, q.tail) else .error (posT q)
      else .error (posT m.tail)
    else .ok (a, m)
def gNo (held : Toks → Res) : Nat → Toks → Res
  | 0, l => held l
  | f + 1, l => if isT l notL then match gNo held f l.tail with
      | .error e => .error e
      | .ok (c, m) => .ok (notC c, m)
    else held l
def flatC (k : Int) (c : CT) : List CT := if c.kind = k then c.parts else [c]
def rowL (one : Toks → Res) (w : List UInt8) (k : Int) : Nat → List CT → Toks → Res
  | 0, acc, l => .ok (.node k 0 [] acc, l)
  | f + 1, acc, l => if isT l w then match one l.tail with
      | .error e => .error e
      | .ok (c, m) => rowL one w k f (acc ++ flatC k c) m
    else .ok (.node k 0 [] acc, l)
def gRow (one : Toks → Res) (w : List UInt8) (k : Int) (l : Toks) : Res := match one l with
  | .error e => .error e
  | .ok (c, m) => if isW m w then rowL one w k (m.length + 1) (flatC k c) m else .ok (c, m)
def gCondOf (unit : Toks → Res) : Toks → Res :=
  gRow (gRow (fun l => gNo (gHeld (gSum (gTimes unit))) l.length l) andL 7) orL 8
/-- d brackets may stand within one another -/
def gUnitD : Nat → Toks → Res
  | 0 => gUnit none
  | d + 1 => gUnit (some (gCondOf (gUnitD d)))
def gCond (d : Nat) : Toks → Res := gCondOf (gUnitD d)
mutual
def CT.size : CT → Nat
  | .node _ _ _ ps => 1 + sizeLc ps
def sizeLc : List CT → Nat
  | [] => 0
  | c :: l => c.size + sizeLc l
end
/-- a text's condition: (condition, place, error) -/
def parseC (s : List UInt8) : CT × Nat × Int :=
  if 4096 < s.length then (leaf 0 0 [], 0, 10)
  else match gCond 8 (lex 0 s) with
    | .error e => (leaf 0 0 [], e, 9)
    | .ok (c, l) => match l with
      | t :: _ => if t.sort = 1 then (if 256 < c.size then (leaf 0 0 [], 0, 10) else (c, 0, 0)) else (leaf 0 0 [], t.pos, 9)
      | [] => (leaf 0 0 [], 0, 9)
end Go.Proofs.YtdfgbkilaepolaaGreatDoor
namespace Go.Proofs.YtdfgbkilaepolaaGreatDoor
/-- what a token is, wherever it stands -/
abbrev Key := Nat × List UInt8 × Bool
def Tok.key (t : Tok) : Key := (t.sort, t.text, t.dig)
/-- a piece of a text: a token, or a blank -/
abbrev Piece := Option Key
def pieceT : Piece → List UInt8
  | none => [32]
  | some (k, x, _) => if k = 5 then 39 :: x ++ [39] else x
def textP (l : List Piece) : List UInt8 := l.flatMap pieceT
def keysP (l : List Piece) : List Key := l.filterMap id
def mk (s : List UInt8) : Piece := some (2, s, false)
def wd (s : List UInt8) : Piece := some (3, s, false)
def rankC (c : CT) : Nat :=
  if c.kind = 8 then 1 else if c.kind = 7 then 2
  else if c.kind = 6 then (match c.parts with | [p] => if p.kind = 9 then 4 else 3 | _ => 3)
  else if c.kind = 9 ∨ c.kind = 10 ∨ c.kind = 11 ∨ c.kind = 15 then 4
  else if c.kind = 12 ∨ c.kind = 13 then 5 else if c.kind = 14 then 6 else 7
def plainC (c : CT) : Bool := c.num == 0 && c.str.isEmpty
def rightC (c : CT) : Bool :=
  if c.kind = 1 ∨ c.kind = 2 then c.parts.isEmpty && plainC c
  else if c.kind = 3 then c.parts.isEmpty && c.str.isEmpty && decide (-1000000000000000 ≤ c.num) && decide (c.num ≤ 1000000000000000)
  else if c.kind = 4 then c.parts.isEmpty && c.num == 0 && c.str.all isQuo
  else if c.kind = 5 then c.parts.isEmpty && c.num == 0 && isNameC c.str
  else if c.kind = 6 then decide (c.parts.length = 1) && plainC c
  else if c.kind = 7 ∨ c.kind = 8 then decide (2 ≤ c.parts.length) && plainC c && !c.parts.any fun p => p.kind == c.kind
  else if c.kind = 15 then decide (2 ≤ c.parts.length) && plainC c
  else if 9 ≤ c.kind ∧ c.kind ≤ 14 then decide (c.parts.length = 2) && plainC c
  else false
def unlikeC (c : CT) : Bool := c.kind == 6 && match c.parts with | [p] => p.kind == 9 && decide (p.parts.length = 2) && plainC p | _ => false
abbrev Wr := Nat → CT → Option (List Piece)
/-- a part, in brackets if it holds together more loosely than it has to; d brackets may still be opened -/
def partW (cond : Wr) (d least : Nat) (c : CT) : Option (List Piece) :=
  if least ≤ rankC c then cond d c else match d with
    | 0 => none
    | d + 1 => (cond d c).map fun x => mk openL :: x ++ [mk closeL]
/-- parts with something between -/
def partsW (cond : Wr) (d least : Nat) (sep : List Piece) : List CT → Option (List Piece)
  | [] => some []
  | [c] => partW cond d least c
  | c :: l => match partW cond d least c with
    | none => none
    | some x => (partsW cond d least sep l).map fun y => x ++ sep ++ y
def twoW (cond : Wr) (d l1 l2 : Nat) (sep : List Piece) (ps : List CT) : Option (List Piece) := match ps with
  | [a, b] => match partW cond d l1 a with
    | none => none
    | some x => (partW cond d l2 b).map fun y => x ++ sep ++ y
  | _ => none
def spc (s : Piece) : List Piece := [none, s, none]
def decL (n : Nat) : List UInt8 := Lib.decDigits n
def numP (n : Int) : List Piece := if n < 0 then [some (2, minusL, true), some (4, decL n.natAbs, false)] else [some (4, decL n.natAbs, false)]
def stepW (cond : Wr) (d : Nat) (c : CT) : Option (List Piece) :=
  if rightC c = false then none
  else if unlikeC c = true then partsW cond d 5 (spc (mk [33, 61])) (c.parts.headD (leaf 0 0 [])).parts
  else if c.kind = 1 then some [wd trueL]
  else if c.kind = 2 then some [wd falseL]
  else if c.kind = 3 then some (numP c.num)
  else if c.kind = 4 then some [some (5, c.str, false)]
  else if c.kind = 5 then some [wd c.str]
  else if c.kind = 6 then (partW cond d 3 (c.parts.headD (leaf 0 0 []))).map fun x => wd notL :: none :: x
  else if c.kind = 8 then partsW cond d 2 (spc (wd orL)) c.parts
  else if c.kind = 7 then partsW cond d 3 (spc (wd andL)) c.parts
  else if c.kind = 15 then match partW cond d 5 (c.parts.headD (leaf 0 0 [])) with
    | none => none
    | some x => (partsW cond d 5 [mk [44], none] c.parts.tail).map fun y => x ++ [none, wd inL, none, mk [91]] ++ y ++ [mk [93]]
  else if c.kind = 9 then partsW cond d 5 (spc (mk [61])) c.parts
  else if c.kind = 10 then partsW cond d 5 (spc (mk [60])) c.parts
  else if c.kind = 11 then partsW cond d 5 (spc (mk [60, 61])) c.parts
  else if c.kind = 13 then twoW cond d 5 6 (spc (mk minusL)) c.parts
  else if c.kind = 14 then twoW cond d 6 7 (spc (mk [42])) c.parts
  else twoW cond d 5 6 (spc (mk [43])) c.parts
/-- a condition's pieces -/
def condW : Nat → Wr
  | 0 => fun _ _ => none
  | f + 1 => stepW (condW f)
def printP (c : CT) : Option (List Piece) := partW (condW c.size) 8 0 c
/-- a condition's text: (text, error) -/
def printC (c : CT) : List UInt8 × Int :=
  if 256 < c.size then ([], 9) else match printP c with
    | none => ([], 9)
    | some ps => if 4096 < (textP ps).length then ([], 9) else (textP ps, 0)
end Go.Proofs.YtdfgbkilaepolaaGreatDoor
namespace Go.Proofs.YtdfgbkilaepolaaGreatDoor
/-- the levels of the parser -/
def gL (d : Nat) : Nat → Toks → Res
  | 7 => gUnitD d
  | 6 => gTimes (gUnitD d)
  | 5 => gSum (gTimes (gUnitD d))
  | 4 => gHeld (gSum (gTimes (gUnitD d)))
  | 3 => fun l => gNo (gHeld (gSum (gTimes (gUnitD d)))) l.length l
  | 2 => gRow (fun l => gNo (gHeld (gSum (gTimes (gUnitD d)))) l.length l) andL 7
  | _ => gCond d
/-- how closely the sign at the head holds together, if it is one that stands between -/
def opLv (m : Toks) : Nat :=
  if isT m [42] then 6 else if isT m [43] || isT m [45] then 5
  else if isT m [61] || isT m [33, 61] || isT m [60] || isT m [60, 61] || isT m [62] || isT m [62, 61] || isT m inL then 4
  else if isT m andL then 2 else if isT m orL then 1 else 0
theorem isT_text {m : Toks} {s : List UInt8} (h : isT m s = true) : ∃ t r, m = t :: r ∧ (t.sort = 2 ∨ t.sort = 3) ∧ t.text = s := by
  cases m with
  | nil => cases h
  | cons t r =>
    simp only [isT, Bool.and_eq_true, Bool.or_eq_true, beq_iff_eq] at h
    exact ⟨t, r, rfl, h.1, h.2⟩
theorem isW_T {m : Toks} {s : List UInt8} (h : isW m s = true) : isT m s = true := by
  cases m with
  | nil => cases h
  | cons t r =>
    simp only [isW, Bool.and_eq_true, beq_iff_eq] at h
    simp [isT, h.1, h.2]
end Go.Proofs.YtdfgbkilaepolaaGreatDoor
namespace Go.Proofs.YtdfgbkilaepolaaGreatDoor
/-- each part that a writer writes with f is read as it is -/
def PC (f : Nat) : Prop := ∀ (d least : Nat) (c : CT) (x : List Piece), partW (condW f) d least c = some x → 1 ≤ least → least ≤ 7 → ∀ (lx m : Toks), lx.map Tok.key = keysP x → opLv m < least → gL d least (lx ++ m) = .ok (c, m)
/-- a product's first part, whatever follows -/
def C6 (f : Nat) : Prop := ∀ (d : Nat) (c : CT) (x : List Piece), partW (condW f) d 6 c = some x → ∀ (lx m : Toks), lx.map Tok.key = keysP x → ∃ n, m.length + 1 ≤ n ∧ gL d 6 (lx ++ m) = timesL (gUnitD d) n c m
def C5 (f : Nat) : Prop := ∀ (d : Nat) (c : CT) (x : List Piece), partW (condW f) d 5 c = some x → ∀ (lx m : Toks), lx.map Tok.key = keysP x → opLv m ≤ 5 → ∃ n, m.length + 1 ≤ n ∧ gL d 5 (lx ++ m) = sumL (gTimes (gUnitD d)) n c m
end Go.Proofs.YtdfgbkilaepolaaGreatDoor
namespace Go.Proofs.YtdfgbkilaepolaaGreatDoor
theorem right_none (k n : Int) (s : List UInt8) (ps : List CT) (h : ¬ (1 ≤ k ∧ k ≤ 15)) : ¬ rightC (.node k n s ps) = true := by
  have h1 : ¬ (k = 1 ∨ k = 2) := by omega
  have h2 : ¬ k = 3 := by omega
  have h3 : ¬ k = 4 := by omega
  have h4 : ¬ k = 5 := by omega
  have h5 : ¬ k = 6 := by omega
  have h6 : ¬ (k = 7 ∨ k = 8) := by omega
  have h7 : ¬ k = 15 := by omega
  have h8 : ¬ (9 ≤ k ∧ k ≤ 14) := by omega
  unfold rightC
  show ¬ (if k = 1 ∨ k = 2 then _ else if k = 3 then _ else if k = 4 then _ else if k = 5 then _ else if k = 6 then _ else if k = 7 ∨ k = 8 then _ else if k = 15 then _ else if 9 ≤ k ∧ k ≤ 14 then _ else false) = true
  rw [if_neg h1, if_neg h2, if_neg h3, if_neg h4, if_neg h5, if_neg h6, if_neg h7, if_neg h8]
  decide
section
variable {f d : Nat} {c : CT}
end
end Go.Proofs.YtdfgbkilaepolaaGreatDoor
namespace Go.Proofs.YtdfgbkilaepolaaGreatDoor
theorem two_inv {cond : Wr} {d l1 l2 : Nat} {s : Piece} {ps : List CT} {x : List Piece} (h : twoW cond d l1 l2 (spc s) ps = some x) : ∃ a b xa xb, ps = [a, b] ∧ partW cond d l1 a = some xa ∧ partW cond d l2 b = some xb ∧ x = xa ++ spc s ++ xb := by
  match ps, h with
  | [a, b], h =>
    change (match partW cond d l1 a with | none => none | some x => (partW cond d l2 b).map fun y => x ++ spc s ++ y) = some x at h
    cases ha : partW cond d l1 a with
    | none => rw [ha] at h; cases h
    | some xa =>
      rw [ha] at h
      obtain ⟨xb, hb, rfl⟩ := Option.map_eq_some_iff.1 h
      exact ⟨a, b, xa, xb, rfl, ha, hb, rfl⟩
theorem parts_cons {cond : Wr} {d l1 : Nat} {sep : List Piece} {c c2 : CT} {ps : List CT} {x : List Piece} (h : partsW cond d l1 sep (c :: c2 :: ps) = some x) : ∃ xc y, partW cond d l1 c = some xc ∧ partsW cond d l1 sep (c2 :: ps) = some y ∧ x = xc ++ sep ++ y := by
  change (match partW cond d l1 c with | none => none | some x => (partsW cond d l1 sep (c2 :: ps)).map fun y => x ++ sep ++ y) = some x at h
  cases hc : partW cond d l1 c with
  | none => rw [hc] at h; cases h
  | some xc =>
    rw [hc] at h
    obtain ⟨y, hy, rfl⟩ := Option.map_eq_some_iff.1 h
    exact ⟨xc, y, rfl, hy, rfl⟩
theorem parts2_inv {cond : Wr} {d l1 : Nat} {sep : List Piece} {ps : List CT} {x : List Piece} (hl : ps.length = 2) (h : partsW cond d l1 sep ps = some x) : ∃ a b xa xb, ps = [a, b] ∧ partW cond d l1 a = some xa ∧ partW cond d l1 b = some xb ∧ x = xa ++ sep ++ xb := by
  match ps, hl, h with
  | [a, b], _, h =>
    obtain ⟨xa, xb, ha, hb, rfl⟩ := parts_cons h
    exact ⟨a, b, xa, xb, rfl, ha, hb, rfl⟩
section
variable {f d : Nat} {a b : CT} {xa xb : List Piece} {la lb m : Toks} {t : Tok}
end
end Go.Proofs.YtdfgbkilaepolaaGreatDoor
namespace Go.Proofs.YtdfgbkilaepolaaGreatDoor
theorem right_of {cond : Wr} {d : Nat} {c : CT} {x : List Piece} (h : stepW cond d c = some x) : rightC c = true := by
  cases hr : rightC c
  · unfold stepW at h; rw [if_pos hr] at h; cases h
  · rfl
theorem right_two {k n : Int} {s : List UInt8} {ps : List CT} (hr : rightC (.node k n s ps) = true) (hk : 9 ≤ k ∧ k ≤ 14) : n = 0 ∧ s = [] ∧ ps.length = 2 := by
  have : k = 9 ∨ k = 10 ∨ k = 11 ∨ k = 12 ∨ k = 13 ∨ k = 14 := by omega
  rcases this with rfl | rfl | rfl | rfl | rfl | rfl <;>
  · have this : (decide (ps.length = 2) && (n == 0 && s.isEmpty)) = true := hr
    simp only [Bool.and_eq_true, decide_eq_true_eq, beq_iff_eq, List.isEmpty_iff] at this
    exact ⟨this.2.1, this.2.2, this.1⟩
theorem right_list {n : Int} {s : List UInt8} {ps : List CT} (hr : rightC (.node 15 n s ps) = true) : n = 0 ∧ s = [] ∧ 2 ≤ ps.length := by
  have this : (decide (2 ≤ ps.length) && (n == 0 && s.isEmpty)) = true := hr
  simp only [Bool.and_eq_true, decide_eq_true_eq, beq_iff_eq, List.isEmpty_iff] at this
  exact ⟨this.2.1, this.2.2, this.1⟩
theorem right_leaf {k n : Int} {s : List UInt8} {ps : List CT} (hr : rightC (.node k n s ps) = true) (hk : ¬ (6 ≤ k ∧ k ≤ 15)) : ps = [] := by
  by_cases h : k = 1 ∨ k = 2 ∨ k = 3 ∨ k = 4 ∨ k = 5
  · rcases h with rfl | rfl | rfl | rfl | rfl <;> simp [rightC, CT.kind, CT.parts] at hr
    · exact hr.1
    · exact hr.1
    · exact hr.1.1.1
    · exact hr.1.1
    · exact hr.1.1
  · exfalso
    exact right_none k n s ps (by omega) hr
def U (f : Nat) : Prop := ∀ d c x, condW f d c = some x → ∀ lx m : Toks, lx.map Tok.key = keysP x → opLv m < rankC c → gL d (rankC c) (lx ++ m) = .ok (c, m)
def S6 (f : Nat) : Prop := ∀ d c x, condW f d c = some x → rankC c = 6 → ∀ lx m : Toks, lx.map Tok.key = keysP x → ∃ n, m.length + 1 ≤ n ∧ gL d 6 (lx ++ m) = timesL (gUnitD d) n c m
def S5 (f : Nat) : Prop := ∀ d c x, condW f d c = some x → rankC c = 5 → ∀ lx m : Toks, lx.map Tok.key = keysP x → opLv m ≤ 5 → ∃ n, m.length + 1 ≤ n ∧ gL d 5 (lx ++ m) = sumL (gTimes (gUnitD d)) n c m
end Go.Proofs.YtdfgbkilaepolaaGreatDoor
namespace Go.Proofs.YtdfgbkilaepolaaGreatDoor
section
variable {f d : Nat} {x : List Piece} {lx m : Toks}
end
def NumOk : Prop := ∀ n : Nat, n ≤ mostN → numG (decL n) 0 = some n ∧ (1 ≤ n → numG (decL n) 1 = some n)
end Go.Proofs.YtdfgbkilaepolaaGreatDoor
namespace Go.Proofs.YtdfgbkilaepolaaGreatDoor
theorem dd_small {n : Nat} (h : n < 10) : Lib.decDigits n = [UInt8.ofNat (48 + n)] := by rw [Lib.decDigits, dif_pos h]
theorem dd_big {n : Nat} (h : ¬ n < 10) : Lib.decDigits n = Lib.decDigits (n / 10) ++ [UInt8.ofNat (48 + n % 10)] := by
  conv => lhs; rw [Lib.decDigits, dif_neg h]
theorem isDig_nat (c : UInt8) : isDig c = true ↔ 48 ≤ c.toNat ∧ c.toNat ≤ 57 := by
  simp [isDig, UInt8.le_iff_toNat_le]
theorem dd_len : ∀ (k n : Nat), n < 10 ^ (k + 1) → (Lib.decDigits n).length ≤ k + 1
  | 0, n, h => by rw [dd_small (by simpa using h)]; simp
  | k + 1, n, h => by
    by_cases h10 : n < 10
    · rw [dd_small h10]; simp
    · rw [dd_big h10, List.length_append]
      have := dd_len k (n / 10) (by rw [Nat.pow_succ] at h; omega)
      simp; omega
/-- what may stand behind a token -/
def twosL : List (List UInt8) := [[60, 61], [62, 61], [33, 61]]
def nextD (nx : Option UInt8) : Bool := match nx with | some c => isDig c | none => false
def tokOk (k : Nat) (x : List UInt8) (b : Bool) (nx : Option UInt8) : Prop :=
  (k = 4 ∧ x ≠ [] ∧ x.all isDig = true ∧ b = false ∧ ∀ c, nx = some c → isDig c = false) ∨
  (k = 3 ∧ (∃ c y, x = c :: y ∧ isLet c = true ∧ y.all isWrd = true) ∧ b = false ∧ ∀ c, nx = some c → isWrd c = false) ∨
  (k = 5 ∧ x.all isQuo = true ∧ b = false) ∨
  (k = 2 ∧ x ∈ twosL ∧ b = false) ∨
  (k = 2 ∧ (∃ c ∈ marks1, x = [c]) ∧ nx ≠ some 61 ∧ b = (x == minusL && nextD nx))
def goodP : List Piece → Prop
  | [] => True
  | none :: r => goodP r
  | some (k, x, b) :: r => tokOk k x b (textP r).head? ∧ goodP r
theorem span_all {p : UInt8 → Bool} : ∀ (x t : List UInt8), x.all p = true → (∀ c, t.head? = some c → p c = false) → spanN p (x ++ t) = x.length
  | [], t, _, h => by
    cases t with
    | nil => rfl
    | cons c t => unfold spanN; rw [List.nil_append, List.takeWhile_cons, h c rfl]; rfl
  | c :: x, t, hx, h => by
    simp only [List.all_cons, Bool.and_eq_true] at hx
    have := span_all x t hx.2 h
    unfold spanN at this ⊢
    rw [List.cons_append, List.takeWhile_cons, hx.1]
    simpa using this
end Go.Proofs.YtdfgbkilaepolaaGreatDoor
namespace Go.Proofs.YtdfgbkilaepolaaGreatDoor
def safeB (o : Option UInt8) : Prop := o = none ∨ o = some 32 ∨ o = some 41 ∨ o = some 44 ∨ o = some 93
def Good (x : List Piece) : Prop := (∀ q, safeB (textP q).head? → goodP q → goodP (x ++ q)) ∧ ∃ a r, textP x = a :: r ∧ a ≠ 61
theorem textP_app (a b : List Piece) : textP (a ++ b) = textP a ++ textP b := by unfold textP; rw [List.flatMap_append]
/-- what may stand between parts -/
def Sep (sep : List Piece) : Prop := ∀ q, (textP q).head? ≠ some 61 → goodP q → goodP (sep ++ q) ∧ safeB (textP (sep ++ q)).head?
theorem in_inv {cond : Wr} {d : Nat} {n : Int} {s : List UInt8} {a b : CT} {ps : List CT} {x : List Piece} (h : stepW cond d (.node 15 n s (a :: b :: ps)) = some x) (hr : rightC (.node 15 n s (a :: b :: ps)) = true) : ∃ xa y, partW cond d 5 a = some xa ∧ partsW cond d 5 [mk [44], none] (b :: ps) = some y ∧ x = xa ++ [none, wd inL, none, mk [91]] ++ y ++ [mk [93]] := by
  have h2 : (match partW cond d 5 a with | none => none | some x => (partsW cond d 5 [mk [44], none] (b :: ps)).map fun y => x ++ [none, wd inL, none, mk [91]] ++ y ++ [mk [93]]) = some x := by
    rw [← h]; unfold stepW; simp [hr, unlikeC, CT.kind, CT.parts]
    all_goals (cases partW cond d 5 a <;> rfl)
  cases ha : partW cond d 5 a with
  | none => rw [ha] at h2; cases h2
  | some xa =>
    rw [ha] at h2
    obtain ⟨y, hy, rfl⟩ := Option.map_eq_some_iff.1 h2
    exact ⟨xa, y, rfl, hy, rfl⟩
section
variable {cond : Wr} (hC : ∀ d c x, cond d c = some x → Good x)
include hC
end
/-- more blanks -/
def wide (n : Nat) : List Piece → List Piece
  | [] => []
  | none :: r => none :: (List.replicate n none ++ wide n r)
  | some a :: r => some a :: wide n r
end Go.Proofs.YtdfgbkilaepolaaGreatDoor
