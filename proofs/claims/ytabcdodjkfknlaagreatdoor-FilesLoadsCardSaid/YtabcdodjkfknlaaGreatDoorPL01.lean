/- Plain words on texts (lists of bytes), on names and on tuples. No program in sight. Worlds of which all blocks stand but some. A row that lies somewhere, and stays. Walks: the program's disk: isName. A disk in memory: its struct, its two maps, its files, their rows. Walks: the program's disk: New, Fuse, Used, burn. Contracts of the Go library, laid at this translation by a program of the kit: slices.ContainsFunc, slices.Clone, maps.Clone; each under the premises that it states. Walks: the program's disk: may. Walks: the program's disk: find. Walk: the program's disk: what an act does to a directory. -/
import Derived.WalkKit
import Derived.Below
import Derived.Laws.OwnMore
import Derived.Deep.Draws
import Derived.Laws.Rows
import Derived.WalkSpells
import Derived.Lib.Strings
import Derived.Lib.Hide
import Derived.Maps.OwnSet
import Derived.Maps.AppendAt
import Derived.Test.YtabcdodjkfknlaaGreatDoorProg
import Derived.WalkLawsBesides
import Derived.Outline
import Derived.Maps.Views
import Derived.Carry
import Derived.Shelf.SlicesE.IndexFunc
import Derived.Shelf.SlicesE.Clone
import Derived.Shelf.SlMaps.Clone
namespace Go.Proofs.YtabcdodjkfknlaaGreatDoor
open Go.RowKit

/-- a byte of a name -/
def nameByte (c : UInt8) : Bool := (97 ≤ c && c ≤ 122) || (48 ≤ c && c ≤ 57) || c == 95 || c == 45
/-- a name -/
def isName (l : List UInt8) : Bool := l.all nameByte && decide (1 ≤ l.length) && decide (l.length ≤ 32)

theorem take_snoc (s : ByteArray) (k : Nat) (h : k < s.size) : s.data.toList.take (k + 1) = s.data.toList.take k ++ [s[k]] := by
  rw [List.take_succ_eq_append_getElem (by simpa using h)]; rfl

theorem ret_bool {a b : Bool} (h : a = b) : Ending.returned (.bool a) = .returned (.bool b) := by rw [h]
theorem ret_int {k : IntKind} {a b : Int} (h : a = b) : Ending.returned (.int k a) = .returned (.int k b) := by rw [h]
def Blk (w : World) (g : Nat) (t : TypeId) (cs : Array Value) : Prop := w.heap[g]? = some (.cells cs t (0, 0))

section
variable {w w' : World} {g : Nat} {t : TypeId} {cs : Array Value}
theorem Blk.lt (h : Blk w g t cs) : g < w.heap.size := by
  rcases Nat.lt_or_ge g w.heap.size with hlt | hge
  · exact hlt
  · unfold Blk at h; rw [Array.getElem?_eq_none hge] at h; cases h
theorem Blk.cell (h : Blk w g t cs) (i : Nat) : w.cell? ⟨g, i, none⟩ = cs[i]? := cell_of_row w g i cs t (0, 0) h
theorem Blk.frozen (h : Blk w g t cs) (i : Nat) : w.frozen? ⟨g, i, none⟩ = false := by
  unfold Blk at h
  simp [World.frozen?, h]
theorem Blk.new (w : World) (t : TypeId) (cs : Array Value) : Blk (w.alloc (.cells cs t)) w.heap.size t cs := heap_alloc_new w _
theorem Blk.drew (h : Blk w g t cs) : Blk w.drew g t cs := h
theorem Blk.drewN (h : Blk w g t cs) (n : Nat) : Blk (w.drewN n) g t cs := h
theorem Blk.alloc (h : Blk w g t cs) (o : Obj) : Blk (w.alloc o) g t cs := (Below.heap_alloc w o g h.lt).trans h
theorem Blk.set_ (h : Blk w g t cs) (i : Nat) (u : Value) : Blk (w.setCell ⟨g, i, none⟩ u) g t (cs.setIfInBounds i u) := by
  unfold Blk at h ⊢
  simp [World.setCell, Array.getElem?_modify, h]
theorem Blk.far (h : Blk w g t cs) {p : Addr} (hp : g ≠ p.block) (u : Value) : Blk (w.setCell p u) g t cs := (Below.heap_setCell w p u g hp).trans h
theorem Blk.below {B : Nat} (h : Blk w g t cs) (hb : Below B w w') (hg : g < B) : Blk w' g t cs := (hb.block g hg).trans h
theorem Blk.grown {row : Option Nat} (h : Blk w g t cs) (hb : w.grownBy w' row) (hg : some g ≠ row) : Blk w' g t cs := (hb.block g h.lt hg).trans h
theorem Blk.ne_ {g' : Nat} {t' : TypeId} {cs' : Array Value} (h : Blk w g t cs) (h' : Blk w g' t' cs') (hne : t ≠ t') : g ≠ g' := by
  rintro rfl
  unfold Blk at h h'
  rw [h] at h'
  injection h' with h'
  injection h' with _ ht
  exact hne ht
theorem own_blk_ne {base : Nat} {e : TypeId} {size n : Nat} {v : Value} {xs : List Value} (h : w.ownsRow base e size v n xs) (hg : Blk w g t cs) (hne : e ≠ t) : v.ownBlock ≠ some g := by
  rcases h.2 with ⟨rfl, _⟩ | ⟨g', cap, cur, rfl, _, hh, _⟩
  · simp [Value.ownBlock]
  · intro he
    have : g' = g := by simpa [Value.ownBlock] using he
    subst this
    exact Blk.ne_ (t := e) hh hg hne rfl
end

theorem bdrewN {B : Nat} {a w : World} (h : Below B a w) (n : Nat) : Below B a (w.drewN n) := ⟨h.os, h.tape, h.output, h.size, h.block⟩
end Go.Proofs.YtabcdodjkfknlaaGreatDoor
namespace Go.Proofs.YtabcdodjkfknlaaGreatDoor
open Go.RowKit
/-- each block that lay in w stands in w', but those of S -/
structure Keeps (S : Nat → Prop) (w w' : World) : Prop where
  os : w'.os = w.os
  tape : w'.tape = w.tape
  output : w'.output = w.output
  size : w.heap.size ≤ w'.heap.size
  block : ∀ k, k < w.heap.size → ¬ S k → w'.heap[k]? = w.heap[k]?
variable {S T : Nat → Prop} {w w' w'' : World}
theorem Keeps.refl (S : Nat → Prop) (w : World) : Keeps S w w := ⟨rfl, rfl, rfl, Nat.le_refl _, fun _ _ _ => rfl⟩
theorem Keeps.trans (h : Keeps S w w') (h' : Keeps S w' w'') : Keeps S w w'' :=
  ⟨h'.os.trans h.os, h'.tape.trans h.tape, h'.output.trans h.output, Nat.le_trans h.size h'.size, fun k hk hs => (h'.block k (Nat.lt_of_lt_of_le hk h.size) hs).trans (h.block k hk hs)⟩
theorem Keeps.mono (h : Keeps S w w') (hs : ∀ k, k < w.heap.size → S k → T k) : Keeps T w w' := ⟨h.os, h.tape, h.output, h.size, fun k hk ht => h.block k hk fun e => ht (hs k hk e)⟩
theorem Keeps.below {B : Nat} (h : Keeps S w w') (hs : ∀ k, k < w.heap.size → S k → B ≤ k) (hB : B ≤ w.heap.size) : Below B w w' := ⟨h.os, h.tape, h.output, h.size, fun k hk => h.block k (by omega) fun e => by have := hs k (by omega) e; omega⟩
theorem Keeps.of_below (h : Below w.heap.size w w') : Keeps S w w' := ⟨h.os, h.tape, h.output, h.size, fun k hk _ => h.block k hk⟩
theorem Keeps.of_below' {B : Nat} (h : Below B w w') (hs : ∀ k, B ≤ k → k < w.heap.size → S k) : Keeps S w w' := ⟨h.os, h.tape, h.output, h.size, fun k hk hn => h.block k (Nat.lt_of_not_le fun e => hn (hs k e hk))⟩
theorem Keeps.alloc (h : Keeps S w w') (o : Obj) : Keeps S w (w'.alloc o) := h.trans (.of_below ((Below.refl _ _).alloc (Nat.le_refl _) o))
theorem Keeps.drew (h : Keeps S w w') : Keeps S w w'.drew := h.trans (.of_below (Below.refl _ _).drew)
theorem Keeps.drewN (h : Keeps S w w') (n : Nat) : Keeps S w (w'.drewN n) := h.trans (.of_below (bdrewN (Below.refl _ _) n))
theorem Keeps.setCell (h : Keeps S w w') {p : Addr} (hp : S p.block ∨ w.heap.size ≤ p.block) (u : Value) : Keeps S w (w'.setCell p u) := by
  have h' : Below p.block w' (w'.setCell p u) := (Below.refl _ _).setCell (Nat.le_refl _) u
  refine ⟨h'.os.trans h.os, h'.tape.trans h.tape, h'.output.trans h.output, Nat.le_trans h.size h'.size, fun k hk hs => ?_⟩
  have hne : k ≠ p.block := by
    rintro rfl
    rcases hp with hp | hp
    · exact hs hp
    · omega
  exact (Below.heap_setCell w' p u k hne).trans (h.block k hk hs)
theorem Keeps.grown {row : Option Nat} (h : Keeps S w w') (hg : w'.grownBy w'' row) (hr : ∀ k, row = some k → S k ∨ w.heap.size ≤ k) : Keeps S w w'' := by
  refine ⟨hg.os.trans h.os, hg.tape.trans h.tape, hg.output.trans h.output, Nat.le_trans h.size hg.size, fun k hk hs => ?_⟩
  refine (hg.block k (Nat.lt_of_lt_of_le hk h.size) ?_).trans (h.block k hk hs)
  intro e
  rcases hr k e.symm with h1 | h1
  · exact hs h1
  · omega
theorem Keeps.step (h : Keeps S w w') (h' : Keeps T w' w'') (hs : ∀ k, T k → S k ∨ w.heap.size ≤ k) : Keeps S w w'' := by
  refine ⟨h'.os.trans h.os, h'.tape.trans h.tape, h'.output.trans h.output, Nat.le_trans h.size h'.size, fun k hk hn => ?_⟩
  refine (h'.block k (Nat.lt_of_lt_of_le hk h.size) ?_).trans (h.block k hk hn)
  intro e
  rcases hs k e with h1 | h1
  · exact hn h1
  · omega
theorem Keeps.below_step {B : Nat} (h : Below B w w') (hB : B ≤ w'.heap.size) (h' : Keeps T w' w'') (hs : ∀ k, T k → B ≤ k) : Below B w w'' :=
  h.trans (h'.below (fun k _ e => hs k e) hB)
theorem Blk.keeps {g : Nat} {t : TypeId} {cs : Array Value} (h : Blk w g t cs) (hb : Keeps S w w') (hg : ¬ S g) : Blk w' g t cs := (hb.block g h.lt hg).trans h
theorem own_keeps {B : Nat} {e : TypeId} {k : Nat} {v : Value} {n : Nat} {xs : List Value} (h : w.ownsRow B e k v n xs) (hb : Keeps S w w') (hv : ∀ g, v.ownBlock = some g → ¬ S g) : w'.ownsRow B e k v n xs := by
  obtain ⟨h1, h2⟩ := h
  refine ⟨h1, ?_⟩
  rcases h2 with h2 | ⟨g, cap, cur, rfl, hg, hh, hr⟩
  · exact .inl h2
  · exact .inr ⟨g, cap, cur, rfl, hg, (hb.block g (by rcases Nat.lt_or_ge g w.heap.size with h4 | h4; exact h4; rw [Array.getElem?_eq_none h4] at hh; cases hh) (hv g rfl)).trans hh, hr⟩
theorem map_keeps {H : Type} {P : Program} {k : TypeId} {R : Value → Option (DataW H × List MemPlace)} {b n : Nat} {D : DataW H} (h : w.ownsMap P k R b n D) (hb : Keeps S w w') (hs : ¬ S b) : w'.ownsMap P k R b n D := by
  have hlt := h.lt
  obtain ⟨es, clock, h1, h2⟩ := h
  exact ⟨es, clock, (hb.block b hlt hs).trans h1, h2⟩
end Go.Proofs.YtabcdodjkfknlaaGreatDoor
namespace Go.Proofs.YtabcdodjkfknlaaGreatDoor
open Go.RowKit
/-- a row that lies somewhere, and stays -/
def RowAt (w : World) (T : TypeId) (v : Value) (n : Nat) (xs : List Value) : Prop := (v = .slice none 0 0 ∧ n = 0) ∨ ∃ (g c : Nat) (cur : Array Value), v = .slice (some ⟨g, 0, none⟩) n c ∧ n ≤ c ∧ Blk w g T cur ∧ ∀ (i : Nat) (u : Value), xs[i]? = some u → cur[i]? = some u
section
variable {w w' : World} {T : TypeId} {v : Value} {n : Nat} {xs : List Value}
theorem RowAt.slice (h : RowAt w T v n xs) : ∃ p c, v = .slice p n c := by
  rcases h with ⟨rfl, rfl⟩ | ⟨g, c, cur, rfl, _⟩
  · exact ⟨_, _, rfl⟩
  · exact ⟨_, _, rfl⟩
theorem RowAt.keeps {S : Nat → Prop} (h : RowAt w T v n xs) (hk : Keeps S w w') (hs : ∀ g, v.ownBlock = some g → ¬ S g) : RowAt w' T v n xs := by
  rcases h with h | ⟨g, c, cur, rfl, hc, hl, h⟩
  · exact .inl h
  · exact .inr ⟨g, c, cur, rfl, hc, hl.keeps hk (hs g rfl), h⟩
theorem RowAt.later (h : RowAt w T v n xs) (hb : Below w.heap.size w w') : RowAt w' T v n xs := h.keeps (S := fun _ => False) (.of_below hb) (fun _ _ => id)
theorem RowAt.of_own {B size : Nat} (h : w.ownsRow B T size v n xs) : RowAt w T v n xs := by
  obtain ⟨_, ⟨rfl, h0⟩ | ⟨g, cap, cur, rfl, h1, h2, h3, h4, h5, h6⟩⟩ := h
  · exact .inl ⟨rfl, h0⟩
  · refine .inr ⟨g, cap, cur, rfl, h3, h2, fun i u hu => ?_⟩
    rw [← h6, List.getElem?_take] at hu
    split at hu
    · rw [← hu]; simp
    · cases hu
theorem RowAt.blk (h : RowAt w T v n xs) : ∀ g, v.ownBlock = some g → ∃ cur, Blk w g T cur := by
  rcases h with ⟨rfl, _⟩ | ⟨g, c, cur, rfl, _, hl, _⟩
  · intro g hg; cases hg
  · intro g' hg; obtain rfl := Option.some.inj hg; exact ⟨cur, hl⟩
theorem RowAt.lt (h : RowAt w T v n xs) : ∀ g, v.ownBlock = some g → g < w.heap.size := fun g hg => by obtain ⟨cur, hb⟩ := h.blk g hg; exact hb.lt
theorem RowAt.cell (h : RowAt w T v n xs) (hn : 0 < n) : ∃ g c, v = .slice (some ⟨g, 0, none⟩) n c ∧ n ≤ c ∧ g < w.heap.size ∧ ∀ i u, xs[i]? = some u → w.cell? ⟨g, i, none⟩ = some u := by
  rcases h with ⟨_, rfl⟩ | ⟨g, c, cur, rfl, hc, hl, h⟩
  · omega
  · exact ⟨g, c, rfl, hc, hl.lt, fun i u hu => by rw [hl.cell]; exact h i u hu⟩
end
theorem own_blk {w : World} {B size n : Nat} {T : TypeId} {v : Value} {xs : List Value} (h : w.ownsRow B T size v n xs) : ∀ g, v.ownBlock = some g → ∃ cur, Blk w g T cur := (RowAt.of_own h).blk
theorem addr_at (o j : Nat) : (⟨o, 0, none⟩ : Addr).add j = ⟨o, j, none⟩ := by
  unfold Addr.add
  split
  · rename_i h0; subst h0; rfl
  · simp
theorem own_slice {w : World} {B k m : Nat} {e : TypeId} {v : Value} {xs : List Value} (h : w.ownsRow B e k v m xs) : ∃ p c, v = .slice p m c := by
  obtain ⟨_, ⟨h, rfl⟩ | ⟨g, cap, cur, h, _⟩⟩ := h
  · exact ⟨_, _, h⟩
  · exact ⟨_, _, h⟩
/-- an append, kept shut -/
def dappOp (tys : Array TypeId) (ty : TypeId) (args : Array Value) : Sem Value := Builtin.append_ tys ty args
theorem dapp_op (tys : Array TypeId) (ty : TypeId) (args : Array Value) : Builtin.append_ tys ty args = dappOp tys ty args := rfl
end Go.Proofs.YtabcdodjkfknlaaGreatDoor
namespace Go.Proofs.YtabcdodjkfknlaaGreatDoor
open Go.RowKit
/-- a byte of a file's name -/
def dByte (c : UInt8) : Bool := (97 ≤ c && c ≤ 122) || (48 ≤ c && c ≤ 57) || c == 46 || c == 45
def dName (l : List UInt8) : Bool := l.all dByte && decide (1 ≤ l.length) && decide (l.length ≤ 32)
theorem dByte_int (c : UInt8) : dByte c = (decide (97 ≤ (c.toNat : Int)) && decide ((c.toNat : Int) ≤ 122) || decide (48 ≤ (c.toNat : Int)) && decide ((c.toNat : Int) ≤ 57) || decide ((c.toNat : Int) = 46) || decide ((c.toNat : Int) = 45)) := by
  unfold dByte
  have e1 : (c == 46) = decide ((c.toNat : Int) = 46) := by
    rw [Bool.eq_iff_iff]; simp [← UInt8.toNat_inj]; omega
  have e2 : (c == 45) = decide ((c.toNat : Int) = 45) := by
    rw [Bool.eq_iff_iff]; simp [← UInt8.toNat_inj]; omega
  rw [e1, e2]
  simp only [UInt8.le_iff_toNat_le]
  rw [Bool.eq_iff_iff]
  simp
  omega
theorem dnot_all (s : ByteArray) (k : Nat) (h : k < s.size) (hn : dByte s[k] = false) : dName s.data.toList = false := by
  unfold dName
  have : s.data.toList.all dByte = false := by
    rw [List.all_eq_false]
    exact ⟨s[k], by simp [ByteArray.getElem_eq_getElem_data], by simp [hn]⟩
  simp [this]
theorem dall_step (s : ByteArray) (k : Nat) (h : k < s.size) (h0 : (s.data.toList.take k).all dByte = true) (h1 : dByte s[k] = true) : (s.data.toList.take (k + 1)).all dByte = true := by
  rw [take_snoc s k h]; simp only [List.all_append, h0, List.all_cons, List.all_nil, Bool.and_true, h1]
theorem dName_all (s : ByteArray) (h : s.data.toList.all dByte = true) : dName s.data.toList = (!s.toList.isEmpty && decide ((s.size : Int) ≤ 32)) := by
  unfold dName
  rw [h, Lib.toList_data, Lib.size_eq]
  cases hl : s.data.toList <;> simp
  omega
theorem dbT1 (c : UInt8) (h : 97 ≤ (c.toNat : Int)) (h2 : (c.toNat : Int) ≤ 122) : dByte c = true := by rw [dByte_int]; simp; omega
theorem dbT2 (c : UInt8) (h : 48 ≤ (c.toNat : Int)) (h2 : (c.toNat : Int) ≤ 57) : dByte c = true := by rw [dByte_int]; simp; omega
theorem dbT3 (c : UInt8) (h : ((c.toNat : Int) == 46) = true) : dByte c = true := by rw [dByte_int]; simp at h; simp; omega
theorem dbT4 (c : UInt8) (h : ((c.toNat : Int) == 45) = true) : dByte c = true := by rw [dByte_int]; simp at h; simp; omega
theorem dbF (c : UInt8) (h1 : ¬ (97 ≤ (c.toNat : Int) ∧ (c.toNat : Int) ≤ 122)) (h2 : ¬ (48 ≤ (c.toNat : Int) ∧ (c.toNat : Int) ≤ 57)) (h3 : ((c.toNat : Int) == 46) = false) (h4 : ((c.toNat : Int) == 45) = false) : dByte c = false := by
  rw [dByte_int]; simp at h3 h4; simp; omega
set_option maxHeartbeats 1000000 in
theorem disName_calls (s : ByteArray) (w : World) (hs : s.size ≤ maxLen) :
    Calls Tryz.prog 143 #[.string s] w fun e w' => e = .returned (.bool (dName s.data.toList)) ∧ w = w' := by
  unfold maxLen at hs
  go_enter Tryz.func143, Tryz.ntmps143
  go_wp2
  go_loop [7] (fun i => ∃ k : Nat, k ≤ s.size ∧ i = .int .i64 k ∧ (s.data.toList.take k).all dByte = true) (fun i => s.size - (intOf i).toNat)
  case atStart => exact ⟨0, Nat.zero_le _, rfl, by simp⟩
  case round =>
    obtain ⟨k, hk, rfl, hall⟩ := hrel
    have hall' := Lib.hid hall
    clear hall
    by_cases hlt : k < s.size
    · go_wp2
      all_goals first
        | (go_round
           case rel => exact ⟨k + 1, by omega, by go_num, dall_step s k hlt hall'.out (by first | exact dbT1 _ (by assumption) (by assumption) | exact dbT2 _ (by assumption) (by assumption) | exact dbT3 _ (by assumption) | exact dbT4 _ (by assumption))⟩
           case measure => simp [intOf]; omega)
        | (go_ret
           exact ⟨ret_bool (dnot_all s k hlt (dbF _ (by omega) (by omega) (by assumption) (by assumption))).symm, rfl⟩)
    · have hn := dName_all s (by have h := hall'.out; rwa [List.take_of_length_le (by rw [← Lib.size_eq]; omega)] at h)
      have hn' := Lib.hid hn
      clear hn
      go_wp2
      all_goals (go_ret; refine ⟨ret_bool ?_, rfl⟩; rw [hn'.out]; try simp_all)
end Go.Proofs.YtabcdodjkfknlaaGreatDoor
namespace Go.Proofs.YtabcdodjkfknlaaGreatDoor
open Go.RowKit Go.Maps
structure File where
  data : List UInt8
  safe : Nat
/-- what was done to the directory -/
structure DAct where
  (frm to : ByteArray)
  file : Option Nat
/-- a disk -/
structure Dk where
  cap : Nat
  down : Bool
  fuse : Int
  dir : List UInt8 → Option Nat
  safe : List UInt8 → Option Nat
  acts : List DAct
  used : Int
  file : Nat → Option File
  /-- how much was done to it, at most -/
  room : Nat
  /-- how many names the safe directory was given, at most -/
  slots : Nat
def ptrV : Option Nat → Value
  | none => .pointer none
  | some f => .pointer (some ⟨f, 0, none⟩)
def ptrD : Option Nat → DataW Unit
  | none => .nil
  | some f => .lit (.int .u64 f)
def ptrR : Value → Option (DataW Unit × List MemPlace)
  | .pointer none => some (.nil, [])
  | .pointer (some a) => if a = ⟨a.block, 0, none⟩ then some (.lit (.int .u64 a.block), []) else none
  | _ => none
theorem ptrR_mk : ∀ p : Option Nat, ptrR (ptrV p) = some (ptrD p, [])
  | none => rfl
  | some f => by simp [ptrR, ptrV, ptrD]
theorem ptrR_inv {v : Value} {p : Option Nat} {ps : List MemPlace} (h : ptrR v = some (ptrD p, ps)) : v = ptrV p := by
  unfold ptrR at h
  split at h
  · cases p with
    | none => rfl
    | some f => simp [ptrD] at h
  · rename_i a
    split at h
    · rename_i ha
      cases p with
      | none => simp [ptrD] at h
      | some f =>
        simp [ptrD] at h
        have e : a.block = f := Int.ofNat_inj.1 h.1
        rw [ha, e]
        rfl
    · cases h
  · cases h
/-- the datum of a map says what f says -/
def dirIs (D : DataW Unit) (f : List UInt8 → Option Nat) : Prop := ∀ s, Maps.has D (.string s) = (f s).isSome ∧ ∀ p z, f s = some p → D.atKey (.string s) z = ptrD (some p)
theorem dirIs_nil : dirIs (.map []) fun _ => none := fun s => ⟨rfl, fun p z h => by cases h⟩
theorem dirIs_put {D : DataW Unit} {f : List UInt8 → Option Nat} (hD : IsMap D) (h : dirIs D f) (s : List UInt8) (p : Nat) : dirIs (D.put (.string s) (ptrD (some p))) (fun s' => if s' = s then some p else f s') := by
  intro s'
  show Maps.has _ _ = (if s' = s then some p else f s').isSome ∧ ∀ p' z, (if s' = s then some p else f s') = some p' → _
  by_cases e : s' = s
  · subst e
    rw [if_pos rfl]
    exact ⟨has_put_same (k := .string s') hD trivial _, fun p' z hp => by obtain rfl := Option.some.inj hp; exact atKey_put_same (k := .string s') hD trivial _ _⟩
  · rw [if_neg e]
    have hne : (Lit.string s') ≠ .string s := fun h => e (by simpa using h)
    obtain ⟨h1, h2⟩ := h s'
    exact ⟨(has_put_other hne _).trans h1, fun p' z hp => (atKey_put_other hne _ _).trans (h2 p' z hp)⟩
theorem dirIs_del {D : DataW Unit} {f : List UInt8 → Option Nat} (h : dirIs D f) (s : List UInt8) : dirIs (D.del (.string s)) (fun s' => if s' = s then none else f s') := by
  intro s'
  show Maps.has _ _ = (if s' = s then none else f s').isSome ∧ ∀ p' z, (if s' = s then none else f s') = some p' → _
  by_cases e : s' = s
  · subst e
    rw [if_pos rfl]
    exact ⟨has_del_same (k := .string s'), fun p' z hp => by cases hp⟩
  · rw [if_neg e]
    have hne : (Lit.string s') ≠ .string s := fun h => e (by simpa using h)
    obtain ⟨h1, h2⟩ := h s'
    exact ⟨(has_del_other hne).trans h1, fun p' z hp => (atKey_del_other hne _).trans (h2 p' z hp)⟩
theorem dstr_keyed : Keyed Tryz.prog 9 := string_keyed Tryz.underlying9
theorem zeroPtr (w : World) : (zeroValue 97).run Tryz.prog w = .ok (ptrV none) w := by kernel_rfl
/-- a look-up, as an equation -/
theorem dir_run {w : World} {b n : Nat} {D : DataW Unit} {f : List UInt8 → Option Nat} (h1 : w.ownsMap Tryz.prog 9 ptrR b n D) (h2 : dirIs D f) {s : ByteArray} (hs : s.size ≤ maxLen) :
    (Instr.lookup 79 (.map (some b)) (.string s) false).run Tryz.prog w = .ok (ptrV (f s.data.toList)) w := by
  obtain ⟨v, ps, hr, hv⟩ := h1.lookup dstr_keyed Tryz.underlying79 (zeroPtr w) (ptrR_mk none) (WideMaps.keyOf_string_mk Tryz.underlying9 hs)
  obtain ⟨e1, e2⟩ := h2 s.data.toList
  cases hf : f s.data.toList with
  | none =>
    rw [hf] at e1
    rw [Maps.atKey_of_not_has e1] at hv
    obtain rfl := ptrR_inv hv
    exact hr
  | some p =>
    rw [e2 p _ hf] at hv
    obtain rfl := ptrR_inv hv
    exact hr
/-- a store, as an equation -/
theorem dir_put {w : World} {b n : Nat} {D : DataW Unit} {f : List UInt8 → Option Nat} (h1 : w.ownsMap Tryz.prog 9 ptrR b n D) (h2 : dirIs D f) (hn : n < maxLen) {s : ByteArray} (hs : s.size ≤ maxLen) (p : Nat) :
    ∃ w', (Instr.mapUpdate 79 (.map (some b)) (.string s) (.pointer (some ⟨p, 0, none⟩))).run Tryz.prog w = .ok () w' ∧ (∃ D', w'.ownsMap Tryz.prog 9 ptrR b (n + 1) D' ∧ dirIs D' (fun s' => if s' = s.data.toList then some p else f s')) ∧ Keeps (fun k => k = b) w w' := by
  obtain ⟨w', hr, ho, hg⟩ := h1.update dstr_keyed Tryz.underlying79 hn (WideMaps.keyOf_string_mk Tryz.underlying9 hs) (ptrR_mk (some p))
  exact ⟨w', hr, ⟨_, ho, dirIs_put h1.isMap h2 _ _⟩, (Keeps.refl _ _).grown hg (fun k e => .inl (by simpa using e.symm))⟩
/-- a deletion, as an equation -/
theorem dir_del {w : World} {b n : Nat} {D : DataW Unit} {f : List UInt8 → Option Nat} (h1 : w.ownsMap Tryz.prog 9 ptrR b n D) (h2 : dirIs D f) {s : ByteArray} (hs : s.size ≤ maxLen) (ty : TypeId) :
    ∃ w', (Builtin.delete_ #[79, 9] ty #[.map (some b), .string s]).run Tryz.prog w = .ok (.tuple #[]) w' ∧ (∃ D', w'.ownsMap Tryz.prog 9 ptrR b n D' ∧ dirIs D' (fun s' => if s' = s.data.toList then none else f s')) ∧ Keeps (fun k => k = b) w w' := by
  obtain ⟨w', hr, ho, ht⟩ := h1.drop dstr_keyed Tryz.underlying79 (WideMaps.keyOf_string_mk Tryz.underlying9 hs) ty
  exact ⟨w', hr, ⟨_, ho, dirIs_del h2 _⟩, (Keeps.refl _ _).grown ht.grown (fun k e => .inl (by simpa using e.symm))⟩
def acells (l : List DAct) : List Value := l.flatMap fun a => [.string a.frm, .string a.to, ptrV a.file]
def bcells (l : List UInt8) : List Value := l.map fun b => .int .u8 b.toNat
/-- a disk lies at block D: its blocks are those of O, all from B on -/
structure Dat (w : World) (B D bd bs n : Nat) (va : Value) (rows : Nat → Value) (k : Dk) : Prop where
  blk : Blk w D 82 #[.int .i64 k.cap, .bool k.down, .int .i64 k.fuse, .map (some bd), .map (some bs), va, .int .i64 k.used]
  dir : ∃ X, w.ownsMap Tryz.prog 9 ptrR bd n X ∧ dirIs X k.dir
  safe : ∃ X, w.ownsMap Tryz.prog 9 ptrR bs k.slots X ∧ dirIs X k.safe
  two : bd ≠ bs
  acts : w.ownsRow B 116 3 va k.acts.length (acells k.acts)
  file : ∀ f x, k.file f = some x → B ≤ f ∧ Blk w f 101 #[rows f, .int .i64 x.safe] ∧ w.ownsRow B 5 1 (rows f) x.data.length (bcells x.data) ∧ x.safe ≤ x.data.length
  apart : ∀ f f' x x' b, k.file f = some x → k.file f' = some x' → (rows f).ownBlock = some b → (rows f').ownBlock = some b → f = f'
  base : B ≤ D ∧ B ≤ bd ∧ B ≤ bs
/-- its blocks -/
def dset (D bd bs : Nat) (va : Value) (rows : Nat → Value) (k : Dk) : Nat → Prop := fun j => j = D ∨ j = bd ∨ j = bs ∨ va.ownBlock = some j ∨ ∃ f x, k.file f = some x ∧ (j = f ∨ (rows f).ownBlock = some j)
theorem Dat.keeps {S : Nat → Prop} {w w' : World} {B D bd bs n : Nat} {va : Value} {rows : Nat → Value} {k : Dk} (h : Dat w B D bd bs n va rows k) (hk : Keeps S w w') (hs : ∀ j, dset D bd bs va rows k j → ¬ S j) : Dat w' B D bd bs n va rows k := by
  obtain ⟨X, h1, h2⟩ := h.dir
  obtain ⟨Y, h3, h4⟩ := h.safe
  exact ⟨h.blk.keeps hk (hs _ (.inl rfl)), ⟨X, map_keeps h1 hk (hs _ (.inr (.inl rfl))), h2⟩, ⟨Y, map_keeps h3 hk (hs _ (.inr (.inr (.inl rfl)))), h4⟩, h.two, own_keeps h.acts hk (fun g hg => hs _ (.inr (.inr (.inr (.inl hg))))),
    fun f x hf => ⟨(h.file f x hf).1, (h.file f x hf).2.1.keeps hk (hs _ (.inr (.inr (.inr (.inr ⟨f, x, hf, .inl rfl⟩))))), own_keeps (h.file f x hf).2.2.1 hk (fun g hg => hs _ (.inr (.inr (.inr (.inr ⟨f, x, hf, .inr hg⟩))))), (h.file f x hf).2.2.2⟩, h.apart, h.base⟩
theorem Dat.from_ {w : World} {B D bd bs n : Nat} {va : Value} {rows : Nat → Value} {k : Dk} (h : Dat w B D bd bs n va rows k) : ∀ j, dset D bd bs va rows k j → B ≤ j ∧ j < w.heap.size := by
  obtain ⟨X, h1, _⟩ := h.dir
  obtain ⟨Y, h3, _⟩ := h.safe
  obtain ⟨b1, b2, b3⟩ := h.base
  rintro j (rfl | rfl | rfl | e | ⟨f, x, hf, rfl | e⟩)
  · exact ⟨b1, h.blk.lt⟩
  · exact ⟨b2, h1.lt⟩
  · exact ⟨b3, h3.lt⟩
  · exact h.acts.lt j e
  · exact ⟨(h.file _ x hf).1, (h.file _ x hf).2.1.lt⟩
  · exact (h.file f x hf).2.2.1.lt j e
/-- a disk, whatever its blocks: those of O -/
def Disk (w : World) (B D : Nat) (O : Nat → Prop) (k : Dk) : Prop := ∃ bd bs n va rows, Dat w B D bd bs n va rows k ∧ (n ≤ k.room ∧ k.slots + k.acts.length ≤ k.room) ∧ O = dset D bd bs va rows k
/-- what a call leaves of a disk -/
structure DPost (w : World) (B D : Nat) (O : Nat → Prop) (k' : Dk) (w' : World) : Prop where
  disk : ∃ O', Disk w' B D O' k' ∧ ∀ j, O' j → O j ∨ w.heap.size ≤ j
  keeps : Keeps O w w'
end Go.Proofs.YtabcdodjkfknlaaGreatDoor
namespace Go.Proofs.YtabcdodjkfknlaaGreatDoor
open Go.RowKit Go.Maps
def Dk.new (cap : Int) : Dk := ⟨(min (max cap 0) 16777216).toNat, false, -1, fun _ => none, fun _ => none, [], 0, fun _ => none, 0, 0⟩
theorem dnew_at (w : World) (cap c : Int) (hc : c = (((min (max cap 0) 16777216).toNat : Nat) : Int)) : ∃ O, Disk (((w.alloc (.map #[] 0)).alloc (.map #[] 0)).alloc (.cells #[.int .i64 c, .bool false, .int .i64 (-1), .map (some w.heap.size), .map (some (w.heap.size + 1)), .slice none 0 0, .int .i64 0] 82)) w.heap.size (w.heap.size + 2) O (Dk.new cap) := by
  subst hc
  have hb := Blk.new ((w.alloc (.map #[] 0)).alloc (.map #[] 0)) 82 #[.int .i64 (((min (max cap 0) 16777216).toNat : Nat) : Int), .bool false, .int .i64 (-1), .map (some w.heap.size), .map (some (w.heap.size + 1)), .slice none 0 0, .int .i64 0]
  rw [World.size_alloc, World.size_alloc] at hb
  have m1 := World.ownsMap_made w Tryz.prog 9 ptrR
  have m2 := World.ownsMap_made (w.alloc (.map #[] 0)) Tryz.prog 9 ptrR
  rw [World.size_alloc] at m2
  refine ⟨_, w.heap.size, w.heap.size + 1, 0, .slice none 0 0, fun _ => .slice none 0 0, ⟨hb, ⟨_, (m1.alloc _).alloc _, dirIs_nil⟩, ⟨_, m2.alloc _, dirIs_nil⟩, by omega, World.ownsRow_nil _ _ _ _, fun f x h => (by cases h), fun f f' x x' b h => (by cases h), by omega, by omega, by omega⟩, ⟨Nat.le_refl _, Nat.le_refl _⟩, rfl⟩
set_option maxHeartbeats 1000000 in
theorem dnew_calls (cap : Int) (w : World) :
    Calls Tryz.prog 17 #[.int .i64 cap] w fun e w' => e = .returned (.pointer (some ⟨w.heap.size + 2, 0, none⟩)) ∧ (∃ O, Disk w' w.heap.size (w.heap.size + 2) O (Dk.new cap)) ∧ Below w.heap.size w w' := by
  have hmm := @run_makeMap Tryz.prog
  go_enter Tryz.func17, Tryz.ntmps17
  go_wp2
  all_goals
    go_ret
    exact ⟨rfl, dnew_at w cap _ (by omega), ((((Below.refl w.heap.size w).alloc (Nat.le_refl _) _).alloc (by simp) _).alloc (by simp; omega) _)⟩
def dcells (k : Dk) (bd bs : Nat) (va : Value) : Array Value := #[.int .i64 k.cap, .bool k.down, .int .i64 k.fuse, .map (some bd), .map (some bs), va, .int .i64 k.used]
theorem map_ne {H : Type} {P : Program} {kt : TypeId} {R : Value → Option (DataW H × List MemPlace)} {w : World} {b n g : Nat} {X : DataW H} {T : TypeId} {cs : Array Value} (h : w.ownsMap P kt R b n X) (hb : Blk w g T cs) : b ≠ g := by
  obtain ⟨es, clock, h1, _⟩ := h
  rintro rfl
  unfold Blk at hb
  rw [h1] at hb
  cases hb
/-- only the struct is turned, and of it no map and no row -/
theorem Disk.field {w w' : World} {B D : Nat} {O : Nat → Prop} {k k' : Dk} (h : Disk w B D O k) (hk : Keeps (fun j => j = D) w w') (hb : ∀ bd bs va, Blk w D 82 (dcells k bd bs va) → Blk w' D 82 (dcells k' bd bs va)) (hs : k'.dir = k.dir ∧ k'.safe = k.safe ∧ k'.acts = k.acts ∧ k'.file = k.file ∧ k'.room = k.room ∧ k'.slots = k.slots) :
    Disk w' B D O k' ∧ Keeps O w w' := by
  obtain ⟨bd, bs, n, va, rows, hd, hn, rfl⟩ := h
  obtain ⟨s1, s2, s3, s4, s5, s6⟩ := hs
  obtain ⟨X, h1, h2⟩ := hd.dir
  obtain ⟨Y, h3, h4⟩ := hd.safe
  refine ⟨⟨bd, bs, n, va, rows, ⟨hb _ _ _ hd.blk, ⟨X, map_keeps h1 hk (map_ne h1 hd.blk), by rw [s1]; exact h2⟩, ⟨Y, by rw [s6]; exact map_keeps h3 hk (map_ne h3 hd.blk), by rw [s2]; exact h4⟩, hd.two, by rw [s3]; exact own_keeps hd.acts hk (fun g hg e => own_blk_ne hd.acts hd.blk (by decide) (by rw [hg, e])), ?_, by rw [s4]; exact hd.apart, hd.base⟩, by rw [s3, s5, s6]; exact hn, ?_⟩, hk.mono (fun _ _ e => .inl e)⟩
  · rw [s4]
    intro f x hf
    obtain ⟨f1, f2, f3, f4⟩ := hd.file f x hf
    exact ⟨f1, f2.keeps hk (fun e => f2.ne_ hd.blk (by decide) e), own_keeps f3 hk (fun g hg e => own_blk_ne f3 hd.blk (by decide) (by rw [hg, e])), f4⟩
  · unfold dset; rw [s4]
theorem Disk.blk {w : World} {B D : Nat} {O : Nat → Prop} {k : Dk} (h : Disk w B D O k) : ∃ bd bs va, Blk w D 82 (dcells k bd bs va) := by
  obtain ⟨bd, bs, n, va, rows, hd, _⟩ := h
  exact ⟨bd, bs, va, hd.blk⟩
theorem Disk.lt {w : World} {B D : Nat} {O : Nat → Prop} {k : Dk} (h : Disk w B D O k) : ∀ j, O j → B ≤ j ∧ j < w.heap.size := by
  obtain ⟨bd, bs, n, va, rows, hd, _, rfl⟩ := h
  exact hd.from_
/-- one act is taken from the fuse: may it be done? and what is left -/
def Dk.burns (k : Dk) : Bool := !(k.fuse == 0)
def Dk.burn (k : Dk) : Dk := if k.fuse = 0 then { k with down := true } else if 0 < k.fuse then { k with fuse := k.fuse - 1 } else k
def errDown (b : Bool) : Int := if b then 0 else 6
set_option maxHeartbeats 1000000 in
theorem burn_calls (k : Dk) (B D : Nat) (O : Nat → Prop) (w : World) (hd : Disk w B D O k) (hf : -1 ≤ k.fuse ∧ k.fuse < 9223372036854775808) :
    Calls Tryz.prog 58 #[.pointer (some ⟨D, 0, none⟩)] w fun e w' => e = .returned (.int .i64 (errDown k.burns)) ∧ Disk w' B D O k.burn ∧ Keeps O w w' := by
  obtain ⟨bd, bs, va, hb⟩ := hd.blk
  have qc := hb.cell
  have qf := hb.frozen
  unfold dcells at qc
  have hd' := Lib.hid hd
  clear hb hd
  rcases Int.lt_trichotomy k.fuse 0 with h | h | h
  · have e1 : k.burn = k := by unfold Dk.burn; rw [if_neg (by omega), if_neg (by omega)]
    have e2 : k.burns = true := by unfold Dk.burns; simp; omega
    have e0 : (k.fuse == 0) = false := by rw [beq_eq_false_iff_ne]; omega
    have hn : ¬ 0 < k.fuse := by omega
    rw [e1, e2]
    go_enter Tryz.func58, Tryz.ntmps58
    go_wp2
    go_ret
    exact ⟨rfl, hd'.out, Keeps.refl _ _⟩
  · have e1 : k.burn = { k with down := true } := by unfold Dk.burn; rw [if_pos h]
    have e2 : k.burns = false := by unfold Dk.burns; rw [h]; rfl
    have e0 : (k.fuse == 0) = true := by rw [h]; rfl
    have hx := hd'.out.field (k' := { k with down := true }) (w' := w.setCell ⟨D, 1, none⟩ (.bool true)) (Keeps.setCell (S := fun j => j = D) (Keeps.refl _ w) (p := ⟨D, 1, none⟩) (.inl rfl) _) (fun bd bs va h => h.set_ 1 _) ⟨rfl, rfl, rfl, rfl, rfl, rfl⟩
    have hx' := Lib.hid hx
    clear hx
    rw [e1, e2]
    go_enter Tryz.func58, Tryz.ntmps58
    go_wp2
    go_ret
    exact ⟨rfl, hx'.out.1, hx'.out.2⟩
  · have e1 : k.burn = { k with fuse := k.fuse - 1 } := by unfold Dk.burn; rw [if_neg (by omega), if_pos h]
    have e2 : k.burns = true := by unfold Dk.burns; simp; omega
    have e0 : (k.fuse == 0) = false := by rw [beq_eq_false_iff_ne]; omega
    have hx := hd'.out.field (k' := { k with fuse := k.fuse - 1 }) (w' := w.setCell ⟨D, 2, none⟩ (.int .i64 (k.fuse - 1))) (Keeps.setCell (S := fun j => j = D) (Keeps.refl _ w) (p := ⟨D, 2, none⟩) (.inl rfl) _) (fun bd bs va h => h.set_ 2 _) ⟨rfl, rfl, rfl, rfl, rfl, rfl⟩
    have hx' := Lib.hid hx
    clear hx
    rw [e1, e2]
    go_enter Tryz.func58, Tryz.ntmps58
    go_wp2
    go_ret
    exact ⟨rfl, hx'.out.1, hx'.out.2⟩
end Go.Proofs.YtabcdodjkfknlaaGreatDoor
namespace Go.Proofs
open Go.Shelf
def Tryz.containsF_ren : Go.Shelf.Ren := ⟨fun | 8 => 141 | 6 => 124 | n => n, fun | 22 => 51 | 23 => 9 | 25 => 124 | 4 => 4 | 3 => 3 | 0 => 0 | n => n, fun | n => n⟩
theorem Tryz.containsF : Go.Proofs.SlLaysH.n8 Tryz.prog Tryz.containsF_ren := {
  mixed := by kernel_rfl
  f6 := ⟨Tryz.f124.name, by decide, Tryz.func124.trans (congrArg some (by kernel_rfl))⟩
  f8 := ⟨Tryz.f141.name, by decide, Tryz.func141.trans (congrArg some (by kernel_rfl))⟩
  t0 := Tryz.underlying0
  a0 := Tryz.isAgg0
  z0 := Tryz.sizeOf0
  v0 := Tryz.zeroValue0
  t3 := Tryz.underlying3
  a3 := Tryz.isAgg3
  z3 := Tryz.sizeOf3
  v3 := Tryz.zeroValue3
  t4 := Tryz.underlying4
  a4 := Tryz.isAgg4
  z4 := Tryz.sizeOf4
  v4 := Tryz.zeroValue4
  t22 := Tryz.underlying51
  a22 := Tryz.isAgg51
  z22 := Tryz.sizeOf51
  v22 := Tryz.zeroValue51
  a23 := Tryz.isAgg9
  z23 := Tryz.sizeOf9
  t25 := Tryz.underlying124
  a25 := Tryz.isAgg124
  z25 := Tryz.sizeOf124
  v25 := Tryz.zeroValue124 }
def Tryz.cloneB_ren : Go.Shelf.Ren := ⟨fun | 41 => 101 | n => n, fun | 22 => 43 | 23 => 5 | 4 => 4 | n => n, fun | n => n⟩
theorem Tryz.cloneB : Go.Proofs.SlLaysE0.n41 Tryz.prog Tryz.cloneB_ren := {
  mixed := by kernel_rfl
  f41 := ⟨Tryz.f101.name, by decide, Tryz.func101.trans (congrArg some (by kernel_rfl))⟩
  t4 := Tryz.underlying4
  a4 := Tryz.isAgg4
  z4 := Tryz.sizeOf4
  v4 := Tryz.zeroValue4
  t22 := Tryz.underlying43
  a22 := Tryz.isAgg43
  z22 := Tryz.sizeOf43
  v22 := Tryz.zeroValue43 }
def Tryz.cloneM_ren : Go.Shelf.Ren := ⟨fun | 5 => 68 | 7 => 114 | n => n, fun | 23 => 79 | 25 => 9 | 3 => 97 | 4 => 4 | 20 => 20 | n => n, fun | n => n⟩
theorem Tryz.cloneM : Go.Proofs.SlLaysW.n5 Tryz.prog Tryz.cloneM_ren := {
  mixed := by kernel_rfl
  f5 := ⟨Tryz.f68.name, by decide, Tryz.func68.trans (congrArg some (by kernel_rfl))⟩
  f7 := Tryz.func114.trans (congrArg some (by kernel_rfl))
  t4 := Tryz.underlying4
  a4 := Tryz.isAgg4
  z4 := Tryz.sizeOf4
  v4 := Tryz.zeroValue4
  t20 := Tryz.underlying20
  a20 := Tryz.isAgg20
  z20 := Tryz.sizeOf20
  v20 := Tryz.zeroValue20
  t23 := Tryz.underlying79
  a23 := Tryz.isAgg79
  z23 := Tryz.sizeOf79
  v23 := Tryz.zeroValue79 }
end Go.Proofs
namespace Go.Proofs.YtabcdodjkfknlaaGreatDoor
open Go.RowKit Go.Maps Go.Shelf
abbrev NameS := { s : ByteArray // s.size ≤ maxLen }
instance : Inhabited NameS := ⟨⟨⟨#[]⟩, by decide⟩⟩
def encN (s : NameS) : Value := .string s.1
def badN (s : NameS) : Bool := !dName s.1.data.toList
theorem bad_pred (w : World) : PredAt Tryz.prog 142 #[] encN badN w := fun W x _ => by
  show Calls Tryz.prog 142 #[.string x.1] W _
  have h := disName_calls x.1 W x.2
  have e : badN x = !dName x.1.data.toList := rfl
  rw [e]
  generalize dName x.1.data.toList = b at *
  go_enter Tryz.func142, Tryz.ntmps142
  go_wp2_with fail
  refine h.mono ?_
  rintro e w' ⟨rfl, rfl⟩
  go_wp2
  go_ret
  exact ⟨rfl, 0, rfl⟩
theorem contains_calls (b n : Nat) (zs : List NameS) (w : World) (hz : zs.length = n) (hn : n ≤ 1000) (hc : ∀ j, j < zs.length → w.cell? ⟨b, 0 + j, none⟩ = some (encN zs[j]!)) :
    Calls Tryz.prog 141 #[.slice (some ⟨b, 0, none⟩) n n, .func (.func 142) #[] #[]] w fun e w' => e = .returned (.bool (zs.any badN)) ∧ ∃ q, w' = w.drewN q := by
  have eg : ∀ args w, (callFunc 142 args).run Tryz.prog w = .ok (.enter 142 args) w := enters_of Tryz.func142 (by kernel_rfl) rfl
  have h := AnyE.slices_ContainsFunc Tryz.containsF encN badN 142 #[] eg b 0 n n zs w (bad_pred w) (by omega) (by omega) hc
  rw [List.take_of_length_le (by omega)] at h
  exact h
/-- may a disk be asked of names that may be, or not? -/
def Dk.may (k : Dk) (ok : Bool) : Int := if k.down then 6 else if ok then 0 else 2
set_option maxHeartbeats 1000000 in
theorem dmay_calls (k : Dk) (B D b n : Nat) (O : Nat → Prop) (zs : List NameS) (w : World) (hd : Disk w B D O k) (hz : zs.length = n) (hn : n ≤ 1000) (hc : ∀ j, j < zs.length → w.cell? ⟨b, 0 + j, none⟩ = some (encN zs[j]!)) :
    Calls Tryz.prog 100 #[.pointer (some ⟨D, 0, none⟩), .slice (some ⟨b, 0, none⟩) n n] w fun e w' => e = .returned (.int .i64 (k.may (!zs.any badN))) ∧ ∃ q, w' = w.drewN q := by
  obtain ⟨bd, bs, va, hb⟩ := hd.blk
  have qc := hb.cell
  unfold dcells at qc
  have hC := contains_calls b n zs w hz hn hc
  have hC' := Lib.hid hC
  clear hC hc hb hd
  generalize zs.any badN = X at *
  unfold Dk.may
  cases hdn : k.down
  · go_enter Tryz.func100, Tryz.ntmps100
    go_wp2_with fail
    refine hC'.out.mono ?_
    rintro e w1 ⟨rfl, q, rfl⟩
    cases X
    · go_wp2
      go_ret
      exact ⟨rfl, q, rfl⟩
    · go_wp2
      go_ret
      exact ⟨rfl, q, rfl⟩
  · go_enter Tryz.func100, Tryz.ntmps100
    go_wp2
    go_ret
    exact ⟨rfl, 0, rfl⟩
set_option maxHeartbeats 1000000 in
theorem dmay_none (k : Dk) (B D : Nat) (O : Nat → Prop) (w : World) (hd : Disk w B D O k) :
    Calls Tryz.prog 100 #[.pointer (some ⟨D, 0, none⟩), .slice none 0 0] w fun e w' => e = .returned (.int .i64 (k.may true)) ∧ w' = w := by
  obtain ⟨bd, bs, va, hb⟩ := hd.blk
  have qc := hb.cell
  unfold dcells at qc
  have hC := AnyE.slices_ContainsFunc_empty Tryz.containsF none 0 (.func (.func 142) #[] #[]) w
  change Calls Tryz.prog 141 _ _ _ at hC
  have hC' := Lib.hid hC
  clear hC hb hd
  unfold Dk.may
  cases hdn : k.down
  · go_enter Tryz.func100, Tryz.ntmps100
    go_wp2_with fail
    refine hC'.out.mono ?_
    rintro e w1 ⟨rfl, rfl⟩
    go_wp2
    go_ret
    exact ⟨rfl, rfl⟩
  · go_enter Tryz.func100, Tryz.ntmps100
    go_wp2
    go_ret
    exact ⟨rfl, rfl⟩
end Go.Proofs.YtabcdodjkfknlaaGreatDoor
namespace Go.Proofs.YtabcdodjkfknlaaGreatDoor
open Go.RowKit Go.Maps
theorem Disk.keeps {S : Nat → Prop} {w w' : World} {B D : Nat} {O : Nat → Prop} {k : Dk} (h : Disk w B D O k) (hk : Keeps S w w') (hs : ∀ j, O j → ¬ S j) : Disk w' B D O k := by
  obtain ⟨bd, bs, n, va, rows, hd, hn, rfl⟩ := h
  exact ⟨bd, bs, n, va, rows, hd.keeps hk hs, hn, rfl⟩
theorem Disk.later {w w' : World} {B D : Nat} {O : Nat → Prop} {k : Dk} (h : Disk w B D O k) (hb : Below w.heap.size w w') : Disk w' B D O k := h.keeps (S := fun _ => False) (.of_below hb) (fun _ _ => id)
/-- a file: what is told of it, and where it is -/
def Dk.findE (k : Dk) (s : List UInt8) : Int := if k.may (dName s) = 0 then (if (k.dir s).isSome then 0 else 4) else k.may (dName s)
def Dk.findF (k : Dk) (s : List UInt8) : Option Nat := if k.may (dName s) = 0 then k.dir s else none
theorem one_any (s : NameS) : (!([s].any badN)) = dName s.1.data.toList := by simp [badN]
set_option maxHeartbeats 2000000 in
set_option maxRecDepth 100000 in
theorem find_calls (k : Dk) (B D : Nat) (O : Nat → Prop) (s : ByteArray) (w : World) (hd : Disk w B D O k) (hs : s.size ≤ maxLen) :
    Calls Tryz.prog 57 #[.pointer (some ⟨D, 0, none⟩), .string s] w fun e w' => e = .returned (.tuple #[ptrV (k.findF s.data.toList), .int .i64 (k.findE s.data.toList)]) ∧ Below w.heap.size w w' := by
  have B1 := (Below.refl w.heap.size w).alloc (Nat.le_refl _) (.cells #[.string s] 9)
  have hd1 := hd.later B1
  have hM := dmay_calls k B D w.heap.size 1 O [⟨s, hs⟩] _ hd1 rfl (by omega) (fun j hj => by
    have hj0 : j = 0 := by simp at hj; exact hj
    subst hj0
    exact (Blk.new w 9 #[.string s]).cell 0)
  rw [one_any] at hM
  have hE : k.findE s.data.toList = if k.may (dName s.data.toList) = 0 then (if (k.dir s.data.toList).isSome then 0 else 4) else k.may (dName s.data.toList) := rfl
  have hF : k.findF s.data.toList = if k.may (dName s.data.toList) = 0 then k.dir s.data.toList else none := rfl
  have hm1 : k.may (dName s.data.toList) = 0 ∨ k.may (dName s.data.toList) = 2 ∨ k.may (dName s.data.toList) = 6 := by
    unfold Dk.may; cases k.down <;> cases dName s.data.toList <;> simp
  have hM' := Lib.hid hM
  rw [hE, hF]
  clear hM hE hF
  rcases hm1 with hm | hm | hm
  · rw [if_pos hm, if_pos hm]
    cases hdir : k.dir s.data.toList
    · simp only [Option.isSome_none, Bool.false_eq_true, if_false]
      go_enter Tryz.func57, Tryz.ntmps57
      go_wp2_with fail
      refine hM'.out.mono ?_
      rw [hm]
      rintro e w1 ⟨rfl, q, rfl⟩
      obtain ⟨W, eW, hdW, BW⟩ : ∃ W, (w.alloc (.cells #[.string s] 9)).drewN q = W ∧ Disk W B D O k ∧ Below w.heap.size w W := ⟨_, rfl, hd1.later (bdrewN (Below.refl _ _) q), bdrewN B1 q⟩
      rw [eW]
      obtain ⟨bd, bs, n, va, rows, hdat, hn, rfl⟩ := hdW
      obtain ⟨X, h1, h2⟩ := hdat.dir
      have hrun := dir_run h1 h2 hs
      have qc := hdat.blk.cell
      clear eW hd hd1 hM' B1 hdat
      rw [hdir] at hrun
      unfold ptrV at hrun
      go_wp2
      go_ret2
      exact ⟨rfl, BW⟩
    · simp only [Option.isSome_some, if_true]
      go_enter Tryz.func57, Tryz.ntmps57
      go_wp2_with fail
      refine hM'.out.mono ?_
      rw [hm]
      rintro e w1 ⟨rfl, q, rfl⟩
      obtain ⟨W, eW, hdW, BW⟩ : ∃ W, (w.alloc (.cells #[.string s] 9)).drewN q = W ∧ Disk W B D O k ∧ Below w.heap.size w W := ⟨_, rfl, hd1.later (bdrewN (Below.refl _ _) q), bdrewN B1 q⟩
      rw [eW]
      obtain ⟨bd, bs, n, va, rows, hdat, hn, rfl⟩ := hdW
      obtain ⟨X, h1, h2⟩ := hdat.dir
      have hrun := dir_run h1 h2 hs
      have qc := hdat.blk.cell
      clear eW hd hd1 hM' B1 hdat
      rw [hdir] at hrun
      unfold ptrV at hrun
      go_wp2
      go_ret2
      exact ⟨rfl, BW⟩
  all_goals
    rw [if_neg (by omega), if_neg (by omega), hm]
    go_enter Tryz.func57, Tryz.ntmps57
    go_wp2_with fail
    refine hM'.out.mono ?_
    rw [hm]
    rintro e w1 ⟨rfl, q, rfl⟩
    go_wp2
    go_ret2
    exact ⟨rfl, bdrewN B1 q⟩
end Go.Proofs.YtabcdodjkfknlaaGreatDoor
namespace Go.Proofs.YtabcdodjkfknlaaGreatDoor
open Go.RowKit Go.Maps
def drop (f : List UInt8 → Option Nat) (s : List UInt8) : List UInt8 → Option Nat := fun s' => if s' = s then none else f s'
def lay (f : List UInt8 → Option Nat) (s : List UInt8) (p : Nat) : List UInt8 → Option Nat := fun s' => if s' = s then some p else f s'
/-- an act without a name to lay -/
def DAct.does (a : DAct) (f : List UInt8 → Option Nat) : List UInt8 → Option Nat :=
  match a.file with
  | none => if a.frm.toList.isEmpty then f else drop f a.frm.data.toList
  | some p => lay (if a.frm.toList.isEmpty then f else drop f a.frm.data.toList) a.to.data.toList p
structure DAct.ok (a : DAct) : Prop where
  frm : a.frm.size ≤ maxLen
  to : a.to.size ≤ maxLen
  file : a.file.isSome = !a.to.toList.isEmpty
def DAct.v (a : DAct) : Value := .agg #[.string a.frm, .string a.to, ptrV a.file]
set_option maxHeartbeats 2000000 in
set_option maxRecDepth 100000 in
theorem does_calls (a : DAct) (b n : Nat) (X : DataW Unit) (f : List UInt8 → Option Nat) (w : World) (ha : a.ok) (h1 : w.ownsMap Tryz.prog 9 ptrR b n X) (h2 : dirIs X f) (hn : n < maxLen) :
    Calls Tryz.prog 67 #[a.v, .map (some b)] w fun e w' => e = .returned (.tuple #[]) ∧ (∃ X', w'.ownsMap Tryz.prog 9 ptrR b (n + 1) X' ∧ dirIs X' (a.does f)) ∧ Keeps (fun k => k = b) w w' := by
  obtain ⟨frm, to, file⟩ := a
  obtain ⟨k1, k2, k3⟩ := ha
  simp only at k1 k2 k3
  have hbl := h1.lt
  have hm1 := h1.alloc (.cells #[.string frm, .string to, ptrV file] 116)
  have bx := Blk.new w 116 #[.string frm, .string to, ptrV file]
  have hk : Keeps (fun k => k = b) w (w.alloc (.cells #[.string frm, .string to, ptrV file] 116)) := (Keeps.refl _ w).alloc _
  cases hf : frm.toList.isEmpty
  · obtain ⟨w2, hr2, ⟨X2, m2, d2⟩, k2'⟩ := dir_del hm1 h2 k1 0
    have bx2 := bx.keeps k2' (by omega)
    have bc := bx2.cell
    have hk2 := hk.trans k2'
    cases ht : to.toList.isEmpty
    · rw [ht] at k3
      cases file with
      | none => simp at k3
      | some p =>
        have he : DAct.does ⟨frm, to, some p⟩ f = lay (drop f frm.data.toList) to.data.toList p := by unfold DAct.does; simp only [hf]; rfl
        obtain ⟨w3, hr3, m3, k3'⟩ := dir_put m2 d2 hn k2 p
        have hk3 := hk2.trans k3'
        rw [he]
        unfold DAct.v ptrV
        unfold ptrV at bc hr2
        clear he
        go_enter Tryz.func67, Tryz.ntmps67
        go_wp2
        go_end0
        exact ⟨rfl, m3, hk3⟩
    · rw [ht] at k3
      cases file with
      | some p => simp at k3
      | none =>
        have he : DAct.does ⟨frm, to, none⟩ f = drop f frm.data.toList := by unfold DAct.does; simp only [hf]; rfl
        rw [he]
        unfold DAct.v ptrV
        unfold ptrV at bc hr2
        clear he
        go_enter Tryz.func67, Tryz.ntmps67
        go_wp2
        go_end0
        exact ⟨rfl, ⟨X2, m2.mono (by omega), d2⟩, hk2⟩
  · have bc := bx.cell
    cases ht : to.toList.isEmpty
    · rw [ht] at k3
      cases file with
      | none => simp at k3
      | some p =>
        have he : DAct.does ⟨frm, to, some p⟩ f = lay f to.data.toList p := by unfold DAct.does; simp only [hf]; rfl
        obtain ⟨w3, hr3, m3, k3'⟩ := dir_put hm1 h2 hn k2 p
        have hk3 := hk.trans k3'
        rw [he]
        unfold DAct.v ptrV
        unfold ptrV at bc hr3
        clear he bc
        go_enter Tryz.func67, Tryz.ntmps67
        go_wp2
        go_end0
        exact ⟨rfl, m3, hk3⟩
    · rw [ht] at k3
      cases file with
      | some p => simp at k3
      | none =>
        have he : DAct.does ⟨frm, to, none⟩ f = f := by unfold DAct.does; simp only [hf]; rfl
        rw [he]
        unfold DAct.v ptrV
        unfold ptrV at hm1 hk
        clear he bc
        go_enter Tryz.func67, Tryz.ntmps67
        go_wp2
        go_end0
        exact ⟨rfl, ⟨X, hm1.mono (by omega), h2⟩, hk⟩
end Go.Proofs.YtabcdodjkfknlaaGreatDoor
