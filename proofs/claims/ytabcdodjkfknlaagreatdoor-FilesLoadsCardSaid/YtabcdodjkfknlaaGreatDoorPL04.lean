/- Contracts of the Go library on sorted keys of a map, laid at this translation by a program of the kit, for a disk's directory. Walk: the program's disk: the names of a directory in order; List. How a slice of structs lies in memory. Walk: the program's disk: what Crash asks of the bytes that say how much is kept. The program's disk: what Crash does, in plain words and in memory. A law of one's own for a statement that draws its order: one fact is kept, whichever operation comes next; each operation is looked at once. A law of one's own for a statement that draws its order: each operation gives its own value, whatever the order; the last one waits for all; each is looked at once, at the frame that holds all values. Walk: the program's disk: Crash. A disk that lies behind a world: the calls on it, a world at a time. The document's disk, in plain words: names in order, files by number. -/
import Derived.Test.YtabcdodjkfknlaaGreatDoorPL03
import Derived.Test.YtabcdodjkfknlaaGreatDoorPL01
import Derived.Orders
import Derived.WalkKit
import Derived.StillTail
import Derived.BigQuiet
import Derived.BigRegion
import Derived.Deep.RegionHeld3
import Derived.Laws.BytesArg
namespace Go.Proofs
open Go.Shelf
def Tryz.keys49_ren : Go.Shelf.Ren := ⟨fun | 7 => 65 | 10 => 113 | n => n, fun | 23 => 79 | 26 => 9 | 3 => 97 | 28 => 112 | 0 => 0 | 27 => 111 | 33 => 124 | 4 => 4 | n => n, fun | n => n⟩
theorem Tryz.keys49 : Go.Proofs.SlLaysZ.n7 Tryz.prog Tryz.keys49_ren := {
  mixed := by kernel_rfl
  f7 := ⟨Tryz.f65.name, by decide, Tryz.func65.trans (congrArg some (by kernel_rfl))⟩
  f10 := ⟨Tryz.f113.name, by decide, Tryz.func113.trans (congrArg some (by kernel_rfl))⟩
  t0 := Tryz.underlying0
  a0 := Tryz.isAgg0
  z0 := Tryz.sizeOf0
  v0 := Tryz.zeroValue0
  t4 := Tryz.underlying4
  a4 := Tryz.isAgg4
  z4 := Tryz.sizeOf4
  v4 := Tryz.zeroValue4
  t23 := Tryz.underlying79
  a23 := Tryz.isAgg79
  z23 := Tryz.sizeOf79
  v23 := Tryz.zeroValue79
  t26 := Tryz.underlying9
  a26 := Tryz.isAgg9
  z26 := Tryz.sizeOf9
  v26 := Tryz.zeroValue9
  t27 := Tryz.underlying111
  a27 := Tryz.isAgg111
  z27 := Tryz.sizeOf111
  v27 := Tryz.zeroValue111
  t28 := Tryz.underlying112
  a28 := Tryz.isAgg112
  z28 := Tryz.sizeOf112
  v28 := Tryz.zeroValue112
  t33 := Tryz.underlying124
  a33 := Tryz.isAgg124
  z33 := Tryz.sizeOf124
  v33 := Tryz.zeroValue124 }
end Go.Proofs
namespace Go.Proofs
open Go.RowKit Go.Maps Go.Sort Go.Shelf
theorem Tryz.maps_Keys_d (mb : Option Nat) (W : World) : CallsIn Fence.wide 5 Tryz.prog 65 #[.map mb] W fun e w' => e = .returned (.func (.func 113) #[] #[.pointer (some ⟨W.heap.size, 0, none⟩)]) ∧ w' = W.alloc (.cells #[.map mb] 79) :=
  AnyZ.keys_in Tryz.keys49 Fence.wide 5 trivial rfl mb W
set_option maxHeartbeats 1000000 in
theorem Tryz.sorted_keys_d {H : Type} (b nn : Nat) (D0 : DataW H) (R : Value → Option (DataW H × List MemPlace)) (w : World) (hown : w.ownsMap Tryz.prog 9 R b nn D0) (hmax : Maps.size D0 ≤ maxLen) (hbytes : Maps.size D0 * 16 ≤ 140737488355328) :
    CallsIn Fence.wide 5 Tryz.prog 64 #[.func (.func 113) #[] #[.pointer (some ⟨w.heap.size, 0, none⟩)]] (w.alloc (.cells #[.map (some b)] 79)) fun e w' => ∃ (v : Value) (ss : List (List UInt8)), e = .returned v ∧ ss.Perm (strKeys D0) ∧
      w'.ownsRow (w.alloc (.cells #[.map (some b)] 79)).heap.size 9 1 v ss.length ((ss.mergeSort (fun x y => decide (x ≤ y))).map encStr) ∧ (v = .slice none 0 0 ↔ ss = []) ∧ Below (w.alloc (.cells #[.map (some b)] 79)).heap.size (w.alloc (.cells #[.map (some b)] 79)) w' := by
  have hbl := hown.lt
  have hseq : SeqGives Fence.wide 2 Tryz.prog 113 #[.pointer (some ⟨w.heap.size, 0, none⟩)] encStr (fun ss => ss.Perm (strKeys D0)) (Maps.size D0) (w.alloc (.cells #[.map (some b)] 79)) :=
    AnyZ.keys_gives (ρ := Tryz.keys49_ren) { Tryz.keys49 with } Fence.wide _ trivial rfl (by omega) w.heap.size b nn D0 _ (by simp) (by simp) (by
      obtain ⟨es, clock, hb, Ft, hs, hD⟩ := hown
      exact ⟨es, clock, (Below.heap_alloc _ _ b hbl).trans hb, Ft, hs, hD⟩)
  exact AnyZ.sorted_in Tryz.sorted44 Fence.wide 5 trivial trivial trivial trivial rfl (by omega) (Tryz.sorts44 _) (enters_of Tryz.func112 (by kernel_rfl) rfl) 113 #[.pointer (some ⟨w.heap.size, 0, none⟩)] trivial (enters_of Tryz.func113 (by kernel_rfl) rfl) _ _ hmax hbytes _ hseq
end Go.Proofs
namespace Go.Proofs.YtabcdodjkfknlaaGreatDoor
open Go.RowKit Go.Maps Go.Shelf Go.Sort
/-- the names of a directory, in order -/
structure Names (f : List UInt8 → Option Nat) (ns : List (List UInt8)) : Prop where
  sorted : ns.Pairwise (fun x y => x < y)
  mem : ∀ x, x ∈ ns ↔ (f x).isSome = true
theorem Names.nodup {f : List UInt8 → Option Nat} {ns : List (List UInt8)} (h : Names f ns) : ns.Nodup := h.sorted.imp (fun {a b} h e => by subst e; exact absurd h (List.lt_irrefl a))
theorem Names.sort {f : List UInt8 → Option Nat} {ns ss : List (List UInt8)} (h : Names f ns) (hp : ss.Perm ns) : ss.mergeSort (fun x y => decide (x ≤ y)) = ns := by
  have h3 : ss.mergeSort leB = ns.mergeSort leB := mergeSort_of_perm hp
  have h4 : ns.mergeSort leB = ns := List.mergeSort_of_pairwise (h.sorted.imp (fun {a b} h => by simp only [leB, decide_eq_true_eq]; exact List.le_of_lt h))
  exact h3.trans h4
theorem Names.unique {f : List UInt8 → Option Nat} {ns ns' : List (List UInt8)} (h : Names f ns) (h' : Names f ns') : ns = ns' := by
  have hp : ns.Perm ns' := (List.perm_ext_iff_of_nodup h.nodup h'.nodup).2 fun x => by rw [h.mem, h'.mem]
  have h1 := h.sort (List.Perm.refl ns)
  have h2 := h'.sort hp
  rw [h1] at h2
  exact h2
theorem dir_names {w : World} {b n : Nat} {X : DataW Unit} {f : List UInt8 → Option Nat} (h1 : w.ownsMap Tryz.prog 9 ptrR b n X) (h2 : dirIs X f) : ∃ ns, Names f ns ∧ (strKeys X).Perm ns ∧ ns.length ≤ n ∧ ∀ x ∈ ns, x.length ≤ maxLen := by
  obtain ⟨es, hD, hpw, _⟩ := h1.entries dstr_keyed
  obtain ⟨es', hD', hko⟩ := h1.keysOf
  obtain rfl : es = es' := by rw [hD] at hD'; simpa using hD'
  have hle := strKeys_le h1 Tryz.underlying9
  have hsz := h1.size_le
  have hk : ∀ p ∈ es, ∃ x, p.1 = .string x := fun p hp => by obtain ⟨v, hv⟩ := hko p hp; obtain ⟨x, _, hx, _⟩ := Maps.keyOf_str Tryz.underlying9 hv; exact ⟨x, hx⟩
  subst hD
  have hnd : (strKeys (.map es)).Nodup := by
    show (es.map fun p => strOf p.1).Nodup
    refine List.pairwise_map.2 (hpw.imp_of_mem fun {p q} hp' hq' hne e => hne ?_)
    obtain ⟨a, ha⟩ := hk p hp'
    obtain ⟨b, hb⟩ := hk q hq'
    rw [ha, hb] at e ⊢
    exact congrArg _ e
  have hmem : ∀ x, x ∈ strKeys (.map es) ↔ (f x).isSome = true := by
    intro x
    rw [← (h2 x).1, has_eq, List.any_eq_true]
    show x ∈ (es.map fun p => strOf p.1) ↔ _
    rw [List.mem_map]
    constructor
    · rintro ⟨p, hp', rfl⟩
      obtain ⟨a, ha⟩ := hk p hp'
      exact ⟨p, hp', by rw [ha]; simp [Lit.sameKey, strOf]⟩
    · rintro ⟨p, hp', hs⟩
      obtain ⟨a, ha⟩ := hk p hp'
      rw [ha] at hs
      exact ⟨p, hp', by rw [ha]; simpa [Lit.sameKey, strOf] using hs⟩
  have hperm := List.mergeSort_perm (strKeys (.map es)) leB
  have tr : ∀ a b c : List UInt8, leB a b = true → leB b c = true → leB a c = true := fun a b c h1 h2 => by simp only [leB, decide_eq_true_eq] at *; exact List.le_trans h1 h2
  have to : ∀ a b : List UInt8, (leB a b || leB b a) = true := fun a b => by simp only [leB, Bool.or_eq_true, decide_eq_true_eq]; exact List.le_total a b
  have hpw2 := List.pairwise_mergeSort tr to (strKeys (.map es))
  have hnd2 : ((strKeys (.map es)).mergeSort leB).Nodup := hperm.nodup_iff.2 hnd
  refine ⟨(strKeys (.map es)).mergeSort leB, ⟨?_, fun x => (hperm.mem_iff).trans (hmem x)⟩, hperm.symm, ?_, fun x hx => hle x (hperm.mem_iff.1 hx)⟩
  · refine (hpw2.and hnd2).imp (fun {a b} h => ?_)
    have h1 : a ≤ b := by simpa [leB] using h.1
    rcases Classical.em (a < b) with h3 | h3
    · exact h3
    · exact absurd (List.le_antisymm h1 (List.not_lt.1 h3)) h.2
  · rw [hperm.length_eq]
    show (es.map fun p => strOf p.1).length ≤ n
    rw [List.length_map]
    exact hsz
/-- the keys of a directory in order, as the two calls give them -/
theorem sorted_calls {w : World} {b n : Nat} {X : DataW Unit} {f : List UInt8 → Option Nat} (h1 : w.ownsMap Tryz.prog 9 ptrR b n X) (h2 : dirIs X f) (hn : n ≤ 100000) :
    ∃ ns, Names f ns ∧ ns.length ≤ n ∧ (∀ x ∈ ns, x.length ≤ maxLen) ∧
    Calls Tryz.prog 64 #[.func (.func 113) #[] #[.pointer (some ⟨w.heap.size, 0, none⟩)]] (w.alloc (.cells #[.map (some b)] 79)) fun e w' => ∃ v, e = .returned v ∧ w'.ownsRow w.heap.size 9 1 v ns.length (ns.map encStr) ∧ Below w.heap.size w w' := by
  obtain ⟨ns, hN, hP, hl, hm⟩ := dir_names h1 h2
  have hsz := h1.size_le
  refine ⟨ns, hN, hl, hm, ?_⟩
  refine ((callsIn_wide (n := 5)).1 (Tryz.sorted_keys_d b n X ptrR w h1 (by unfold maxLen; omega) (by omega))).mono ?_
  rintro e w' ⟨v, ss, rfl, hS, hrow, hnil, hb⟩
  have hp2 := hS.trans hP
  rw [hN.sort hp2, hp2.length_eq] at hrow
  exact ⟨v, rfl, ownsRow_base_a hrow (by simp), ((Below.refl _ w).alloc (Nat.le_refl _) _).trans (hb.mono (by simp))⟩
theorem keys_calls (b : Nat) (w : World) : Calls Tryz.prog 65 #[.map (some b)] w fun e w' => e = .returned (.func (.func 113) #[] #[.pointer (some ⟨w.heap.size, 0, none⟩)]) ∧ w' = w.alloc (.cells #[.map (some b)] 79) :=
  (callsIn_wide (n := 5)).1 (Tryz.maps_Keys_d (some b) w)
def ListPost (w : World) (f : List UInt8 → Option Nat) (e : Ending) (w' : World) : Prop := ∃ v ns, e = .returned v ∧ Names f ns ∧ ns.length ≤ 100000 ∧ (∀ x ∈ ns, x.length ≤ maxLen) ∧ w'.ownsRow w.heap.size 9 1 v ns.length (ns.map encStr) ∧ Below w.heap.size w w'
def Dk.list (k : Dk) : List UInt8 → Option Nat := if k.down then fun _ => none else k.dir
set_option maxHeartbeats 2000000 in
set_option maxRecDepth 100000 in
theorem list_calls (k : Dk) (B D : Nat) (O : Nat → Prop) (w : World) (hd : Disk w B D O k) (hr : k.room ≤ 4000) :
    Calls Tryz.prog 24 #[.pointer (some ⟨D, 0, none⟩)] w (ListPost w k.list) := by
  have hL : k.list = if k.down then fun _ => none else k.dir := rfl
  rw [hL]
  clear hL
  obtain ⟨bd, bs, n, va, rows, hdat, hn, rfl⟩ := hd
  obtain ⟨X, h1, h2⟩ := hdat.dir
  have qc := hdat.blk.cell
  cases hdn : k.down
  · rw [hdn] at qc
    simp only [Bool.false_eq_true, if_false]
    obtain ⟨ns, hN, hl, hm, hS⟩ := sorted_calls h1 h2 (by omega)
    have hN' := Lib.hid hN
    have hm' := Lib.hid hm
    have hS' := Lib.hid hS
    have hK' := Lib.hid (keys_calls bd w)
    have hl2 : ns.length ≤ 100000 := by omega
    clear hN hm hS h1 h2 hdat hn hl
    go_enter Tryz.func24, Tryz.ntmps24
    go_wp2_with fail
    refine hK'.out.mono ?_
    rintro e w1 ⟨rfl, rfl⟩
    go_wp2_with fail
    refine hS'.out.mono ?_
    rintro e w2 ⟨v, rfl, r1, r2⟩
    have r1' := Lib.hid r1
    clear r1
    go_wp2
    go_ret
    exact ⟨v, ns, rfl, hN'.out, hl2, hm'.out, r1'.out, r2⟩
  · rw [hdn] at qc
    simp only [if_true]
    clear h1 h2 hdat hn
    go_enter Tryz.func24, Tryz.ntmps24
    go_wp2
    go_ret
    exact ⟨_, [], rfl, ⟨List.Pairwise.nil, fun x => by simp⟩, by simp, (by simp), World.ownsRow_nil _ _ _ _, Below.refl _ _⟩
end Go.Proofs.YtabcdodjkfknlaaGreatDoor
namespace Go.Proofs.YtabcdodjkfknlaaGreatDoor
open Go.RowKit
/-- the cells of each element of l lie one behind the other from p on -/
def holdsL {α : Type} (w : World) (p : Option Addr) (sz : Nat) (C : α → List Value) (l : List α) : Prop := ∀ k x, l[k]? = some x → ∃ a : Addr, p = some a ∧ a.block < w.heap.size ∧ ∀ j u, (C x)[j]? = some u → w.cell? ((a.add (k * sz)).add j) = some u
theorem all_not {α : Type} {l : List α} {P : α → Bool} {k : Nat} {x : α} (hx : l[k]? = some x) (hp : P x = false) : l.all P = false := by
  rw [Bool.eq_false_iff]
  intro ha
  rw [List.all_eq_true] at ha
  have := ha x (List.mem_of_getElem? hx)
  rw [hp] at this
  cases this
end Go.Proofs.YtabcdodjkfknlaaGreatDoor
namespace Go.Proofs.YtabcdodjkfknlaaGreatDoor
open Go.RowKit Go.Maps Go.Shelf
/-- the next byte says how much of n is kept -/
def nextN (keep : List UInt8) (n : Nat) : Nat := match keep with
  | [] => 0
  | b :: _ => b.toNat % (n + 1)
/-- the bytes that are left, in their own cell -/
def KeptAt (w : World) (K : Nat) (P : Nat → Prop) (keep : List UInt8) : Prop := ∃ v, Blk w K 43 #[v] ∧ Bytes w v keep ∧ ∀ g, v.ownBlock = some g → keep ≠ [] → P g
end Go.Proofs.YtabcdodjkfknlaaGreatDoor
namespace Go.Proofs.YtabcdodjkfknlaaGreatDoor
open Go.RowKit Go.Maps Go.Shelf Go.Sort
def Dk.laid (k : Dk) (l : List DAct) : Dk := { k with safe := l.foldl (fun d a => a.does d) k.safe, slots := k.slots + l.length }
def Dk.cut (k : Dk) (keep : List UInt8) (s : List UInt8) : Dk :=
  { k.upd ((k.safe s).getD 0) ⟨(k.got ((k.safe s).getD 0)).data.take ((k.got ((k.safe s).getD 0)).safe + nextN keep ((k.got ((k.safe s).getD 0)).data.length - (k.got ((k.safe s).getD 0)).safe)), (k.got ((k.safe s).getD 0)).safe + nextN keep ((k.got ((k.safe s).getD 0)).data.length - (k.got ((k.safe s).getD 0)).safe)⟩ with
    used := k.used + ((k.got ((k.safe s).getD 0)).safe + nextN keep ((k.got ((k.safe s).getD 0)).data.length - (k.got ((k.safe s).getD 0)).safe) : Nat) }
def Dk.cuts (k : Dk) (keep : List UInt8) : List (List UInt8) → Dk
  | [] => k
  | s :: ns => (k.cut keep s).cuts keep.tail ns
/-- all acts are laid; nothing is counted yet -/
def Dk.zero (k : Dk) (r : Nat) : Dk := { k with used := 0, room := r }
def Dk.rise (k : Dk) (r : Nat) : Dk := { k with dir := k.safe, acts := [], down := false, fuse := -1, room := r }
def Dk.kept (k : Dk) (keep : List UInt8) : Dk := (k.laid (k.acts.take (nextN keep k.acts.length))).zero (k.room + k.room)
def Dk.crashed (k : Dk) (keep : List UInt8) (ns : List (List UInt8)) : Dk := ((k.kept keep).cuts keep.tail ns).rise k.room
/-- what is so of every disk within Crash -/
structure Dk.mid (k : Dk) : Prop where
  slive : ∀ s f, k.safe s = some f → (k.file f).isSome = true
  small : ∀ f x, k.file f = some x → x.data.length ≤ 1000000000
end Go.Proofs.YtabcdodjkfknlaaGreatDoor
namespace Go.Proofs.YtabcdodjkfknlaaGreatDoor
open Go.RowKit
variable {P : Program} {ops : Array Oper} {Q : Exit → Act → World → Prop}

def unlisted (n : Nat) (listed : Array Bool) : Nat := (List.range n).countP fun i => !listed.getD i true
def onNormal (K : Act → World → Prop) (Q : Exit → Act → World → Prop) : Exit → Act → World → Prop
  | .normal, a, w => K a w
  | e, a, w => Q e a w
theorem upon_onNormal {o : Oper} {a : Act} {K next : Act → World → Prop} {r : Result Next} (h : o.upon P a next (onNormal K Q) r) : o.upon P a next Q r := by
  cases r with
  | ok n w' =>
    cases n <;> simp only [Oper.upon] at h ⊢ <;>
      first
        | exact h
        | exact Calls.mono h (fun e w'' he => by cases e <;> exact he)
  | halt x w' => cases x <;> simp only [Oper.upon] at h ⊢ <;> exact h
theorem wpOp_one {i : Nat} {o : Oper} {K : Act → World → Prop} {a : Act} {w : World} (hi : ops[i]? = some o) (h : wpList P ops (onNormal K Q) [o] a w) : wpOp P ops Q i K a w := by
  unfold wpList at h
  unfold wpOp
  simp only [hi]
  split
  · rename_i hw
    rw [if_pos hw] at h
    rcases h with h | ⟨h1, h2⟩
    · exact .inl (upon_onNormal h)
    · exact .inr ⟨h1, h2⟩
  · rename_i hw
    rw [if_neg hw] at h
    exact h
end Go.Proofs.YtabcdodjkfknlaaGreatDoor
namespace Go.Proofs.YtabcdodjkfknlaaGreatDoor
open Go.RowKit
variable {P : Program} {ops : Array Oper} {Q : Exit → Act → World → Prop}
def opsAll (ops : Array Oper) (p : Nat → Oper → Bool) : Bool := (List.range ops.size).all fun i => match ops[i]? with
  | some o => p i o
  | none => true
def hasEdge (o : Oper) (j : Nat) : Bool := o.after.any fun e => Region.binds .any e && e.on == j
/-- no guards; no slot is written twice; who reads a slot waits for who writes it -/
def canonB (ops : Array Oper) : Bool := opsAll ops fun i o => o.guard.isNone && opsAll ops (fun j o' => decide (j = i) || o.dst.isNone || o'.dst != o.dst) && o.op.operands.all (fun x => match x with
  | .tmp d => opsAll ops fun j o' => o'.dst != some d || hasEdge o j
  | _ => true)
def wiped (l : List Oper) (a : Act) : Act := l.foldl (fun a o => a.put o.dst undef) a
abbrev noExit : Exit → Act → World → Prop := fun _ _ _ => False
/-- what is so amid the region -/
structure Amid (ops : Array Oper) (n : Nat) (full : Act) (W : Array Bool → World → Prop) (Q : Exit → Act → World → Prop) (l : Array Bool) (a : Act) (w : World) : Prop where
  size : a.tmps.size = full.tmps.size
  defers : a.defers = full.defers
  some_ : ∀ (j : Nat) (o : Oper) (d : Nat), ops[j]? = some o → o.dst = some d → l.getD j false = true → a.tmps[d]? = full.tmps[d]?
  none_ : ∀ d : Nat, (∀ (j : Nat) (o : Oper), ops[j]? = some o → o.dst ≠ some d) → a.tmps[d]? = full.tmps[d]?
  closed : ∀ (j : Nat) (o : Oper), ops[j]? = some o → l.getD j false = true → ∀ e ∈ o.after, Region.binds .any e = true → l.getD e.on false = true
  amid : l.getD n false = false → W l w
  done : l.getD n false = true → Q .normal full w
end Go.Proofs.YtabcdodjkfknlaaGreatDoor
namespace Go.Proofs.YtabcdodjkfknlaaGreatDoor
open Go.RowKit Go.Maps Go.Shelf Go.Sort
def CrashPost (w : World) (B D : Nat) (O : Nat → Prop) (k : Dk) (keep : List UInt8) (e : Ending) (w' : World) : Prop := e = .returned (.tuple #[]) ∧ ∃ ns, Names (k.kept keep).safe ns ∧ ns.length ≤ k.room ∧ Goes w B D O (k.crashed keep ns) w'
/-- amid the cut of a file: the call of next has come, or not -/
structure CutW (wr : World) (K : Nat) (P : Nat → Prop) (kt : List UInt8) (l : Array Bool) (w' : World) : Prop where
  ahead : l.getD 20 false = false → w' = wr.drew
  done : l.getD 20 false = true → KeptAt w' K P kt
  keeps : Keeps (fun j => j = K) wr w'
  size : w'.heap.size = wr.heap.size
end Go.Proofs.YtabcdodjkfknlaaGreatDoor
namespace Go.Proofs.YtabcdodjkfknlaaGreatDoor
open Go.RowKit Go.Maps Go.Shelf
theorem Disk.sound {w : World} {B D : Nat} {O : Nat → Prop} {k : Dk} (h : Disk w B D O k) : (∀ f x, k.file f = some x → x.safe ≤ x.data.length) ∧ ∀ f, w.heap.size ≤ f → k.file f = none := by
  obtain ⟨bd, bs, n, va, rows, hd, hn, rfl⟩ := h
  refine ⟨fun f x hf => (hd.file f x hf).2.2.2, fun f hf => ?_⟩
  cases hx : k.file f with
  | none => rfl
  | some x => have := (hd.file f x hx).2.1.lt; omega
/-- string(v) -/
theorem bytes_string {w : World} {v : Value} {l : List UInt8} (h : Bytes w v l) : (convert 43 9 v).run Tryz.prog w = .ok (.string ⟨l.toArray⟩) w := by
  rcases h with (⟨rfl, rfl⟩ | ⟨g, o, c, rfl, hc, h⟩) | ⟨a, c, rfl, rfl⟩
  · have := run_convert_bytes_nil (P := Tryz.prog) (w := w) 43 5 Tryz.underlying43 Tryz.underlying5 0 0 9 Tryz.underlying9
    exact this
  · have := run_convert_bytes_arg (P := Tryz.prog) (w := w) 43 5 Tryz.underlying43 Tryz.underlying5 g o l.length c (l.map fun x => (x.toNat : Int)) (by simp) (fun i hi => by
      obtain ⟨x, hx⟩ : ∃ x, l[i]? = some x := ⟨_, List.getElem?_eq_getElem hi⟩
      rw [h i x hx]
      simp [List.getD, hx]) 9 Tryz.underlying9
    rw [this]
    refine congrArg (fun s => Result.ok (Value.string s) w) ?_
    apply ByteArray.ext
    apply Array.toList_inj.1
    rw [strOfNums_data, List.map_map]
    show _ = l
    conv => rhs; rw [← List.map_id l]
    apply List.map_congr_left
    intro x _
    simp
  · exact run_convert_bytes_back w 43 9 5 a c [] Tryz.underlying43 Tryz.underlying5 Tryz.underlying9 (fun j hj => absurd hj (Nat.not_lt_zero _))
/-- a disk lies at block D, its blocks all behind the world w0 -/
def Has (w0 w : World) (D : Nat) (k : Dk) : Prop := k.ok ∧ Below w0.heap.size w0 w ∧ ∃ O, Disk w w0.heap.size D O k
section
variable {w0 w w1 w' : World} {D : Nat} {k k' : Dk}
theorem Has.below (h : Has w0 w D k) : Below w0.heap.size w0 w := h.2.1
theorem Has.later (h : Has w0 w D k) (hb : Below w.heap.size w w1) : Has w0 w1 D k := by
  obtain ⟨h1, h2, O, h3⟩ := h
  exact ⟨h1, h2.trans (hb.mono h2.size), O, h3.later hb⟩
theorem Dk.new_ok (cap : Int) : (Dk.new cap).ok :=
  ⟨by show (min (max cap 0) 16777216).toNat ≤ 16777216; omega, ⟨by show (-1 : Int) ≤ -1; omega, by show (-1 : Int) < _; omega⟩, ⟨by show (-((0 : Nat) * 1073741824 : Int)) ≤ 0; decide, by show (0 : Int) ≤ (0 : Nat) * 1073741824; decide⟩, fun _ _ h => (by cases h), fun _ _ h => (by cases h), fun _ h => (by cases h), fun _ _ h => (by cases h)⟩
theorem new_has (cap : Int) (w : World) : Calls Tryz.prog 17 #[.int .i64 cap] w fun e w' => e = .returned (.pointer (some ⟨w.heap.size + 2, 0, none⟩)) ∧ Has w w' (w.heap.size + 2) (Dk.new cap) :=
  (dnew_calls cap w).mono fun _ _ ⟨h1, h2, h3⟩ => ⟨h1, Dk.new_ok cap, h3, h2⟩
theorem read_has (h : Has w0 w D k) (s : ByteArray) (hr : k.room ≤ 4000) (hs : s.size ≤ maxLen) : Calls Tryz.prog 59 #[.pointer (some ⟨D, 0, none⟩), .string s] w (ReadPost w (k.findE s.data.toList) (k.readB s.data.toList)) := by
  obtain ⟨h1, h2, O, h3⟩ := h
  exact read_calls k _ D O s w h3 h1 hr hs
end
end Go.Proofs.YtabcdodjkfknlaaGreatDoor
namespace Go.Proofs.YtabcdodjkfknlaaGreatDoor
abbrev RDir := List (List UInt8 × Nat)
structure RAct where
  frm : List UInt8
  to : List UInt8
  file : Nat
structure RD where
  cap : Nat
  down : Bool
  left : Int
  files : List File
  dir : RDir
  safe : RDir
  acts : List RAct
def rfind : RDir → List UInt8 → Option Nat
  | [], _ => none
  | n :: d, s => if n.1 = s then some n.2 else rfind d s
def rput (s : List UInt8) (f : Nat) : Bool → RDir → RDir
  | dn, [] => if dn then [] else [(s, f)]
  | dn, n :: d => (if !dn && decide (s < n.1) then [(s, f)] else []) ++ ((if n.1 = s then [] else [n]) ++ rput s f (dn || decide (s < n.1)) d)
def rset (d : RDir) (s : List UInt8) : Option Nat → RDir
  | none => rput s 0 true d
  | some i => rput s i false d
def rdone (d : RDir) (a : RAct) : RDir :=
  if a.to = [] then (if a.frm = [] then d else rset d a.frm none) else rset (if a.frm = [] then d else rset d a.frm none) a.to (some a.file)
def RSorted (d : RDir) : Prop := d.Pairwise fun a b => a.1 < b.1
def rlo (d : RDir) (s : List UInt8) : RDir := d.filter fun n => decide (n.1 < s)
def rhi (d : RDir) (s : List UInt8) : RDir := d.filter fun n => decide (s < n.1)
def rmid (d : RDir) (s : List UInt8) : RDir := match rfind d s with
  | none => []
  | some i => [(s, i)]
theorem lt_irr (s : List UInt8) : ¬ s < s := List.lt_irrefl s
theorem lt_asym {s t : List UInt8} (h : s < t) : ¬ t < s := fun h' => lt_irr s (List.lt_trans h h')
theorem lt_tri (s t : List UInt8) : s < t ∨ s = t ∨ t < s := by
  rcases Classical.em (s < t) with h | h
  · exact .inl h
  · rcases Classical.em (t < s) with h' | h'
    · exact .inr (.inr h')
    · exact .inr (.inl (List.le_antisymm (List.not_lt.1 h') (List.not_lt.1 h)))
theorem rall_gt {n : List UInt8 × Nat} {d : RDir} (h : RSorted (n :: d)) : ∀ m ∈ d, n.1 < m.1 := (List.pairwise_cons.1 h).1
theorem rtail {n : List UInt8 × Nat} {d : RDir} (h : RSorted (n :: d)) : RSorted d := (List.pairwise_cons.1 h).2
theorem rhi_all {d : RDir} {s : List UInt8} (h : ∀ m ∈ d, s < m.1) : rlo d s = [] ∧ rhi d s = d ∧ rfind d s = none := by
  induction d with
  | nil => exact ⟨rfl, rfl, rfl⟩
  | cons n d ih =>
    obtain ⟨h1, h2, h3⟩ := ih fun m hm => h m (List.mem_cons_of_mem _ hm)
    have hn := h n List.mem_cons_self
    refine ⟨?_, ?_, ?_⟩
    · unfold rlo at *; rw [List.filter_cons, if_neg (by simpa using lt_asym hn)]; exact h1
    · unfold rhi at *; rw [List.filter_cons, if_pos (by simpa using hn), h2]
    · unfold rfind; rw [if_neg (fun e => by rw [e] at hn; exact lt_irr _ hn)]; exact h3
theorem rput_true (s : List UInt8) (f : Nat) : ∀ d : RDir, rput s f true d = d.filter fun n => decide (n.1 ≠ s)
  | [] => rfl
  | n :: d => by
    show [] ++ ((if n.1 = s then [] else [n]) ++ rput s f true d) = _
    rw [rput_true s f d, List.filter_cons]
    by_cases e : n.1 = s
    · rw [if_pos e, if_neg (by simpa using e)]; rfl
    · rw [if_neg e, if_pos (by simpa using e)]; rfl
/-- a directory falls into what stands ahead of a name, the name, what stands behind -/
theorem rsplit {d : RDir} (h : RSorted d) (s : List UInt8) : d = rlo d s ++ (rmid d s ++ rhi d s) := by
  induction d with
  | nil => rfl
  | cons n d ih =>
    have ih := ih (rtail h)
    rcases lt_tri n.1 s with hl | he | hg
    · have e1 : rlo (n :: d) s = n :: rlo d s := by unfold rlo; rw [List.filter_cons, if_pos (by simpa using hl)]
      have e2 : rhi (n :: d) s = rhi d s := by unfold rhi; rw [List.filter_cons, if_neg (by simpa using lt_asym hl)]
      have e3 : rmid (n :: d) s = rmid d s := by unfold rmid; rw [show rfind (n :: d) s = rfind d s from if_neg (fun e => by rw [e] at hl; exact lt_irr _ hl)]
      rw [e1, e2, e3, List.cons_append, ← ih]
    · have ha := rhi_all (s := s) (by rw [← he]; exact rall_gt h)
      have e1 : rlo (n :: d) s = [] := by unfold rlo at ha ⊢; rw [List.filter_cons, if_neg (by rw [he]; simp)]; exact ha.1
      have e2 : rhi (n :: d) s = d := by unfold rhi at ha ⊢; rw [List.filter_cons, if_neg (by rw [he]; simp)]; exact ha.2.1
      have e3 : rmid (n :: d) s = [n] := by unfold rmid; rw [show rfind (n :: d) s = some n.2 from if_pos he, ← he]
      rw [e1, e2, e3]; rfl
    · have ha := rhi_all (d := n :: d) (s := s) (fun m hm => by
        rcases List.mem_cons.1 hm with rfl | hm
        · exact hg
        · exact List.lt_trans hg (rall_gt h m hm))
      rw [ha.1, ha.2.1]
      unfold rmid
      rw [ha.2.2]; rfl
theorem rput_true_eq {d : RDir} (h : RSorted d) (s : List UInt8) (f : Nat) : rput s f true d = rlo d s ++ rhi d s := by
  rw [rput_true]
  induction d with
  | nil => rfl
  | cons n d ih =>
    have ih := ih (rtail h)
    rcases lt_tri n.1 s with hl | he | hg
    · rw [List.filter_cons, if_pos (by simpa using fun e => by rw [e] at hl; exact lt_irr _ hl), ih]
      unfold rlo rhi
      rw [List.filter_cons, if_pos (by simpa using hl), List.filter_cons, if_neg (by simpa using lt_asym hl)]; rfl
    · rw [List.filter_cons, if_neg (by simpa using he), ih]
      unfold rlo rhi
      rw [List.filter_cons, if_neg (by rw [he]; simp), List.filter_cons, if_neg (by rw [he]; simp)]
    · rw [List.filter_cons, if_pos (by simpa using fun e => by rw [e] at hg; exact lt_irr _ hg), ih]
      have ha := rhi_all (d := d) (s := s) (fun m hm => List.lt_trans hg (rall_gt h m hm))
      rw [ha.1, ha.2.1]
      unfold rlo rhi at *
      rw [List.filter_cons, if_neg (by simpa using lt_asym hg), List.filter_cons, if_pos (by simpa using hg), ha.1, ha.2.1]; rfl
theorem rput_false_eq {d : RDir} (h : RSorted d) (s : List UInt8) (f : Nat) : rput s f false d = rlo d s ++ (s, f) :: rhi d s := by
  induction d with
  | nil => rfl
  | cons n d ih =>
    have ih := ih (rtail h)
    show (if !false && decide (s < n.1) then [(s, f)] else []) ++ ((if n.1 = s then [] else [n]) ++ rput s f (false || decide (s < n.1)) d) = _
    rw [Bool.not_false, Bool.true_and, Bool.false_or]
    rcases lt_tri n.1 s with hl | he | hg
    · rw [if_neg (by simpa using lt_asym hl), if_neg (fun e => by rw [e] at hl; exact lt_irr _ hl), decide_eq_false (lt_asym hl), ih]
      unfold rlo rhi
      rw [List.filter_cons, if_pos (by simpa using hl), List.filter_cons, if_neg (by simpa using lt_asym hl)]; rfl
    · rw [if_neg (by rw [he]; simp), if_pos he, decide_eq_false (by rw [he]; exact lt_irr s), ih]
      unfold rlo rhi
      rw [List.filter_cons, if_neg (by rw [he]; simp), List.filter_cons, if_neg (by rw [he]; simp)]; rfl
    · rw [if_pos (by simpa using hg), if_neg (fun e => by rw [e] at hg; exact lt_irr _ hg), decide_eq_true hg, rput_true_eq (rtail h)]
      have ha := rhi_all (d := d) (s := s) (fun m hm => List.lt_trans hg (rall_gt h m hm))
      rw [ha.1, ha.2.1]
      unfold rlo rhi at *
      rw [List.filter_cons, if_neg (by simpa using lt_asym hg), List.filter_cons, if_pos (by simpa using hg), ha.1, ha.2.1]; rfl
theorem rfind_append (a b : RDir) (s : List UInt8) : rfind (a ++ b) s = (rfind a s).or (rfind b s) := by
  induction a with
  | nil => rfl
  | cons n a ih =>
    show (if n.1 = s then some n.2 else rfind (a ++ b) s) = ((if n.1 = s then some n.2 else rfind a s)).or (rfind b s)
    by_cases e : n.1 = s
    · rw [if_pos e, if_pos e]; rfl
    · rw [if_neg e, if_neg e, ih]
theorem rfind_filter (p : List UInt8 → Bool) (d : RDir) (s : List UInt8) : rfind (d.filter fun n => p n.1) s = if p s then rfind d s else none := by
  induction d with
  | nil => simp [rfind]
  | cons n d ih =>
    rw [List.filter_cons]
    by_cases e : n.1 = s
    · cases hp : p n.1
      · rw [if_neg (by simp), ih, ← e, hp]; rfl
      · rw [if_pos rfl, ← e, hp]
        show (if n.1 = n.1 then some n.2 else _) = if true = true then (if n.1 = n.1 then some n.2 else _) else none
        rw [if_pos rfl, if_pos rfl, if_pos rfl]
    · have e2 : rfind (n :: d) s = rfind d s := if_neg e
      rw [e2]
      cases hp : p n.1
      · rw [if_neg (by simp), ih]
      · rw [if_pos rfl, ← ih]; exact if_neg e
theorem rfind_put {d : RDir} (h : RSorted d) (s : List UInt8) (f : Nat) (t : List UInt8) : rfind (rput s f false d) t = if t = s then some f else rfind d t := by
  rw [rput_false_eq h, rfind_append]
  unfold rlo rhi
  rw [rfind_filter (fun x => decide (x < s))]
  have e : ∀ l, rfind ((s, f) :: l) t = if s = t then some f else rfind l t := fun _ => rfl
  rw [e, rfind_filter (fun x => decide (s < x))]
  rcases lt_tri t s with hl | he | hg
  · have hne : t ≠ s := fun e => by rw [e] at hl; exact lt_irr _ hl
    rw [if_pos (by simpa using hl), if_neg hne, if_neg (Ne.symm hne), if_neg (by simpa using lt_asym hl)]
    cases rfind d t <;> rfl
  · subst he
    rw [if_neg (by simp), if_pos rfl, if_pos rfl]; rfl
  · have hne : t ≠ s := fun e => by rw [e] at hg; exact lt_irr _ hg
    rw [if_neg (by simpa using lt_asym hg), if_neg hne, if_neg (Ne.symm hne), if_pos (by simpa using hg)]; rfl
theorem rfind_del (d : RDir) (s : List UInt8) (t : List UInt8) : rfind (rput s 0 true d) t = if t = s then none else rfind d t := by
  rw [rput_true, rfind_filter (fun x => decide (x ≠ s))]
  by_cases e : t = s
  · rw [if_pos e, if_neg (by simpa using e)]
  · rw [if_neg e, if_pos (by simpa using e)]
theorem rlohi {d : RDir} (h : RSorted d) (s : List UInt8) : RSorted (rlo d s ++ rhi d s) := by
  unfold RSorted
  refine List.pairwise_append.2 ⟨h.filter _, h.filter _, fun a ha b hb => ?_⟩
  exact List.lt_trans (by simpa using (List.mem_filter.1 ha).2) (by simpa using (List.mem_filter.1 hb).2)
theorem rlomidhi {d : RDir} (h : RSorted d) (s : List UInt8) (f : Nat) : RSorted (rlo d s ++ (s, f) :: rhi d s) := by
  unfold RSorted
  refine List.pairwise_append.2 ⟨h.filter _, List.pairwise_cons.2 ⟨fun b hb => by simpa using (List.mem_filter.1 hb).2, h.filter _⟩, fun a ha b hb => ?_⟩
  have h1 : a.1 < s := by simpa using (List.mem_filter.1 ha).2
  rcases List.mem_cons.1 hb with rfl | hb
  · exact h1
  · exact List.lt_trans h1 (by simpa using (List.mem_filter.1 hb).2)
theorem rset_sorted {d : RDir} (h : RSorted d) (s : List UInt8) (f : Option Nat) : RSorted (rset d s f) := by
  cases f with
  | none => show RSorted (rput s 0 true d); rw [rput_true_eq h]; exact rlohi h s
  | some i => show RSorted (rput s i false d); rw [rput_false_eq h]; exact rlomidhi h s i
theorem rfind_set {d : RDir} (h : RSorted d) (s : List UInt8) (f : Option Nat) (t : List UInt8) : rfind (rset d s f) t = if t = s then f else rfind d t := by
  cases f with
  | none => exact rfind_del d s t
  | some i => exact rfind_put h s i t
theorem rdone_sorted {d : RDir} (h : RSorted d) (a : RAct) : RSorted (rdone d a) := by
  unfold rdone
  split <;> split
  · exact h
  · exact rset_sorted h _ _
  · exact rset_sorted h _ _
  · exact rset_sorted (rset_sorted h _ _) _ _
/-- the numbers of a directory's files -/
def rnums (d : RDir) : List Nat := d.map Prod.snd
theorem rmem_lo {d : RDir} {s : List UInt8} {n : List UInt8 × Nat} (h : n ∈ rlo d s) : n ∈ d := (List.mem_filter.1 h).1
theorem rmem_hi {d : RDir} {s : List UInt8} {n : List UInt8 × Nat} (h : n ∈ rhi d s) : n ∈ d := (List.mem_filter.1 h).1
theorem rfind_mem {d : RDir} {s : List UInt8} {i : Nat} (h : rfind d s = some i) : (s, i) ∈ d := by
  induction d with
  | nil => cases h
  | cons n d ih =>
    unfold rfind at h
    split at h
    · rename_i e
      obtain rfl := Option.some.inj h
      rw [← e]; exact List.mem_cons_self
    · exact List.mem_cons_of_mem _ (ih h)
theorem rmem_find {d : RDir} (hs : RSorted d) {n : List UInt8 × Nat} (h : n ∈ d) : rfind d n.1 = some n.2 := by
  induction d with
  | nil => cases h
  | cons m d ih =>
    unfold rfind
    rcases List.mem_cons.1 h with rfl | h'
    · rw [if_pos rfl]
    · have := rall_gt hs n h'
      rw [if_neg (fun e => by rw [e] at this; exact lt_irr _ this)]
      exact ih (rtail hs) h'
theorem rnums_del {d : RDir} (h : RSorted d) (s : List UInt8) : (rnums (rset d s none)).Perm (rnums (rlo d s) ++ rnums (rhi d s)) := by
  show (rnums (rput s 0 true d)).Perm _
  rw [rput_true_eq h]
  unfold rnums
  rw [List.map_append]
theorem rnums_put {d : RDir} (h : RSorted d) (s : List UInt8) (f : Nat) : (rnums (rset d s (some f))).Perm (f :: (rnums (rlo d s) ++ rnums (rhi d s))) := by
  show (rnums (rput s f false d)).Perm _
  rw [rput_false_eq h]
  unfold rnums
  rw [List.map_append, List.map_cons]
  exact List.perm_middle
theorem rnums_all {d : RDir} (h : RSorted d) (s : List UInt8) : (rnums d).Perm ((match rfind d s with | none => [] | some i => [i]) ++ (rnums (rlo d s) ++ rnums (rhi d s))) := by
  have e : rnums d = rnums (rlo d s) ++ (rnums (rmid d s) ++ rnums (rhi d s)) := by
    conv => lhs; rw [rsplit h s]
    unfold rnums
    rw [List.map_append, List.map_append]
  rw [e]
  unfold rmid
  cases rfind d s with
  | none => exact List.Perm.refl _
  | some i => exact List.perm_middle
theorem rnums_set_mem {d : RDir} (h : RSorted d) {s : List UInt8} {f : Option Nat} {i : Nat} (hi : i ∈ rnums (rset d s f)) : f = some i ∨ i ∈ rnums d := by
  have hsub : ∀ x, x ∈ rnums (rlo d s) ++ rnums (rhi d s) → x ∈ rnums d := fun x hx => by
    unfold rnums at hx
    rw [List.mem_append, List.mem_map, List.mem_map] at hx
    unfold rnums
    rcases hx with ⟨n, hn, e⟩ | ⟨n, hn, e⟩
    · exact List.mem_map.2 ⟨n, rmem_lo hn, e⟩
    · exact List.mem_map.2 ⟨n, rmem_hi hn, e⟩
  cases f with
  | none => exact .inr (hsub i ((rnums_del h s).mem_iff.1 hi))
  | some j =>
    rcases List.mem_cons.1 ((rnums_put h s j).mem_iff.1 hi) with rfl | hx
    · exact .inl rfl
    · exact .inr (hsub i hx)
/-- the sum of what the files of a directory have -/
def rsize (F : List File) (i : Nat) : Nat := (F.getD i ⟨[], 0⟩).data.length
def rsum (F : List File) (l : List Nat) : Nat := (l.map (rsize F)).sum
theorem rsum_perm {F : List File} {l l' : List Nat} (h : l.Perm l') : rsum F l = rsum F l' := (h.map _).sum_nat
theorem rsum_cons (F : List File) (i : Nat) (l : List Nat) : rsum F (i :: l) = rsize F i + rsum F l := by simp [rsum]
theorem rsum_append (F : List File) (l l' : List Nat) : rsum F (l ++ l') = rsum F l + rsum F l' := by simp [rsum]
end Go.Proofs.YtabcdodjkfknlaaGreatDoor
