/- Walk: the program's disk: the names of a directory in order; List. How a slice of structs lies in memory. Walk: the program's disk: what Crash asks of the bytes that say how much is kept. The program's disk: what Crash does, in plain words and in memory. A law of one's own for a statement that draws its order: one fact is kept, whichever operation comes next; each operation is looked at once. -/
import Derived.Test.YtabcdodjkfknlaaGreatDoorPN04
import Derived.Test.YtabcdodjkfknlaaGreatDoorPN01
import Derived.Orders
import Derived.WalkKit
namespace Go.Proofs.YtabcdodjkfknlaaGreatDoor
open Go.RowKit Go.Maps Go.Shelf Go.Sort
/-- the names of a directory, in order -/
structure Names (f : List UInt8 → Option Nat) (ns : List (List UInt8)) : Prop where
  sorted : ns.Pairwise (fun x y => x < y)
  mem : ∀ x, x ∈ ns ↔ (f x).isSome = true
theorem Names.nodup {f : List UInt8 → Option Nat} {ns : List (List UInt8)} (h : Names f ns) : ns.Nodup := h.sorted.imp (fun {a b} h e => by subst e; exact absurd h (List.lt_irrefl a))
theorem Names.sort {f : List UInt8 → Option Nat} {ns ss : List (List UInt8)} (h : Names f ns) (hp : ss.Perm ns) : ss.mergeSort (fun x y => decide (x ≤ y)) = ns := by
  have h3 : ss.mergeSort leB = ns.mergeSort leB := mergeSort_of_perm hp
  have h4 : ns.mergeSort leB = ns := List.mergeSort_of_pairwise (h.sorted.imp (fun {a b} h => by simp only [leB, decide_eq_true_eq]; exact List.le_of_lt h))
  exact h3.trans h4
theorem Names.unique {f : List UInt8 → Option Nat} {ns ns' : List (List UInt8)} (h : Names f ns) (h' : Names f ns') : ns = ns' := by
  have hp : ns.Perm ns' := (List.perm_ext_iff_of_nodup h.nodup h'.nodup).2 fun x => by rw [h.mem, h'.mem]
  have h1 := h.sort (List.Perm.refl ns)
  have h2 := h'.sort hp
  rw [h1] at h2
  exact h2
theorem dir_names {w : World} {b n : Nat} {X : DataW Unit} {f : List UInt8 → Option Nat} (h1 : w.ownsMap Tryz.prog 9 ptrR b n X) (h2 : dirIs X f) : ∃ ns, Names f ns ∧ (strKeys X).Perm ns ∧ ns.length ≤ n ∧ ∀ x ∈ ns, x.length ≤ maxLen := by
  obtain ⟨es, hD, hpw, _⟩ := h1.entries dstr_keyed
  obtain ⟨es', hD', hko⟩ := h1.keysOf
  obtain rfl : es = es' := by rw [hD] at hD'; simpa using hD'
  have hle := strKeys_le h1 Tryz.underlying9
  have hsz := h1.size_le
  have hk : ∀ p ∈ es, ∃ x, p.1 = .string x := fun p hp => by obtain ⟨v, hv⟩ := hko p hp; obtain ⟨x, _, hx, _⟩ := Maps.keyOf_str Tryz.underlying9 hv; exact ⟨x, hx⟩
  subst hD
  have hnd : (strKeys (.map es)).Nodup := by
    show (es.map fun p => strOf p.1).Nodup
    refine List.pairwise_map.2 (hpw.imp_of_mem fun {p q} hp' hq' hne e => hne ?_)
    obtain ⟨a, ha⟩ := hk p hp'
    obtain ⟨b, hb⟩ := hk q hq'
    rw [ha, hb] at e ⊢
    exact congrArg _ e
  have hmem : ∀ x, x ∈ strKeys (.map es) ↔ (f x).isSome = true := by
    intro x
    rw [← (h2 x).1, has_eq, List.any_eq_true]
    show x ∈ (es.map fun p => strOf p.1) ↔ _
    rw [List.mem_map]
    constructor
    · rintro ⟨p, hp', rfl⟩
      obtain ⟨a, ha⟩ := hk p hp'
      exact ⟨p, hp', by rw [ha]; simp [Lit.sameKey, strOf]⟩
    · rintro ⟨p, hp', hs⟩
      obtain ⟨a, ha⟩ := hk p hp'
      rw [ha] at hs
      exact ⟨p, hp', by rw [ha]; simpa [Lit.sameKey, strOf] using hs⟩
  have hperm := List.mergeSort_perm (strKeys (.map es)) leB
  have tr : ∀ a b c : List UInt8, leB a b = true → leB b c = true → leB a c = true := fun a b c h1 h2 => by simp only [leB, decide_eq_true_eq] at *; exact List.le_trans h1 h2
  have to : ∀ a b : List UInt8, (leB a b || leB b a) = true := fun a b => by simp only [leB, Bool.or_eq_true, decide_eq_true_eq]; exact List.le_total a b
  have hpw2 := List.pairwise_mergeSort tr to (strKeys (.map es))
  have hnd2 : ((strKeys (.map es)).mergeSort leB).Nodup := hperm.nodup_iff.2 hnd
  refine ⟨(strKeys (.map es)).mergeSort leB, ⟨?_, fun x => (hperm.mem_iff).trans (hmem x)⟩, hperm.symm, ?_, fun x hx => hle x (hperm.mem_iff.1 hx)⟩
  · refine (hpw2.and hnd2).imp (fun {a b} h => ?_)
    have h1 : a ≤ b := by simpa [leB] using h.1
    rcases Classical.em (a < b) with h3 | h3
    · exact h3
    · exact absurd (List.le_antisymm h1 (List.not_lt.1 h3)) h.2
  · rw [hperm.length_eq]
    show (es.map fun p => strOf p.1).length ≤ n
    rw [List.length_map]
    exact hsz
/-- the keys of a directory in order, as the two calls give them -/
theorem sorted_calls {w : World} {b n : Nat} {X : DataW Unit} {f : List UInt8 → Option Nat} (h1 : w.ownsMap Tryz.prog 9 ptrR b n X) (h2 : dirIs X f) (hn : n ≤ 100000) :
    ∃ ns, Names f ns ∧ ns.length ≤ n ∧ (∀ x ∈ ns, x.length ≤ maxLen) ∧
    Calls Tryz.prog 64 #[.func (.func 113) #[] #[.pointer (some ⟨w.heap.size, 0, none⟩)]] (w.alloc (.cells #[.map (some b)] 79)) fun e w' => ∃ v, e = .returned v ∧ w'.ownsRow w.heap.size 9 1 v ns.length (ns.map encStr) ∧ Below w.heap.size w w' := by
  obtain ⟨ns, hN, hP, hl, hm⟩ := dir_names h1 h2
  have hsz := h1.size_le
  refine ⟨ns, hN, hl, hm, ?_⟩
  refine ((callsIn_wide (n := 5)).1 (Tryz.sorted_keys_d b n X ptrR w h1 (by unfold maxLen; omega) (by omega))).mono ?_
  rintro e w' ⟨v, ss, rfl, hS, hrow, hnil, hb⟩
  have hp2 := hS.trans hP
  rw [hN.sort hp2, hp2.length_eq] at hrow
  exact ⟨v, rfl, ownsRow_base_a hrow (by simp), ((Below.refl _ w).alloc (Nat.le_refl _) _).trans (hb.mono (by simp))⟩
theorem keys_calls (b : Nat) (w : World) : Calls Tryz.prog 65 #[.map (some b)] w fun e w' => e = .returned (.func (.func 113) #[] #[.pointer (some ⟨w.heap.size, 0, none⟩)]) ∧ w' = w.alloc (.cells #[.map (some b)] 79) :=
  (callsIn_wide (n := 5)).1 (Tryz.maps_Keys_d (some b) w)
def ListPost (w : World) (f : List UInt8 → Option Nat) (e : Ending) (w' : World) : Prop := ∃ v ns, e = .returned v ∧ Names f ns ∧ ns.length ≤ 100000 ∧ (∀ x ∈ ns, x.length ≤ maxLen) ∧ w'.ownsRow w.heap.size 9 1 v ns.length (ns.map encStr) ∧ Below w.heap.size w w'
def Dk.list (k : Dk) : List UInt8 → Option Nat := if k.down then fun _ => none else k.dir
set_option maxHeartbeats 2000000 in
set_option maxRecDepth 100000 in
theorem list_calls (k : Dk) (B D : Nat) (O : Nat → Prop) (w : World) (hd : Disk w B D O k) (hr : k.room ≤ 4000) :
    Calls Tryz.prog 24 #[.pointer (some ⟨D, 0, none⟩)] w (ListPost w k.list) := by
  have hL : k.list = if k.down then fun _ => none else k.dir := rfl
  rw [hL]
  clear hL
  obtain ⟨bd, bs, n, va, rows, hdat, hn, rfl⟩ := hd
  obtain ⟨X, h1, h2⟩ := hdat.dir
  have qc := hdat.blk.cell
  cases hdn : k.down
  · rw [hdn] at qc
    simp only [Bool.false_eq_true, if_false]
    obtain ⟨ns, hN, hl, hm, hS⟩ := sorted_calls h1 h2 (by omega)
    have hN' := Lib.hid hN
    have hm' := Lib.hid hm
    have hS' := Lib.hid hS
    have hK' := Lib.hid (keys_calls bd w)
    have hl2 : ns.length ≤ 100000 := by omega
    clear hN hm hS h1 h2 hdat hn hl
    go_enter Tryz.func24, Tryz.ntmps24
    go_wp2_with fail
    refine hK'.out.mono ?_
    rintro e w1 ⟨rfl, rfl⟩
    go_wp2_with fail
    refine hS'.out.mono ?_
    rintro e w2 ⟨v, rfl, r1, r2⟩
    have r1' := Lib.hid r1
    clear r1
    go_wp2
    go_ret
    exact ⟨v, ns, rfl, hN'.out, hl2, hm'.out, r1'.out, r2⟩
  · rw [hdn] at qc
    simp only [if_true]
    clear h1 h2 hdat hn
    go_enter Tryz.func24, Tryz.ntmps24
    go_wp2
    go_ret
    exact ⟨_, [], rfl, ⟨List.Pairwise.nil, fun x => by simp⟩, by simp, (by simp), World.ownsRow_nil _ _ _ _, Below.refl _ _⟩
end Go.Proofs.YtabcdodjkfknlaaGreatDoor
namespace Go.Proofs.YtabcdodjkfknlaaGreatDoor
open Go.RowKit
theorem add_block (a : Addr) (n : Nat) : (a.add n).block = a.block := by
  unfold Addr.add; split <;> rfl
/-- the cells of each element of l lie one behind the other from p on -/
def holdsL {α : Type} (w : World) (p : Option Addr) (sz : Nat) (C : α → List Value) (l : List α) : Prop := ∀ k x, l[k]? = some x → ∃ a : Addr, p = some a ∧ a.block < w.heap.size ∧ ∀ j u, (C x)[j]? = some u → w.cell? ((a.add (k * sz)).add j) = some u
theorem holdsL.at_ {α : Type} {w w' : World} {B sz : Nat} {C : α → List Value} {p : Option Addr} {l : List α} (h : holdsL w p sz C l) (hB : w.heap.size ≤ B) (hb : Below B w w') {k : Nat} {x : α} (hx : l[k]? = some x) :
    ∃ a b : Addr, p = some a ∧ a.add (k * sz) = b ∧ b.block < w.heap.size ∧ ∀ j u, (C x)[j]? = some u → w'.cell? (b.add j) = some u := by
  obtain ⟨a, rfl, hl, h0⟩ := h k x hx
  exact ⟨a, _, rfl, rfl, by rw [add_block]; exact hl, fun j u hj => (hb.cell (by rw [add_block, add_block]; omega)).trans (h0 j u hj)⟩
theorem holdsL.below {α : Type} {w w' : World} {B sz : Nat} {C : α → List Value} {p : Option Addr} {l : List α} (h : holdsL w p sz C l) (hB : w.heap.size ≤ B) (hb : Below B w w') : holdsL w' p sz C l := by
  intro k x hx
  obtain ⟨a, hp, hl, h0⟩ := h k x hx
  exact ⟨a, hp, Nat.lt_of_lt_of_le hl hb.size, fun j u hj => (hb.cell (by rw [add_block, add_block]; omega)).trans (h0 j u hj)⟩
theorem take_all {α : Type} {l : List α} {P : α → Bool} {k : Nat} {x : α} (h : ∀ j y, j < k → l[j]? = some y → P y = true) (hx : l[k]? = some x) (hp : P x = true) : ∀ j y, j < k + 1 → l[j]? = some y → P y = true := by
  intro j y hj hy
  by_cases e : j = k
  · subst e
    rw [hx] at hy
    obtain rfl := Option.some.inj hy
    exact hp
  · exact h j y (by omega) hy
theorem all_of {α : Type} {l : List α} {P : α → Bool} (h : ∀ j y, j < l.length → l[j]? = some y → P y = true) : l.all P = true := by
  rw [List.all_eq_true]
  intro x hx
  obtain ⟨j, hj⟩ := List.getElem?_of_mem hx
  exact h j x (List.getElem?_eq_some_iff.1 hj).1 hj
theorem all_not {α : Type} {l : List α} {P : α → Bool} {k : Nat} {x : α} (hx : l[k]? = some x) (hp : P x = false) : l.all P = false := by
  rw [Bool.eq_false_iff]
  intro ha
  rw [List.all_eq_true] at ha
  have := ha x (List.mem_of_getElem? hx)
  rw [hp] at this
  cases this
end Go.Proofs.YtabcdodjkfknlaaGreatDoor
namespace Go.Proofs.YtabcdodjkfknlaaGreatDoor
open Go.RowKit Go.Maps Go.Shelf
/-- the next byte says how much of n is kept -/
def nextN (keep : List UInt8) (n : Nat) : Nat := match keep with
  | [] => 0
  | b :: _ => b.toNat % (n + 1)
theorem nextN_le (keep : List UInt8) (n : Nat) : nextN keep n ≤ n := by
  unfold nextN
  cases keep with
  | nil => exact Nat.zero_le _
  | cons b r => exact Nat.le_of_lt_succ (Nat.mod_lt _ (Nat.succ_pos _))
/-- the bytes that are left, in their own cell -/
def KeptAt (w : World) (K : Nat) (P : Nat → Prop) (keep : List UInt8) : Prop := ∃ v, Blk w K 43 #[v] ∧ Bytes w v keep ∧ ∀ g, v.ownBlock = some g → keep ≠ [] → P g
theorem KeptAt.keeps {S P : Nat → Prop} {w w' : World} {K : Nat} {keep : List UInt8} (h : KeptAt w K P keep) (hk : Keeps S w w') (hK : ¬ S K) (hP : ∀ g, P g → ¬ S g) : KeptAt w' K P keep := by
  obtain ⟨v, h1, h2, h3⟩ := h
  exact ⟨v, h1.keeps hk hK, h2.keepsP hk (fun g hg hn => hP g (h3 g hg hn)), h3⟩
theorem KeptAt.lt {P : Nat → Prop} {w : World} {K : Nat} {keep : List UInt8} (h : KeptAt w K P keep) : K < w.heap.size := by
  obtain ⟨v, h1, _⟩ := h
  exact h1.lt
set_option maxHeartbeats 1000000 in
set_option maxRecDepth 100000 in
theorem next_calls (K : Nat) (P : Nat → Prop) (keep : List UInt8) (n : Nat) (w : World) (h : KeptAt w K P keep) (hP : ¬ P K) (hn : n ≤ 1000000000000) (hl : keep.length ≤ 1000000000000) :
    Calls Tryz.prog 66 #[.int .i64 n, .pointer (some ⟨K, 0, none⟩)] w fun e w' => e = .returned (.int .i64 (nextN keep n)) ∧ KeptAt w' K P keep.tail ∧ Keeps (fun j => j = K) w w' ∧ w'.heap.size = w.heap.size := by
  obtain ⟨v, h1, h2, h3⟩ := h
  have h0 : KeptAt w K P keep := ⟨v, h1, h2, h3⟩
  have qc := h1.cell
  have qf := h1.frozen
  rcases h2 with (⟨rfl, rfl⟩ | ⟨g, o, c, rfl, hlc, hc⟩) | ⟨a, c, rfl, rfl⟩
  · have h0' := Lib.hid h0
    clear h0
    go_enter Tryz.func66, Tryz.ntmps66
    go_wp2
    go_ret
    exact ⟨rfl, h0'.out, Keeps.refl _ _, rfl⟩
  · cases keep with
    | nil =>
      have h0' := Lib.hid h0
      clear h0 hc
      go_enter Tryz.func66, Tryz.ntmps66
      go_wp2
      go_ret
      exact ⟨rfl, h0'.out, Keeps.refl _ _, rfl⟩
    | cons b r =>
      have hb := hc 0 b rfl
      have hgK : g ≠ K := fun e => hP (by subst e; exact h3 _ rfl (fun e => by cases e))
      have hnext : nextN (b :: r) n = b.toNat % (n + 1) := rfl
      have hrest : ∀ i x, r[i]? = some x → w.cell? ⟨g, o + 1 + i, none⟩ = some (.int .u8 x.toNat) := fun i x hx => by
        have := hc (i + 1) x (by simpa using hx)
        rw [show o + 1 + i = o + (i + 1) by omega]
        exact this
      have hk : ∀ v, Keeps (fun j => j = K) w (w.setCell ⟨K, 0, none⟩ v) := fun v => Keeps.setCell (S := fun j => j = K) (Keeps.refl _ w) (p := ⟨K, 0, none⟩) (.inl rfl) v
      have hend : KeptAt (w.setCell ⟨K, 0, none⟩ (.slice (some ⟨g, if c = 1 then o else o + 1, none⟩) r.length (c - 1))) K P r := by
        refine ⟨_, h1.set_ 0 _, Bytes.keeps (S := fun j => j = K) ?_ (hk _) (fun g' hg' => by obtain rfl := Option.some.inj hg'; exact hgK), fun g' hg' _ => h3 g' hg' (fun e => by cases e)⟩
        refine .inl (.inr ⟨g, _, _, rfl, by simp at hlc; omega, fun i x hx => ?_⟩)
        by_cases hc1 : c = 1
        · have : r.length = 0 := by simp at hlc; omega
          rw [List.eq_nil_of_length_eq_zero this] at hx
          cases hx
        · rw [if_neg hc1]; exact hrest i x hx
      have hk1 := hk (.slice (some ⟨g, if c = 1 then o else o + 1, none⟩) r.length (c - 1))
      have hsz : (w.setCell ⟨K, 0, none⟩ (.slice (some ⟨g, if c = 1 then o else o + 1, none⟩) r.length (c - 1))).heap.size = w.heap.size := by simp
      have hb0 : (b.toNat : Int) < 256 := by have := b.toNat_lt; omega
      rw [hnext]
      have hlc' : 1 ≤ c := by simp at hlc; omega
      have hcast : ((b.toNat % (n + 1) : Nat) : Int) = (b.toNat : Int) % ((n : Int) + 1) := by rw [Int.natCast_emod]; rfl
      rw [hcast]
      have hlen : (b :: r).length = r.length + 1 := rfl
      rw [hlen] at qc hl
      have hend' := Lib.hid hend
      have hk1' := Lib.hid hk1
      have hsz' := Lib.hid hsz
      have hb' : w.cell? ⟨g, o, none⟩ = some (.int .u8 b.toNat) := hb
      clear h0 h1 h3 hrest hk hend hk1 hsz hc hnext hcast hb hlen
      have hlc2 := Lib.hid hlc
      clear hlc
      by_cases hc1 : c = 1
      · subst hc1
        go_enter Tryz.func66, Tryz.ntmps66
        go_wp2
        go_ret
        exact ⟨rfl, hend'.out, hk1'.out, hsz'.out⟩
      · have hne : ¬ (c = 1) := hc1
        simp only [hne, if_false] at hend' hk1' hsz'
        go_enter Tryz.func66, Tryz.ntmps66
        go_wp2
        go_ret
        exact ⟨rfl, hend'.out, hk1'.out, hsz'.out⟩
  · have h0' := Lib.hid h0
    clear h0
    go_enter Tryz.func66, Tryz.ntmps66
    go_wp2
    go_ret
    exact ⟨rfl, h0'.out, Keeps.refl _ _, rfl⟩
end Go.Proofs.YtabcdodjkfknlaaGreatDoor
namespace Go.Proofs.YtabcdodjkfknlaaGreatDoor
open Go.RowKit Go.Maps Go.Shelf Go.Sort
def Dk.laid (k : Dk) (l : List DAct) : Dk := { k with safe := l.foldl (fun d a => a.does d) k.safe, slots := k.slots + l.length }
theorem Dk.laid_snoc (k : Dk) (l : List DAct) (a : DAct) : k.laid (l ++ [a]) = { k.laid l with safe := a.does (k.laid l).safe, slots := (k.laid l).slots + 1 } := by
  unfold Dk.laid
  simp [List.foldl_append, Nat.add_assoc]
theorem Dk.laid_nil (k : Dk) : k.laid [] = k := rfl
def Dk.cut (k : Dk) (keep : List UInt8) (s : List UInt8) : Dk :=
  { k.upd ((k.safe s).getD 0) ⟨(k.got ((k.safe s).getD 0)).data.take ((k.got ((k.safe s).getD 0)).safe + nextN keep ((k.got ((k.safe s).getD 0)).data.length - (k.got ((k.safe s).getD 0)).safe)), (k.got ((k.safe s).getD 0)).safe + nextN keep ((k.got ((k.safe s).getD 0)).data.length - (k.got ((k.safe s).getD 0)).safe)⟩ with
    used := k.used + ((k.got ((k.safe s).getD 0)).safe + nextN keep ((k.got ((k.safe s).getD 0)).data.length - (k.got ((k.safe s).getD 0)).safe) : Nat) }
def Dk.cuts (k : Dk) (keep : List UInt8) : List (List UInt8) → Dk
  | [] => k
  | s :: ns => (k.cut keep s).cuts keep.tail ns
theorem Dk.cuts_snoc (k : Dk) (keep : List UInt8) (ns : List (List UInt8)) (s : List UInt8) : k.cuts keep (ns ++ [s]) = (k.cuts keep ns).cut (keep.drop ns.length) s := by
  induction ns generalizing k keep with
  | nil => rfl
  | cons t ns ih =>
    show (k.cut keep t).cuts keep.tail (ns ++ [s]) = ((k.cut keep t).cuts keep.tail ns).cut _ s
    rw [ih]
    congr 1
    cases keep <;> simp
theorem Dk.cut_same (k : Dk) (keep s : List UInt8) : (k.cut keep s).dir = k.dir ∧ (k.cut keep s).safe = k.safe ∧ (k.cut keep s).acts = k.acts ∧ (k.cut keep s).cap = k.cap ∧ (k.cut keep s).room = k.room ∧ (k.cut keep s).slots = k.slots ∧ (k.cut keep s).down = k.down ∧ (k.cut keep s).fuse = k.fuse := ⟨rfl, rfl, rfl, rfl, rfl, rfl, rfl, rfl⟩
theorem Dk.cuts_same (k : Dk) (keep : List UInt8) (ns : List (List UInt8)) : (k.cuts keep ns).dir = k.dir ∧ (k.cuts keep ns).safe = k.safe ∧ (k.cuts keep ns).acts = k.acts ∧ (k.cuts keep ns).cap = k.cap ∧ (k.cuts keep ns).room = k.room ∧ (k.cuts keep ns).slots = k.slots ∧ (k.cuts keep ns).down = k.down ∧ (k.cuts keep ns).fuse = k.fuse := by
  induction ns generalizing k keep with
  | nil => exact ⟨rfl, rfl, rfl, rfl, rfl, rfl, rfl, rfl⟩
  | cons t ns ih => exact ih (k.cut keep t) keep.tail
theorem Dk.cut_live (k : Dk) (keep s : List UInt8) (p : Nat) (h : (k.file p).isSome = true) : ((k.cut keep s).file p).isSome = true := k.upd_live _ _ p h
theorem Dk.cuts_live (k : Dk) (keep : List UInt8) (ns : List (List UInt8)) (p : Nat) (h : (k.file p).isSome = true) : ((k.cuts keep ns).file p).isSome = true := by
  induction ns generalizing k keep with
  | nil => exact h
  | cons t ns ih => exact ih (k.cut keep t) keep.tail (k.cut_live keep t p h)
theorem Dk.cuts_small (k : Dk) (keep : List UInt8) (ns : List (List UInt8)) (m : Nat) (h : ∀ f x, k.file f = some x → x.data.length ≤ m) : ∀ f x, (k.cuts keep ns).file f = some x → x.data.length ≤ m := by
  induction ns generalizing k keep with
  | nil => exact h
  | cons t ns ih =>
    refine ih (k.cut keep t) keep.tail fun f x hx => ?_
    have e : (k.cut keep t).file = (k.upd ((k.safe t).getD 0) ⟨(k.got ((k.safe t).getD 0)).data.take ((k.got ((k.safe t).getD 0)).safe + nextN keep ((k.got ((k.safe t).getD 0)).data.length - (k.got ((k.safe t).getD 0)).safe)), (k.got ((k.safe t).getD 0)).safe + nextN keep ((k.got ((k.safe t).getD 0)).data.length - (k.got ((k.safe t).getD 0)).safe)⟩).file := rfl
    rw [e] at hx
    unfold Dk.upd at hx
    simp only at hx
    split at hx
    · obtain rfl := Option.some.inj hx
      simp only [List.length_take]
      have h1 : (k.got ((k.safe t).getD 0)).data.length ≤ m := by
        unfold Dk.got
        cases hg : k.file ((k.safe t).getD 0) with
        | none => exact Nat.zero_le _
        | some y => exact h _ y hg
      omega
    · exact h f x hx
theorem Dk.cuts_used (k : Dk) (keep : List UInt8) (ns : List (List UInt8)) (m : Nat) (h : ∀ f x, k.file f = some x → x.data.length ≤ m ∧ x.safe ≤ x.data.length) : k.used ≤ (k.cuts keep ns).used ∧ (k.cuts keep ns).used ≤ k.used + ns.length * m := by
  induction ns generalizing k keep with
  | nil => show k.used ≤ k.used ∧ k.used ≤ k.used + (0 : Nat) * m; omega
  | cons t ns ih =>
    have hg : (k.got ((k.safe t).getD 0)).data.length ≤ m ∧ (k.got ((k.safe t).getD 0)).safe ≤ (k.got ((k.safe t).getD 0)).data.length := by
      unfold Dk.got
      cases hg : k.file ((k.safe t).getD 0) with
      | none => exact ⟨Nat.zero_le _, Nat.le_refl _⟩
      | some y => exact h _ y hg
    have hn := nextN_le keep ((k.got ((k.safe t).getD 0)).data.length - (k.got ((k.safe t).getD 0)).safe)
    have h1 := ih (k.cut keep t) keep.tail fun f x hx => by
      have e : (k.cut keep t).file = (k.upd ((k.safe t).getD 0) ⟨(k.got ((k.safe t).getD 0)).data.take ((k.got ((k.safe t).getD 0)).safe + nextN keep ((k.got ((k.safe t).getD 0)).data.length - (k.got ((k.safe t).getD 0)).safe)), (k.got ((k.safe t).getD 0)).safe + nextN keep ((k.got ((k.safe t).getD 0)).data.length - (k.got ((k.safe t).getD 0)).safe)⟩).file := rfl
      rw [e] at hx
      unfold Dk.upd at hx
      simp only at hx
      split at hx
      · obtain rfl := Option.some.inj hx
        simp only [List.length_take]
        omega
      · exact h f x hx
    have e2 : (k.cut keep t).used = k.used + ((k.got ((k.safe t).getD 0)).safe + nextN keep ((k.got ((k.safe t).getD 0)).data.length - (k.got ((k.safe t).getD 0)).safe) : Nat) := rfl
    have e3 : (k.cuts keep (t :: ns)).used = ((k.cut keep t).cuts keep.tail ns).used := rfl
    rw [e2] at h1
    have e4 : ((t :: ns).length : Int) * m = ns.length * m + m := by rw [List.length_cons, Int.natCast_add, Int.add_mul]; simp
    rw [e3, e4]
    generalize (ns.length : Int) * (m : Int) = z at *
    omega
/-- all acts are laid; nothing is counted yet -/
def Dk.zero (k : Dk) (r : Nat) : Dk := { k with used := 0, room := r }
def Dk.rise (k : Dk) (r : Nat) : Dk := { k with dir := k.safe, acts := [], down := false, fuse := -1, room := r }
def Dk.kept (k : Dk) (keep : List UInt8) : Dk := (k.laid (k.acts.take (nextN keep k.acts.length))).zero (k.room + k.room)
def Dk.crashed (k : Dk) (keep : List UInt8) (ns : List (List UInt8)) : Dk := ((k.kept keep).cuts keep.tail ns).rise k.room
theorem own_prefix {w : World} {B c n m : Nat} {e : TypeId} {p : Option Addr} {xs : List Value} (h : w.ownsRow B e 1 (.slice p n c) n xs) (hm : m ≤ n) : w.ownsRow B e 1 (.slice p m c) m (xs.take m) := by
  obtain ⟨h0, ⟨h1, rfl⟩ | ⟨g, cap, cur, h1, h2, h3, h4, h5, h6, h7⟩⟩ := h
  · obtain rfl : m = 0 := by omega
    cases h1
    exact World.ownsRow_nil _ _ _ _
  · cases h1
    refine ⟨by rw [List.length_take, h0]; omega, .inr ⟨g, c, cur, rfl, h2, h3, by omega, h5, h6, ?_⟩⟩
    rw [← h7, List.take_take]
    congr 1
    omega
theorem bcells_take (l : List UInt8) (m : Nat) : (bcells l).take m = bcells (l.take m) := by unfold bcells; rw [List.map_take]
/-- what is so of every disk within Crash -/
structure Dk.mid (k : Dk) : Prop where
  slive : ∀ s f, k.safe s = some f → (k.file f).isSome = true
  small : ∀ f x, k.file f = some x → x.data.length ≤ 1000000000
theorem foldl_live {k : Dk} {l : List DAct} (hl : ∀ a, a ∈ l → ∀ p, a.file = some p → (k.file p).isSome = true) {g : List UInt8 → Option Nat} (hg : ∀ s f, g s = some f → (k.file f).isSome = true) : ∀ s f, l.foldl (fun d a => a.does d) g s = some f → (k.file f).isSome = true := by
  induction l generalizing g with
  | nil => exact hg
  | cons a l ih => exact ih (fun b hb => hl b (List.mem_cons_of_mem _ hb)) (does_live hg (hl a (List.mem_cons_self ..)))
theorem Dk.kept_live {k : Dk} (h : k.ok) (keep : List UInt8) : ∀ s f, (k.kept keep).safe s = some f → (k.file f).isSome = true :=
  foldl_live (k := k) (fun a ha => (h.acts a (List.mem_of_mem_take ha)).2) h.slive
theorem Dk.cuts_mid {k : Dk} (h : k.ok) (hr : k.room ≤ 4000) (keep keep' : List UInt8) (ns : List (List UInt8)) : ((k.kept keep).cuts keep' ns).mid := by
  refine ⟨fun s f hs => Dk.cuts_live _ _ _ f (Dk.kept_live h keep s f ?_), Dk.cuts_small _ _ _ _ fun f x hx => ?_⟩
  · rw [(Dk.cuts_same _ _ _).2.1] at hs
    exact hs
  · have := h.small f x hx; omega
/-- the safe directory alone is turned -/
theorem Dat.turnSafe {w w' : World} {B D bd bs n : Nat} {va : Value} {rows : Nat → Value} {k : Dk} (hd : Dat w B D bd bs n va rows k) {X' : DataW Unit} {g : List UInt8 → Option Nat} (hm : w'.ownsMap Tryz.prog 9 ptrR bs (k.slots + 1) X') (hX : dirIs X' g) (hk : Keeps (fun j => j = bs) w w') :
    Dat w' B D bd bs n va rows { k with safe := g, slots := k.slots + 1 } := by
  obtain ⟨X, h1, h2⟩ := hd.dir
  obtain ⟨Y, h3, h4⟩ := hd.safe
  refine ⟨hd.blk.keeps hk (fun e => map_ne h3 hd.blk e.symm), ⟨X, map_keeps h1 hk hd.two, h2⟩, ⟨X', hm, hX⟩, hd.two, own_keeps hd.acts hk (fun g hg e => own_map_ne hd.acts h3 (by rw [hg, e])), fun f x hf => ?_, hd.apart, hd.base⟩
  obtain ⟨f1, f2, f3, f4⟩ := hd.file f x hf
  exact ⟨f1, f2.keeps hk (fun e => map_ne h3 f2 e.symm), own_keeps f3 hk (fun g hg e => own_map_ne f3 h3 (by rw [hg, e])), f4⟩
theorem acells_get (l : List DAct) (i : Nat) (a : DAct) (h : l[i]? = some a) : (acells l)[3 * i]? = some (.string a.frm) ∧ (acells l)[3 * i + 1]? = some (.string a.to) ∧ (acells l)[3 * i + 2]? = some (ptrV a.file) := by
  induction l generalizing i with
  | nil => simp at h
  | cons b l ih =>
    cases i with
    | zero =>
      obtain rfl := Option.some.inj h
      exact ⟨rfl, rfl, rfl⟩
    | succ i =>
      have := ih i (by simpa using h)
      have e : acells (b :: l) = [.string b.frm, .string b.to, ptrV b.file] ++ acells l := rfl
      rw [e, show 3 * (i + 1) = 3 + 3 * i by omega, show 3 + 3 * i + 1 = 3 + (3 * i + 1) by omega, show 3 + 3 * i + 2 = 3 + (3 * i + 2) by omega]
      have hs : ∀ j, ([Value.string b.frm, .string b.to, ptrV b.file] ++ acells l)[3 + j]? = (acells l)[j]? := fun j => by
        rw [List.getElem?_append_right (by simp)]; simp
      rw [hs, hs, hs]
      exact this
end Go.Proofs.YtabcdodjkfknlaaGreatDoor
namespace Go.Proofs.YtabcdodjkfknlaaGreatDoor
open Go.RowKit
variable {P : Program} {ops : Array Oper} {Q : Exit → Act → World → Prop}

def unlisted (n : Nat) (listed : Array Bool) : Nat := (List.range n).countP fun i => !listed.getD i true
theorem countP_lt {α : Type} {p q : α → Bool} : ∀ {l : List α}, (∀ x ∈ l, q x = true → p x = true) → (∃ x ∈ l, p x = true ∧ q x = false) → l.countP q < l.countP p
  | [], _, h => by obtain ⟨x, hx, _⟩ := h; cases hx
  | y :: l, hi, h => by
    have hle : l.countP q ≤ l.countP p := List.countP_mono_left fun x hx hq => hi x (List.mem_cons_of_mem _ hx) hq
    obtain ⟨x, hx, hp, hq⟩ := h
    rcases List.mem_cons.1 hx with rfl | hx
    · rw [List.countP_cons_of_pos hp, List.countP_cons_of_neg (by simp [hq])]; omega
    · have := countP_lt (l := l) (fun x hx hq => hi x (List.mem_cons_of_mem _ hx) hq) ⟨x, hx, hp, hq⟩
      have h0 := hi y List.mem_cons_self
      simp only [List.countP_cons]
      by_cases hy : q y = true
      · rw [if_pos hy, if_pos (h0 hy)]; omega
      · rw [if_neg hy]; omega
theorem ready_free {md : Region.Mode} {listed : Array Bool} {i : Nat} (h : i ∈ Region.ready md ops listed) : i < ops.size ∧ listed.getD i true = false := by
  unfold Region.ready at h
  simp only [List.mem_filter, List.mem_range, Bool.and_eq_true, Bool.not_eq_true'] at h
  exact ⟨h.1, h.2.1⟩
theorem unlisted_lt {md : Region.Mode} {listed : Array Bool} {i : Nat} (h : i ∈ Region.ready md ops listed) : unlisted ops.size (listed.setIfInBounds i true) < unlisted ops.size listed := by
  obtain ⟨hi, hf⟩ := ready_free h
  have hlt : i < listed.size := by
    rcases Nat.lt_or_ge i listed.size with h | h
    · exact h
    · simp [Array.getD, Nat.not_lt.2 h] at hf
  refine countP_lt (fun j _ hj => ?_) ⟨i, List.mem_range.2 hi, by simp only [hf, Bool.not_false], ?_⟩
  · by_cases e : j = i
    · subst e; simp only [hf, Bool.not_false]
    · have e' : i ≠ j := fun h => e h.symm
      simpa [Array.getD_eq_getD_getElem?, Array.getElem?_setIfInBounds_ne e'] using hj
  · simp [Array.getD_eq_getD_getElem?, hlt]
theorem wpAny_inv (I : Array Bool → Act → World → Prop)
    (hs : ∀ listed a w i, I listed a w → i ∈ Region.ready .any ops listed → wpOp P ops Q i (fun a' w' => I (listed.setIfInBounds i true) a' w') a w)
    (he : ∀ listed a w, I listed a w → Region.ready .any ops listed = [] → Q .normal a w) :
    ∀ (fuel : Nat) (listed : Array Bool) (a : Act) (w : World), unlisted ops.size listed ≤ fuel → I listed a w → wpAny P .any ops Q fuel listed a w
  | 0, listed, a, w, hu, hI => by
    have hr : Region.ready .any ops listed = [] := by
      cases hr : Region.ready .any ops listed with
      | nil => rfl
      | cons i l =>
        have := unlisted_lt (ops := ops) (md := .any) (listed := listed) (i := i) (by rw [hr]; exact List.mem_cons_self)
        omega
    exact ⟨hr, he listed a w hI hr⟩
  | fuel + 1, listed, a, w, hu, hI =>
    ⟨fun hr => he listed a w hI hr, fun i hi => wpOp_mono (fun a' w' h => wpAny_inv I hs he fuel _ a' w' (by have := unlisted_lt hi; omega) h) (hs listed a w i hI hi)⟩
theorem wp_region_inv {id : Nat} {a : Act} {w : World} (hm : P.follows .mixedOrders = true) (I : Array Bool → Act → World → Prop)
    (h0 : I (Array.replicate ops.size false) a w.drew)
    (hs : ∀ listed a w i, I listed a w → i ∈ Region.ready .any ops listed → wpOp P ops Q i (fun a' w' => I (listed.setIfInBounds i true) a' w') a w)
    (he : ∀ listed a w, I listed a w → listed.size = ops.size → Region.ready .any ops listed = [] → Q .normal a w) : (Code.region id ops true).wp P Q a w :=
  wp_region_any hm (wpAny_inv (fun l a w => l.size = ops.size ∧ I l a w) (fun l a w i hI hi => wpOp_mono (fun a' w' h => ⟨by simpa using hI.1, h⟩) (hs l a w i hI.2 hi)) (fun l a w hI hr => he l a w hI.2 hI.1 hr) _ _ _ _ (by unfold unlisted; exact Nat.le_trans List.countP_le_length (by simp)) ⟨by simp, h0⟩)
/-- what an operation waits for has come -/
theorem ready_on {listed : Array Bool} {i : Nat} {o : Oper} (h : i ∈ Region.ready .any ops listed) (ho : ops[i]? = some o) (e : Edge) (hmem : e ∈ o.after) (hb : Region.binds .any e = true) : listed.getD e.on false = true := by
  unfold Region.ready at h
  simp only [List.mem_filter, ho, Option.map_some, Option.getD_some, Bool.and_eq_true, Array.all_eq_true_iff_forall_mem] at h
  have := h.2.2 e hmem
  rw [hb] at this
  simpa using this
def onNormal (K : Act → World → Prop) (Q : Exit → Act → World → Prop) : Exit → Act → World → Prop
  | .normal, a, w => K a w
  | e, a, w => Q e a w
theorem upon_onNormal {o : Oper} {a : Act} {K next : Act → World → Prop} {r : Result Next} (h : o.upon P a next (onNormal K Q) r) : o.upon P a next Q r := by
  cases r with
  | ok n w' =>
    cases n <;> simp only [Oper.upon] at h ⊢ <;>
      first
        | exact h
        | exact Calls.mono h (fun e w'' he => by cases e <;> exact he)
  | halt x w' => cases x <;> simp only [Oper.upon] at h ⊢ <;> exact h
theorem wpOp_one {i : Nat} {o : Oper} {K : Act → World → Prop} {a : Act} {w : World} (hi : ops[i]? = some o) (h : wpList P ops (onNormal K Q) [o] a w) : wpOp P ops Q i K a w := by
  unfold wpList at h
  unfold wpOp
  simp only [hi]
  split
  · rename_i hw
    rw [if_pos hw] at h
    rcases h with h | ⟨h1, h2⟩
    · exact .inl (upon_onNormal h)
    · exact .inr ⟨h1, h2⟩
  · rename_i hw
    rw [if_neg hw] at h
    exact h
theorem getD_set_ne {l : Array Bool} {i j : Nat} (h : i ≠ j) (b : Bool) : (l.setIfInBounds i true).getD j b = l.getD j b := by
  simp [Array.getD_eq_getD_getElem?, Array.getElem?_setIfInBounds_ne h]
theorem getD_set_eq {l : Array Bool} {i : Nat} (h : l.getD i true = false) : (l.setIfInBounds i true).getD i false = true := by
  have hlt : i < l.size := by
    rcases Nat.lt_or_ge i l.size with h' | h'
    · exact h'
    · simp [Array.getD, Nat.not_lt.2 h'] at h
  simp [Array.getD_eq_getD_getElem?, hlt]
theorem not_listed {l : Array Bool} {i : Nat} (h : l.getD i true = false) : l.getD i false = false := by
  simp [Array.getD_eq_getD_getElem?] at h ⊢
  cases hl : l[i]? <;> simp [hl] at h ⊢
  exact h
theorem ready_done {listed : Array Bool} (hsz : listed.size = ops.size) (h : Region.ready .any ops listed = []) (i : Nat) (hi : i < ops.size)
    (hd : ∀ o, ops[i]? = some o → ∀ e ∈ o.after, Region.binds .any e = true → listed.getD e.on false = true) : listed.getD i false = true := by
  suffices hh : listed.getD i true = true by
    have hl : i < listed.size := by omega
    simpa [Array.getD_eq_getD_getElem?, hl] using hh
  cases hl : listed.getD i true with
  | true => rfl
  | false =>
    exfalso
    have : i ∈ Region.ready .any ops listed := by
      unfold Region.ready
      simp only [List.mem_filter, List.mem_range, Bool.and_eq_true, Bool.not_eq_true']
      refine ⟨hi, hl, ?_⟩
      rw [Array.getElem?_eq_getElem hi]
      simp only [Option.map_some, Option.getD_some, Array.all_eq_true_iff_forall_mem]
      intro e he
      cases hb : Region.binds .any e with
      | false => rfl
      | true => simpa using hd _ (Array.getElem?_eq_getElem hi) e he hb
    rw [h] at this
    cases this
/-- where no operation waits for a later one: when none is ready any more, all have come -/
theorem ready_all {listed : Array Bool} (hsz : listed.size = ops.size) (h : Region.ready .any ops listed = [])
    (hlow : ((List.range ops.size).all fun i => ((ops[i]?).map fun o => o.after.all fun e => decide (e.on < i)).getD true) = true) : ∀ i, i < ops.size → listed.getD i false = true := by
  intro i
  induction i using Nat.strongRecOn with
  | ind i ih =>
    intro hi
    refine ready_done hsz h i hi fun o ho e he _ => ?_
    rw [List.all_eq_true] at hlow
    have := hlow i (List.mem_range.2 hi)
    simp only [ho, Option.map_some, Option.getD_some, Array.all_eq_true_iff_forall_mem] at this
    have hlt : e.on < i := by simpa using this e he
    exact ih e.on hlt (by omega)
end Go.Proofs.YtabcdodjkfknlaaGreatDoor
