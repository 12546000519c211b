/- Walk: the program's disk: the names of a directory in order; List. -/
import Derived.Test.YtgclancneohpbaaDW13
import Derived.Test.YtgclancneohpbaaIterD
namespace Go.Proofs.Ytgclancneohpbaa
open Go.RowKit Go.Maps Go.Shelf Go.Sort
/-- the names of a directory, in order -/
structure Names (f : List UInt8 → Option Nat) (ns : List (List UInt8)) : Prop where
  sorted : ns.Pairwise (fun x y => x < y)
  mem : ∀ x, x ∈ ns ↔ (f x).isSome = true
theorem Names.nodup {f : List UInt8 → Option Nat} {ns : List (List UInt8)} (h : Names f ns) : ns.Nodup := h.sorted.imp (fun {a b} h e => by subst e; exact absurd h (List.lt_irrefl a))
theorem Names.sort {f : List UInt8 → Option Nat} {ns ss : List (List UInt8)} (h : Names f ns) (hp : ss.Perm ns) : ss.mergeSort (fun x y => decide (x ≤ y)) = ns := by
  have h3 : ss.mergeSort leB = ns.mergeSort leB := mergeSort_of_perm hp
  have h4 : ns.mergeSort leB = ns := List.mergeSort_of_pairwise (h.sorted.imp (fun {a b} h => by simp only [leB, decide_eq_true_eq]; exact List.le_of_lt h))
  exact h3.trans h4
theorem Names.unique {f : List UInt8 → Option Nat} {ns ns' : List (List UInt8)} (h : Names f ns) (h' : Names f ns') : ns = ns' := by
  have hp : ns.Perm ns' := (List.perm_ext_iff_of_nodup h.nodup h'.nodup).2 fun x => by rw [h.mem, h'.mem]
  have h1 := h.sort (List.Perm.refl ns)
  have h2 := h'.sort hp
  rw [h1] at h2
  exact h2
theorem dir_names {w : World} {b n : Nat} {X : DataW Unit} {f : List UInt8 → Option Nat} (h1 : w.ownsMap Try.prog 9 ptrR b n X) (h2 : dirIs X f) : ∃ ns, Names f ns ∧ (strKeys X).Perm ns ∧ ns.length ≤ n ∧ ∀ x ∈ ns, x.length ≤ maxLen := by
  obtain ⟨es, hD, hpw, _⟩ := h1.entries dstr_keyed
  obtain ⟨es', hD', hko⟩ := h1.keysOf
  obtain rfl : es = es' := by rw [hD] at hD'; simpa using hD'
  have hle := strKeys_le h1 Try.underlying9
  have hsz := h1.size_le
  have hk : ∀ p ∈ es, ∃ x, p.1 = .string x := fun p hp => by obtain ⟨v, hv⟩ := hko p hp; obtain ⟨x, _, hx, _⟩ := Maps.keyOf_str Try.underlying9 hv; exact ⟨x, hx⟩
  subst hD
  have hnd : (strKeys (.map es)).Nodup := by
    show (es.map fun p => strOf p.1).Nodup
    refine List.pairwise_map.2 (hpw.imp_of_mem fun {p q} hp' hq' hne e => hne ?_)
    obtain ⟨a, ha⟩ := hk p hp'
    obtain ⟨b, hb⟩ := hk q hq'
    rw [ha, hb] at e ⊢
    exact congrArg _ e
  have hmem : ∀ x, x ∈ strKeys (.map es) ↔ (f x).isSome = true := by
    intro x
    rw [← (h2 x).1, has_eq, List.any_eq_true]
    show x ∈ (es.map fun p => strOf p.1) ↔ _
    rw [List.mem_map]
    constructor
    · rintro ⟨p, hp', rfl⟩
      obtain ⟨a, ha⟩ := hk p hp'
      exact ⟨p, hp', by rw [ha]; simp [Lit.sameKey, strOf]⟩
    · rintro ⟨p, hp', hs⟩
      obtain ⟨a, ha⟩ := hk p hp'
      rw [ha] at hs
      exact ⟨p, hp', by rw [ha]; simpa [Lit.sameKey, strOf] using hs⟩
  have hperm := List.mergeSort_perm (strKeys (.map es)) leB
  have tr : ∀ a b c : List UInt8, leB a b = true → leB b c = true → leB a c = true := fun a b c h1 h2 => by simp only [leB, decide_eq_true_eq] at *; exact List.le_trans h1 h2
  have to : ∀ a b : List UInt8, (leB a b || leB b a) = true := fun a b => by simp only [leB, Bool.or_eq_true, decide_eq_true_eq]; exact List.le_total a b
  have hpw2 := List.pairwise_mergeSort tr to (strKeys (.map es))
  have hnd2 : ((strKeys (.map es)).mergeSort leB).Nodup := hperm.nodup_iff.2 hnd
  refine ⟨(strKeys (.map es)).mergeSort leB, ⟨?_, fun x => (hperm.mem_iff).trans (hmem x)⟩, hperm.symm, ?_, fun x hx => hle x (hperm.mem_iff.1 hx)⟩
  · refine (hpw2.and hnd2).imp (fun {a b} h => ?_)
    have h1 : a ≤ b := by simpa [leB] using h.1
    rcases Classical.em (a < b) with h3 | h3
    · exact h3
    · exact absurd (List.le_antisymm h1 (List.not_lt.1 h3)) h.2
  · rw [hperm.length_eq]
    show (es.map fun p => strOf p.1).length ≤ n
    rw [List.length_map]
    exact hsz
/-- the keys of a directory in order, as the two calls give them -/
theorem sorted_calls {w : World} {b n : Nat} {X : DataW Unit} {f : List UInt8 → Option Nat} (h1 : w.ownsMap Try.prog 9 ptrR b n X) (h2 : dirIs X f) (hn : n ≤ 100000) :
    ∃ ns, Names f ns ∧ ns.length ≤ n ∧ (∀ x ∈ ns, x.length ≤ maxLen) ∧
    Calls Try.prog 44 #[.func (.func 69) #[] #[.pointer (some ⟨w.heap.size, 0, none⟩)]] (w.alloc (.cells #[.map (some b)] 85)) fun e w' => ∃ v, e = .returned v ∧ w'.ownsRow w.heap.size 9 1 v ns.length (ns.map encStr) ∧ Below w.heap.size w w' := by
  obtain ⟨ns, hN, hP, hl, hm⟩ := dir_names h1 h2
  have hsz := h1.size_le
  refine ⟨ns, hN, hl, hm, ?_⟩
  refine ((callsIn_wide (n := 5)).1 (Try.sorted_keys_d b n X ptrR w h1 (by unfold maxLen; omega) (by omega))).mono ?_
  rintro e w' ⟨v, ss, rfl, hS, hrow, hnil, hb⟩
  have hp2 := hS.trans hP
  rw [hN.sort hp2, hp2.length_eq] at hrow
  exact ⟨v, rfl, ownsRow_base_a hrow (by simp), ((Below.refl _ w).alloc (Nat.le_refl _) _).trans (hb.mono (by simp))⟩
theorem keys_calls (b : Nat) (w : World) : Calls Try.prog 49 #[.map (some b)] w fun e w' => e = .returned (.func (.func 69) #[] #[.pointer (some ⟨w.heap.size, 0, none⟩)]) ∧ w' = w.alloc (.cells #[.map (some b)] 85) :=
  (callsIn_wide (n := 5)).1 (Try.maps_Keys_d (some b) w)
def ListPost (w : World) (f : List UInt8 → Option Nat) (e : Ending) (w' : World) : Prop := ∃ v ns, e = .returned v ∧ Names f ns ∧ ns.length ≤ 100000 ∧ (∀ x ∈ ns, x.length ≤ maxLen) ∧ w'.ownsRow w.heap.size 9 1 v ns.length (ns.map encStr) ∧ Below w.heap.size w w'
def Dk.list (k : Dk) : List UInt8 → Option Nat := if k.down then fun _ => none else k.dir
set_option maxHeartbeats 2000000 in
set_option maxRecDepth 100000 in
theorem list_calls (k : Dk) (B D : Nat) (O : Nat → Prop) (w : World) (hd : Disk w B D O k) (hr : k.room ≤ 4000) :
    Calls Try.prog 27 #[.pointer (some ⟨D, 0, none⟩)] w (ListPost w k.list) := by
  have hL : k.list = if k.down then fun _ => none else k.dir := rfl
  rw [hL]
  clear hL
  obtain ⟨bd, bs, n, va, rows, hdat, hn, rfl⟩ := hd
  obtain ⟨X, h1, h2⟩ := hdat.dir
  have qc := hdat.blk.cell
  cases hdn : k.down
  · rw [hdn] at qc
    simp only [Bool.false_eq_true, if_false]
    obtain ⟨ns, hN, hl, hm, hS⟩ := sorted_calls h1 h2 (by omega)
    have hN' := Lib.hid hN
    have hm' := Lib.hid hm
    have hS' := Lib.hid hS
    have hK' := Lib.hid (keys_calls bd w)
    have hl2 : ns.length ≤ 100000 := by omega
    clear hN hm hS h1 h2 hdat hn hl
    go_enter Try.func27, Try.ntmps27
    go_wp2_with fail
    refine hK'.out.mono ?_
    rintro e w1 ⟨rfl, rfl⟩
    go_wp2_with fail
    refine hS'.out.mono ?_
    rintro e w2 ⟨v, rfl, r1, r2⟩
    have r1' := Lib.hid r1
    clear r1
    go_wp2
    go_ret
    exact ⟨v, ns, rfl, hN'.out, hl2, hm'.out, r1'.out, r2⟩
  · rw [hdn] at qc
    simp only [if_true]
    clear h1 h2 hdat hn
    go_enter Try.func27, Try.ntmps27
    go_wp2
    go_ret
    exact ⟨_, [], rfl, ⟨List.Pairwise.nil, fun x => by simp⟩, by simp, (by simp), World.ownsRow_nil _ _ _ _, Below.refl _ _⟩
end Go.Proofs.Ytgclancneohpbaa
