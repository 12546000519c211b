/- Walks: the program's quota: Clients, by names; fixed of layer 38. -/
import Derived.Test.YtgclancneohpbaaQW5
import Derived.Sort.KeysCollected
import Derived.Maps.Range
import Derived.RangeFuncBox
namespace Go.Proofs.Ytgclancneohpbaa
open Go.RowKit Go.Maps Go.Sort
theorem names_perm {w : World} {b n : Nat} {D : DataW Unit} {f : List UInt8 → Option (Nat × Nat)} (h1 : w.ownsMap Try.prog 9 purseR b n D) (h2 : mapIs D f) {ns : List (List UInt8)} (hnd : ns.Nodup) (hm : ∀ x, x ∈ ns ↔ (f x).isSome = true) : ns.Perm (strKeys D) := by
  obtain ⟨es, hD, hpw, _⟩ := h1.entries str_keyed
  obtain ⟨es', hD', hko⟩ := h1.keysOf
  obtain rfl : es = es' := by rw [hD] at hD'; simpa using hD'
  subst hD
  exact perm_strKeys hpw (fun p hp => by obtain ⟨v, hv⟩ := hko p hp; obtain ⟨x, _, hx, _⟩ := Maps.keyOf_str Try.underlying9 hv; exact ⟨x, hx⟩) hnd (fun x => by rw [hm x, (h2 x).1])
/-- Clients: the names in order -/
theorem clients_named (q : Qt) (g b n : Nat) (w : World) (ns : List (List UInt8)) (hq : Qat w g b n q) (hn : n ≤ 100) (hs : ns.Pairwise (fun x y => x < y)) (hm : ∀ x, x ∈ ns ↔ (q.f x).isSome = true) :
    Calls Try.prog 20 #[.pointer (some ⟨g, 0, none⟩)] w fun e w' => ∃ v, e = .returned v ∧ w'.ownsRow w.heap.size 9 1 v ns.length (ns.map encStr) ∧ Below w.heap.size w w' := by
  refine (clients_calls q g b n w hq hn).mono ?_
  rintro e w' ⟨v, ss, D, rfl, h1, h2, hp, hrow, hb⟩
  have hnd : ns.Nodup := hs.imp (fun {a b} h e => by subst e; exact absurd h (List.lt_irrefl a))
  have hp2 : ss.Perm ns := hp.trans (names_perm h1 h2 hnd hm).symm
  have hsort : ss.mergeSort (fun x y => decide (x ≤ y)) = ns := by
    have h3 : ss.mergeSort leB = ns.mergeSort leB := mergeSort_of_perm hp2
    have h4 : ns.mergeSort leB = ns := List.mergeSort_of_pairwise (hs.imp (fun {a b} h => by simp only [leB, decide_eq_true_eq]; exact List.le_of_lt h))
    exact h3.trans h4
  rw [hsort, hp2.length_eq] at hrow
  exact ⟨v, rfl, hrow, hb⟩
def qA : Qt := Qt.new 1 3
def qB : Qt := qA.take [97] 3 5
def qC : Qt := qB.take [97] 1 5
def qD : Qt := qC.take [97] 1 6
theorem qfix : qA.enough [97] 3 5 = true ∧ qB.enough [97] 1 5 = false ∧ qC.enough [97] 1 6 = true ∧ (qD.left 6).has [98] (max qD.now 6) = 3 := by decide +kernel
theorem qnames (x : List UInt8) : x ∈ [[97]] ↔ ((qD.left 6).f x).isSome = true := by
  by_cases h : x = [97]
  · subst h; exact ⟨fun _ => by decide +kernel, fun _ => by simp⟩
  · have e : (qD.left 6).f x = none := by
      show (if x = [97] then _ else if x = [97] then _ else if x = [97] then _ else none) = none
      rw [if_neg h, if_neg h, if_neg h]
    rw [e]
    simp [h]
set_option maxHeartbeats 2000000 in
set_option maxRecDepth 100000 in
theorem fixed38_calls (w : World) : Calls Try.prog 12 #[] w fun e w' => e = .returned (.bool true) ∧ Below w.heap.size w w' := by
  obtain ⟨e1, e2, e3, e4⟩ := qfix
  have hN := qnew_calls 1 3 w (by omega) (by omega)
  go_enter Try.func12, Try.ntmps12
  go_wp2_with fail
  refine hN.mono ?_
  clear hN
  rintro e w1 ⟨rfl, q1, B1, z1⟩
  have hA : (Qt.new 1 3) = qA := rfl
  rw [hA] at q1
  have hT : ∀ k, two (w.heap.size + 1) w.heap.size k → w.heap.size ≤ k := fun k hk => by rcases hk with rfl | rfl <;> omega
  have hO : ∀ k, k = w.heap.size + 1 → w.heap.size ≤ k := fun k hk => by omega
  generalize hG : w.heap.size + 1 = G at *
  have ht1 := take_calls qA G w.heap.size 0 ⟨#[97]⟩ 3 5 w1 q1 (by decide) (by decide) (by omega)
  rw [show qA.enough (⟨#[97]⟩ : ByteArray).data.toList 3 5 = true from e1] at ht1
  go_wp2_with fail
  refine ht1.mono ?_
  rintro e w2 ⟨rfl, q2, k2⟩
  have B2 := Keeps.below_step B1 B1.size k2 hT
  have ht2 := take_calls qB G w.heap.size 1 ⟨#[97]⟩ 1 5 w2 q2 (by decide) (by decide) (by omega)
  rw [show qB.enough (⟨#[97]⟩ : ByteArray).data.toList 1 5 = false from e2] at ht2
  clear ht1 q1 k2 B1
  go_wp2_with fail
  refine ht2.mono ?_
  rintro e w3 ⟨rfl, q3, k3⟩
  have B3 := Keeps.below_step B2 B2.size k3 hT
  have ht3 := take_calls qC G w.heap.size 2 ⟨#[97]⟩ 1 6 w3 q3 (by decide) (by decide) (by omega)
  rw [show qC.enough (⟨#[97]⟩ : ByteArray).data.toList 1 6 = true from e3] at ht3
  clear ht2 q2 k3 B2
  go_wp2_with fail
  refine ht3.mono ?_
  rintro e w4 ⟨rfl, q4, k4⟩
  have B4 := Keeps.below_step B3 B3.size k4 hT
  have ht4 := left_calls qD G w.heap.size 3 ⟨#[98]⟩ 6 w4 q4 (by decide) (by omega)
  rw [show (qD.left 6).has (⟨#[98]⟩ : ByteArray).data.toList (max qD.now 6) = 3 from e4] at ht4
  clear ht3 q3 k4 B3
  go_wp2_with fail
  refine ht4.mono ?_
  rintro e w5 ⟨rfl, q5, k5⟩
  have B5 := Keeps.below_step B4 B4.size k5 hO
  have ht5 := clients_named (qD.left 6) G w.heap.size 3 w5 [[97]] q5 (by omega) (by simp) qnames
  clear ht4 q4 k5 B4
  go_wp2_with fail
  refine ht5.mono ?_
  rintro e w6 ⟨v, rfl, hrow, hb6⟩
  obtain ⟨g', cap, rfl⟩ := ownsRow_succ hrow
  have B6 := B5.trans (hb6.mono B5.size)
  go_wp2
  go_ret
  exact ⟨rfl, B6⟩
end Go.Proofs.Ytgclancneohpbaa
