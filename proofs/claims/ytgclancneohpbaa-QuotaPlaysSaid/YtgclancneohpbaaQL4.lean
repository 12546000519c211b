/- The two quotas beside one another. -/
import Derived.Test.YtgclancneohpbaaQW6
import Derived.Test.YtgclancneohpbaaQAct
import Derived.Test.YtgclancneohpbaaQR7
namespace Go.Proofs.Ytgclancneohpbaa
open Go.RowKit
theorem Rok.of {r : RQ} (h : Rok r) {t n i : Nat} (ht : t < 18446744073709551616) {cs' : List (ByteArray × Nat)} {c : ByteArray × Nat} (hc : cs'[i]? = some c) (hl : cs'.length ≤ 100) (he : ∀ d ∈ cs', d.2 ≤ r.most) : Rok (rq r t n i cs' c) := by
  have h1 := h.tick ht
  refine ⟨h1.rate, h1.most, h1.now, fun d hd => ?_, by show (cs'.set i _).length ≤ 100; rw [List.length_set]; exact hl⟩
  show d.2 ≤ (r.tick t).most
  rw [tick_most]
  have hcl := he c (List.mem_of_getElem? hc)
  have hd' : d ∈ cs'.set i (c.1, if n ≤ c.2 then c.2 - n else c.2) := hd
  rcases List.mem_or_eq_of_mem_set hd' with h2 | rfl
  · exact he d h2
  · show (if n ≤ c.2 then c.2 - n else c.2) ≤ r.most
    split <;> omega
structure DS (B0 : Nat) (w0 : World) (loc : Nat) (cs : Array Value) (G M B g : Nat) (w : World) (m : Nat) (q : Qt) (v : Value) (r : RQ) : Prop where
  qat : Qat w G M m q
  rat : Rat w B g v r
  blk : Blk w loc 31 cs
  below : Below B0 w0 w
  size : B0 ≤ w.heap.size
  lo : B0 ≤ G ∧ B0 ≤ M ∧ G < B ∧ M < B ∧ B ≤ g
  n1 : loc ≠ G ∧ loc ≠ M ∧ loc ≠ g
  nv : v.ownBlock ≠ some loc
variable {B0 : Nat} {w0 w w' : World} {loc : Nat} {cs : Array Value} {G M B g m m' : Nat} {q q' : Qt} {v v' : Value} {r r' : RQ}
theorem DS.vlt (h : DS B0 w0 loc cs G M B g w m q v r) : ∀ k, v.ownBlock = some k → B ≤ k := fun k hk => (h.rat.own.lt k hk).1
theorem DS.prog (h : DS B0 w0 loc cs G M B g w m q v r) (hq : Qat w' G M m' q') (hk : Keeps (two G M) w w') : DS B0 w0 loc cs G M B g w' m' q' v r := by
  obtain ⟨l1, l2, l3, l4, l5⟩ := h.lo
  obtain ⟨n1, n2, n3⟩ := h.n1
  exact ⟨hq, h.rat.keeps hk (by rintro (e | e) <;> omega) (fun k hk2 => by have := h.vlt k hk2; rintro (e | e) <;> omega), h.blk.keeps hk (by rintro (e | e); exact n1 e; exact n2 e), Keeps.below_step h.below h.size hk (by rintro k (rfl | rfl) <;> assumption), Nat.le_trans h.size hk.size, h.lo, h.n1, h.nv⟩
theorem DS.ref (h : DS B0 w0 loc cs G M B g w m q v r) (hr : Rat w' B g v' r') (hk : Keeps (rset g v) w w') (hv : v' = v ∨ ∀ k, v'.ownBlock = some k → w.heap.size ≤ k) : DS B0 w0 loc cs G M B g w' m q v' r' := by
  obtain ⟨l1, l2, l3, l4, l5⟩ := h.lo
  obtain ⟨n1, n2, n3⟩ := h.n1
  have hl := h.blk.lt
  refine ⟨h.qat.keeps hk (by rintro (e | e); omega; have := h.vlt _ e; omega) (by rintro (e | e); omega; have := h.vlt _ e; omega), hr, h.blk.keeps hk (by rintro (e | e); exact n3 e; exact h.nv e), Keeps.below_step h.below h.size hk (by rintro k (rfl | e); omega; have := h.vlt _ e; omega), Nat.le_trans h.size hk.size, h.lo, h.n1, ?_⟩
  rcases hv with rfl | hv
  · exact h.nv
  · intro e; have := hv loc e; omega
theorem DS.pleft (h : DS B0 w0 loc cs G M B g w m q v r) {s : ByteArray} (hs : s.size ≤ maxLen) {t : Nat} (ht : t < 18446744073709551616) :
    Calls Try.prog 16 #[.pointer (some ⟨G, 0, none⟩), .string s, .int .u64 t] w fun e w' => e = .returned (.int .u64 ((q.left t).has s.data.toList (max q.now t) : Nat)) ∧ DS B0 w0 loc cs G M B g w' m (q.left t) v r := by
  refine (left_calls q G M m s t w h.qat hs ht).mono ?_
  rintro e w' ⟨he, h1, h2⟩
  exact ⟨he, h.prog h1 (h2.mono (fun _ _ e => .inl e))⟩
theorem DS.rleft (h : DS B0 w0 loc cs G M B g w m q v r) (hk : Rok r) (s : ByteArray) {t : Nat} (ht : t < 18446744073709551616) :
    Calls Try.prog 17 #[.pointer (some ⟨g, 0, none⟩), .string s, .int .u64 t] w fun e w' => e = .returned (.int .u64 ((look (r.tick t).cs s.data.toList).getD r.most : Nat)) ∧ DS B0 w0 loc cs G M B g w' m q v (r.tick t) := by
  refine (rleft_calls r B g v s t w h.rat hk ht).mono ?_
  rintro e w' ⟨he, h1, h2⟩
  exact ⟨he, h.ref h1 h2 (.inl rfl)⟩
theorem DS.ptake (h : DS B0 w0 loc cs G M B g w m q v r) (hm : m < maxLen) {s : ByteArray} (hs : s.size ≤ maxLen) (n : Nat) {t : Nat} (ht : t < 18446744073709551616) :
    Calls Try.prog 18 #[.pointer (some ⟨G, 0, none⟩), .string s, .int .u64 n, .int .u64 t] w fun e w' => e = .returned (.bool (q.enough s.data.toList n t)) ∧ DS B0 w0 loc cs G M B g w' (m + 1) (q.take s.data.toList n t) v r := by
  refine (take_calls q G M m s n t w h.qat hm hs ht).mono ?_
  rintro e w' ⟨he, h1, h2⟩
  exact ⟨he, h.prog h1 h2⟩
/-- what both come to -/
def Both (B0 : Nat) (w0 : World) (loc : Nat) (cs : Array Value) (G M B g : Nat) (w : World) (m k : Nat) (q : Qt) : Prop := ∃ v r, DS B0 w0 loc cs G M B g w m q v r ∧ Sim q r ∧ Rok r ∧ r.cs.length ≤ k
theorem DS.rtake {q2 : Qt} {k : Nat} (h : DS B0 w0 loc cs G M B g w m q2 v r) (hS : Sim q r) (hk : Rok r) (hkl : r.cs.length ≤ k) (h80 : k ≤ 80) (s : ByteArray) (n : Nat) {t : Nat} (ht : t < 18446744073709551616) :
    Calls Try.prog 19 #[.pointer (some ⟨g, 0, none⟩), .string s, .int .u64 n, .int .u64 t] w fun e w' => e = .returned (.bool (q.enough s.data.toList n t)) ∧ ∃ v' r', DS B0 w0 loc cs G M B g w' m q2 v' r' ∧ Sim (q.take s.data.toList n t) r' ∧ Rok r' ∧ r'.cs.length ≤ k + 1 := by
  obtain ⟨l1, l2, l3, l4, l5⟩ := h.lo
  refine (rtake_calls r B g v s n t w h.rat hk ht (hS.tick ht).sorted (by have := h.rat.lt; omega)).mono ?_
  unfold TakePost
  rintro e w' ⟨i, cs', c, v', rfl, hA, hl, he, hR, hkp, hv⟩
  obtain ⟨e1, hS2⟩ := hS.take (n := n) ht hA
  exact ⟨by rw [e1], v', _, h.ref hR hkp hv, hS2, hk.of ht hA.here (by omega) he, by show (cs'.set i _).length ≤ _; rw [List.length_set]; omega⟩
end Go.Proofs.Ytgclancneohpbaa
