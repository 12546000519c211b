/- The acts of layer 1; few, same. -/
import Derived.Test.YtgclancneohpbaaRW12
namespace Go.Proofs.Ytgclancneohpbaa
open Go.RowKit Go.Maps Go.Shelf Go.Sort
structure LAct where
  kind : Nat
  (a b : ByteArray)
  v : Value
  bytes : List UInt8
  n : Int
def LAct.cells (x : LAct) : List Value := [.int .u8 x.kind, .string x.a, .string x.b, x.v, .int .i64 x.n]
structure LAct.fits (w : World) (x : LAct) : Prop where
  kind : x.kind < 256
  a : x.a.size ≤ maxLen
  b : x.b.size ≤ maxLen
  v : Bytes w x.v x.bytes
  lt : ∀ j, x.v.ownBlock = some j → x.bytes ≠ [] → j < w.heap.size
  len : x.bytes.length ≤ maxLen
  n : -9223372036854775808 ≤ x.n ∧ x.n < 9223372036854775808
def LAct.few (x : LAct) : Bool := decide (x.bytes.length ≤ 300) && (decide (x.a.size ≤ 60) && decide (x.b.size ≤ 60))
def lfew (l : List LAct) : Bool := l.all LAct.few && decide (l.length ≤ 120)
theorem lact_at {w w' : World} {B : Nat} {p : Option Addr} {l : List LAct} (h : holdsL w p 5 LAct.cells l) (hB : w.heap.size ≤ B) (hb : Below B w w') {k : Nat} {x : LAct} (hx : l[k]? = some x) :
    ∃ a b : Addr, p = some a ∧ a.add (k * 5) = b ∧ b.block < w.heap.size ∧ w'.cell? b = some (.int .u8 x.kind) ∧ w'.cell? ⟨b.block, b.off + 1, none⟩ = some (.string x.a) ∧ w'.cell? ⟨b.block, b.off + 2, none⟩ = some (.string x.b) ∧ w'.cell? ⟨b.block, b.off + 3, none⟩ = some x.v ∧ w'.cell? ⟨b.block, b.off + 4, none⟩ = some (.int .i64 x.n) := by
  obtain ⟨a, b, h1, h2, h3, h4⟩ := h.at_ hB hb hx
  exact ⟨a, b, h1, h2, h3, by simpa [Addr.add] using h4 0 _ rfl, by simpa [Addr.add] using h4 1 _ rfl, by simpa [Addr.add] using h4 2 _ rfl, by simpa [Addr.add] using h4 3 _ rfl, by simpa [Addr.add] using h4 4 _ rfl⟩
set_option maxHeartbeats 2000000 in
set_option maxRecDepth 100000 in
theorem few01_calls (l : List LAct) (p : Option Addr) (cap : Nat) (w : World) (hl : l.length ≤ maxLen) (hh : holdsL w p 5 LAct.cells l) (hf : ∀ x ∈ l, x.fits w) :
    Calls Try.prog 31 #[.slice p l.length cap] w fun e w' => e = .returned (.bool (lfew l)) ∧ Below w.heap.size w w' := by
  unfold maxLen at hl
  generalize hlen : l.length = n at hl
  have hlen' := Lib.hid hlen
  clear hlen
  have hh' := Lib.hid hh
  have hf' := Lib.hid hf
  clear hh hf
  go_enter Try.func31, Try.ntmps31
  go_wp2_with fail
  go_loopw [4, 7] (fun _ i wr => ∃ k : Nat, k ≤ n ∧ i = .int .i64 k ∧ (∀ j y, j < k → l[j]? = some y → LAct.few y = true) ∧ Below w.heap.size w wr) (fun _ i _ => n - (intOf i).toNat)
  case atStart => exact ⟨0, Nat.zero_le _, rfl, fun j y hj => absurd hj (by omega), Below.refl _ _⟩
  case round =>
    obtain ⟨k, hk, rfl, hall, hB⟩ := hrel
    have hall' := Lib.hid hall
    clear hall
    have hz := hB.size
    by_cases hlt : k < n
    · obtain ⟨x, hx⟩ : ∃ x, l[k]? = some x := ⟨_, List.getElem?_eq_getElem (by have := hlen'.out; omega)⟩
      obtain ⟨a, b, rfl, hab, hbb, q0, q1, q2, q3, q4⟩ := lact_at hh'.out (Nat.le_refl _) hB hx
      have hx' := Lib.hid hx
      have hft := hf'.out x (List.mem_of_getElem? hx)
      have hft1 := hft.a
      have hft2 := hft.b
      have hft3 := hft.len
      unfold maxLen at hft1 hft2 hft3
      obtain ⟨pv, cv, hpv⟩ := hft.v.slice
      rw [hpv] at q3
      clear hx hft hpv
      by_cases hfew : x.bytes.length ≤ 300 ∧ x.a.size ≤ 60 ∧ x.b.size ≤ 60
      · have h1 := take_all hall'.out hx'.out (show LAct.few x = true by unfold LAct.few; simpa using hfew)
        have h1' := Lib.hid h1
        obtain ⟨f1, f2, f3⟩ := hfew
        clear h1
        go_wp2
        go_roundw
        case rel => exact ⟨k + 1, by omega, by go_num, h1'.out, hB.alloc hz _⟩
        case measure => simp [intOf]; omega
      · have h1 : lfew l = false := by
          unfold lfew
          rw [all_not hx'.out (show LAct.few x = false by
            unfold LAct.few
            rw [Bool.eq_false_iff]
            intro e
            exact hfew (by simpa using e))]
          rfl
        have h1' := Lib.hid h1
        clear h1
        have hcases : (¬ x.bytes.length ≤ 300) ∨ (x.bytes.length ≤ 300 ∧ ¬ x.a.size ≤ 60) ∨ (x.bytes.length ≤ 300 ∧ x.a.size ≤ 60 ∧ ¬ x.b.size ≤ 60) := by omega
        clear hfew
        rcases hcases with f1 | ⟨f1, f2⟩ | ⟨f1, f2, f3⟩
        all_goals
          go_wp2
          go_ret
          exact ⟨ret_bool h1'.out.symm, hB.alloc hz _⟩
    · have ha : l.all LAct.few = true := all_of fun j y hj hy => hall'.out j y (by have := hlen'.out; omega) hy
      have h1 : lfew l = decide ((n : Int) ≤ 120) := by
        unfold lfew
        rw [ha, hlen'.out, Bool.true_and]
        congr 1
        exact propext (by omega)
      have h1' := Lib.hid h1
      clear h1 ha
      go_wp2
      go_ret
      exact ⟨ret_bool (by rw [h1'.out]), hB⟩
theorem rowStr_at {w : World} {p : Option Addr} {c : Nat} {l : List (List UInt8)} (h : RowAt w 9 (.slice p l.length c) l.length (l.map encStr)) {k : Nat} (hk : k < l.length) : ∃ (g : Nat) (s : ByteArray), p = some ⟨g, 0, none⟩ ∧ l.length ≤ c ∧ g < w.heap.size ∧ s.data.toList = l[k] ∧ w.cell? ⟨g, k, none⟩ = some (.string s) := by
  obtain ⟨g, c', hv, hc, hl, h⟩ := h.cell (by omega)
  injection hv with e1 _ e2
  refine ⟨g, ⟨l[k].toArray⟩, e1, by omega, hl, by simp, h k _ ?_⟩
  rw [List.getElem?_map, List.getElem?_eq_getElem hk]; rfl
set_option maxHeartbeats 2000000 in
set_option maxRecDepth 100000 in
theorem same01_calls (l : List (List UInt8)) (v1 v2 : Value) (w : World) (h1 : RowAt w 9 v1 l.length (l.map encStr)) (h2 : RowAt w 9 v2 l.length (l.map encStr)) (hl : l.length ≤ 100000) :
    Calls Try.prog 35 #[v1, v2] w fun e w' => e = .returned (.bool true) ∧ Below w.heap.size w w' := by
  obtain ⟨p1, c1, rfl⟩ := h1.slice
  obtain ⟨p2, c2, rfl⟩ := h2.slice
  have h1' := Lib.hid h1
  have h2' := Lib.hid h2
  clear h1 h2
  go_enter Try.func35, Try.ntmps35
  go_wp2_with fail
  go_loopw [5, 13] (fun _ i wr => ∃ k : Nat, k ≤ l.length ∧ i = .int .i64 k ∧ Below w.heap.size w wr) (fun _ i _ => l.length - (intOf i).toNat)
  case atStart => exact ⟨0, Nat.zero_le _, rfl, Below.refl _ _⟩
  case round =>
    obtain ⟨k, hk, rfl, hB⟩ := hrel
    by_cases hlt : k < l.length
    · obtain ⟨g1, s1, rfl, hc1, hg1, e1, q1⟩ := rowStr_at h1'.out hlt
      obtain ⟨g2, s2, rfl, hc2, hg2, e2, q2⟩ := rowStr_at h2'.out hlt
      have es : s1 = s2 := by
        apply ByteArray.ext; apply Array.toList_inj.1; rw [e1, e2]
      subst es
      have q1' := (hB.cell (p := ⟨g1, k, none⟩) hg1).trans q1
      have q2' := (hB.cell (p := ⟨g2, k, none⟩) hg2).trans q2
      have k0 : (0 : Int) ≤ (k : Int) := by omega
      have k1 : (k : Int) < (l.length : Int) := by omega
      have hss : (s1.toList != s1.toList) = false := by simp
      clear e1 e2 q1 q2
      go_wp2_with fail
      go_quiet (fail)
      rename_i nq
      go_wp2_with fail
      go_roundw
      case rel => exact ⟨k + 1, by omega, by go_num, bdrewN hB nq⟩
      case measure => simp [intOf]; omega
    · go_wp2_with fail
      go_ret
      exact ⟨rfl, hB⟩
end Go.Proofs.Ytgclancneohpbaa
