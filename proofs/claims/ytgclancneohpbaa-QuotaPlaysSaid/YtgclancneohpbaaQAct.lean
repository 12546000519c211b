/- The acts of layer 38; few. -/
import Derived.Test.YtgclancneohpbaaHold
import Derived.Test.YtgclancneohpbaaProg
namespace Go.Proofs.Ytgclancneohpbaa
open Go.RowKit
structure QAct where
  ask : Bool
  client : ByteArray
  (n now : Nat)
def QAct.cells (x : QAct) : List Value := [.bool x.ask, .string x.client, .int .u64 x.n, .int .u64 x.now]
structure QAct.fits (x : QAct) : Prop where
  client : x.client.size ≤ maxLen
  n : x.n < 18446744073709551616
  now : x.now < 18446744073709551616
def QAct.few (x : QAct) : Bool := decide (x.client.size ≤ 100)
def qfew (l : List QAct) : Bool := l.all QAct.few && decide (l.length ≤ 80)
theorem qact_at {w w' : World} {B : Nat} {p : Option Addr} {l : List QAct} (h : holdsL w p 4 QAct.cells l) (hB : w.heap.size ≤ B) (hb : Below B w w') {k : Nat} {x : QAct} (hx : l[k]? = some x) :
    ∃ a b : Addr, p = some a ∧ a.add (k * 4) = b ∧ b.block < w.heap.size ∧ w'.cell? b = some (.bool x.ask) ∧ w'.cell? ⟨b.block, b.off + 1, none⟩ = some (.string x.client) ∧ w'.cell? ⟨b.block, b.off + 2, none⟩ = some (.int .u64 x.n) ∧ w'.cell? ⟨b.block, b.off + 3, none⟩ = some (.int .u64 x.now) := by
  obtain ⟨a, b, h1, h2, h3, h4⟩ := h.at_ hB hb hx
  exact ⟨a, b, h1, h2, h3, by simpa [Addr.add] using h4 0 _ rfl, by simpa [Addr.add] using h4 1 _ rfl, by simpa [Addr.add] using h4 2 _ rfl, by simpa [Addr.add] using h4 3 _ rfl⟩
set_option maxHeartbeats 2000000 in
set_option maxRecDepth 100000 in
theorem few38_calls (l : List QAct) (p : Option Addr) (cap : Nat) (w : World) (hl : l.length ≤ maxLen) (hh : holdsL w p 4 QAct.cells l) (hf : ∀ x ∈ l, x.fits) :
    Calls Try.prog 13 #[.slice p l.length cap] w fun e w' => e = .returned (.bool (qfew l)) ∧ Below w.heap.size w w' := by
  unfold maxLen at hl
  generalize hlen : l.length = n at hl
  have hlen' := Lib.hid hlen
  clear hlen
  have hh' := Lib.hid hh
  clear hh
  go_enter Try.func13, Try.ntmps13
  go_wp2_with fail
  go_loopw [7] (fun i wr => ∃ k : Nat, k ≤ n ∧ i = .int .i64 k ∧ (∀ j y, j < k → l[j]? = some y → QAct.few y = true) ∧ Below w.heap.size w wr) (fun i _ => n - (intOf i).toNat)
  case atStart => exact ⟨0, Nat.zero_le _, rfl, fun j y hj => absurd hj (by omega), Below.refl _ _⟩
  case round =>
    obtain ⟨k, hk, rfl, hall, hB⟩ := hrel
    have hall' := Lib.hid hall
    clear hall
    have hz := hB.size
    by_cases hlt : k < n
    · obtain ⟨x, hx⟩ : ∃ x, l[k]? = some x := ⟨_, List.getElem?_eq_getElem (by have := hlen'.out; omega)⟩
      obtain ⟨a, b, rfl, hab, hbb, q0, q1, q2, q3⟩ := qact_at hh'.out (Nat.le_refl _) hB hx
      have hx' := Lib.hid hx
      have hft := (hf x (List.mem_of_getElem? hx)).client
      unfold maxLen at hft
      clear hx
      by_cases hfew : x.client.size ≤ 100
      · have h1 := take_all hall'.out hx'.out (show QAct.few x = true from decide_eq_true hfew)
        have h1' := Lib.hid h1
        clear h1
        go_wp2
        go_roundw
        case rel => exact ⟨k + 1, by omega, by go_num, h1'.out, hB.alloc hz _⟩
        case measure => simp [intOf]; omega
      · have h1 : qfew l = false := by
          unfold qfew
          rw [all_not hx'.out (show QAct.few x = false from decide_eq_false hfew)]
          rfl
        have h1' := Lib.hid h1
        clear h1
        go_wp2
        go_ret
        exact ⟨ret_bool h1'.out.symm, hB.alloc hz _⟩
    · have ha : l.all QAct.few = true := all_of fun j y hj hy => hall'.out j y (by have := hlen'.out; omega) hy
      have h1 : qfew l = decide ((n : Int) ≤ 80) := by
        unfold qfew
        rw [ha, hlen'.out, Bool.true_and]
        congr 1
        exact propext (by omega)
      have h1' := Lib.hid h1
      clear h1 ha
      go_wp2
      go_ret
      exact ⟨ret_bool (by rw [h1'.out]), hB⟩
end Go.Proofs.Ytgclancneohpbaa
