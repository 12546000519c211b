/- Walks: the document's quota: Left, Take. -/
import Derived.Test.YtgclancneohpbaaQR5
namespace Go.Proofs.Ytgclancneohpbaa
open Go.RowKit
theorem at_calls (r : RQ) (B g : Nat) (v : Value) (s : ByteArray) (w : World) (hr : Rat w B g v r) (hk : Rok r) (hs : sorted r.cs) (hB : B ≤ w.heap.size) :
    Calls Try.prog 43 #[.pointer (some ⟨g, 0, none⟩), .string s] w (AtPost w B g v r s) := by
  obtain ⟨_, ⟨rfl, h0⟩ | ⟨b, cap, cur, rfl, _⟩⟩ := hr.own
  · obtain ⟨rate, most, now, cs⟩ := r
    obtain rfl : cs = [] := List.eq_nil_of_length_eq_zero h0
    exact at_nil rate most now B g s w hr hB
  · exact at_some r B g b cap s w hr hk hs hB
theorem Rat.lt {w : World} {B g : Nat} {v : Value} {r : RQ} (h : Rat w B g v r) : g < w.heap.size := h.blk.lt
theorem look_first : ∀ (cs : List (ByteArray × Nat)) (k : Nat) {c : ByteArray × Nat} {n : List UInt8}, cs[k]? = some c → nm c = n → (∀ j d, j < k → cs[j]? = some d → nm d ≠ n) → look cs n = some c.2
  | [], k, c, n, h, _, _ => by simp at h
  | d :: cs, 0, c, n, h, hn, _ => by
    obtain rfl : d = c := by simpa using h
    rw [look_cons, if_pos hn]
  | d :: cs, k + 1, c, n, h, hn, ha => by
    rw [look_cons, if_neg (ha 0 d (by omega) rfl)]
    exact look_first cs k (by simpa using h) hn (fun j e hj he => ha (j + 1) e (by omega) (by simpa using he))
/-- what a call leaves of the document's quota -/
structure RPost (w : World) (B g : Nat) (v : Value) (r' : RQ) (v' : Value) (w' : World) : Prop where
  rat : Rat w' B g v' r'
  keeps : Keeps (rset g v) w w'
  lies : v' = v ∨ ∀ k, v'.ownBlock = some k → w.heap.size ≤ k
set_option maxHeartbeats 4000000 in
set_option maxRecDepth 100000 in
theorem rleft_calls (r : RQ) (B g : Nat) (v : Value) (s : ByteArray) (t : Nat) (w : World) (hr : Rat w B g v r) (hk : Rok r) (ht : t < 18446744073709551616) :
    Calls Try.prog 17 #[.pointer (some ⟨g, 0, none⟩), .string s, .int .u64 t] w fun e w' => e = .returned (.int .u64 ((look (r.tick t).cs s.data.toList).getD r.most : Nat)) ∧ Rat w' B g v (r.tick t) ∧ Keeps (rset g v) w w' := by
  have hT := tick_calls r B g t v w hr hk ht
  have hlen := (hk.tick ht).len
  have hm : (r.tick t).most = r.most := by unfold RQ.tick; split <;> rfl
  generalize r.tick t = q at *
  clear hr hk
  go_enter Try.func17, Try.ntmps17
  go_wp2_with fail
  refine hT.mono ?_
  clear hT
  rintro e w1 ⟨rfl, hR1, hk1⟩
  have qc := hR1.blk.cell
  obtain ⟨p, cap, rfl⟩ := own_shape hR1.own
  have hR1' := Lib.hid hR1
  clear hR1
  go_wp2_with fail
  clear qc
  go_loopw [17] (fun i wr => ∃ k : Nat, k ≤ q.cs.length ∧ i = .int .i64 k ∧ (∀ j c, j < k → q.cs[j]? = some c → nm c ≠ s.data.toList) ∧ Below w1.heap.size w1 wr) (fun i _ => q.cs.length - (intOf i).toNat)
  case atStart => exact ⟨0, Nat.zero_le _, rfl, fun j c hj => absurd hj (by omega), Below.refl _ _⟩
  case round =>
    obtain ⟨k, hk2, rfl, hall, hB1⟩ := hrel
    have hall' := Lib.hid hall
    clear hall
    have hR := hR1'.out.keeps (S := fun _ => False) (.of_below hB1) id (fun _ _ => id)
    have hz := hB1.size
    by_cases hlt : k < q.cs.length
    · obtain ⟨c, hc⟩ : ∃ c, q.cs[k]? = some c := ⟨_, List.getElem?_eq_getElem hlt⟩
      obtain ⟨b, rfl⟩ := own_some hR.own (by omega)
      obtain ⟨d0, d1⟩ := rcells_at _ k c hc
      have a0 := (hR.own.cellAt (k * 2) (by omega)).trans d0
      have a1 := (hR.own.cellAt (k * 2 + 1) (by omega)).trans d1
      have hc' := Lib.hid hc
      clear d0 d1 hc
      by_cases he : c.1.toList == s.toList
      · have hn : nm c = s.data.toList := by
          show c.1.data.toList = _
          rw [← Lib.toList_data, ← Lib.toList_data]
          simpa using he
        have hl : look q.cs s.data.toList = some c.2 := look_first q.cs k hc'.out hn hall'.out
        have hl' := Lib.hid hl
        have hR2 := hR1'.out.keeps (S := fun _ => False) (.of_below (hB1.alloc hz (.cells #[.string c.1, .int .u64 c.2] 40))) id (fun _ _ => id)
        have hR2' := Lib.hid hR2
        clear hl hR hR2 hn
        go_wp2
        go_ret
        exact ⟨by rw [hl'.out]; rfl, hR2'.out, hk1.step (.of_below (S := fun _ => False) (hB1.alloc hz _)) (fun _ e => e.elim)⟩
      · have he' : (c.1.toList == s.toList) = false := by simpa using he
        have hn : nm c ≠ s.data.toList := by
          show c.1.data.toList ≠ _
          rw [← Lib.toList_data, ← Lib.toList_data]
          intro e
          rw [e] at he
          simp at he
        have hall2 : ∀ j d, j < k + 1 → q.cs[j]? = some d → nm d ≠ s.data.toList := by
          intro j d hj hd
          by_cases e : j = k
          · subst e
            rw [hc'.out] at hd
            obtain rfl := Option.some.inj hd
            exact hn
          · exact hall'.out j d (by omega) hd
        have hall2' := Lib.hid hall2
        clear hall2 hR hn he
        go_wp2
        go_roundw
        case rel => exact ⟨k + 1, by omega, by go_num, hall2'.out, hB1.alloc hz _⟩
        case measure => simp [intOf]; omega
    · have hno : look q.cs s.data.toList = none := look_none fun c hc => by
        obtain ⟨j, hj⟩ := List.getElem?_of_mem hc
        exact hall'.out j c (by have := (List.getElem?_eq_some_iff.1 hj).1; omega) hj
      have hno' := Lib.hid hno
      have hR' := Lib.hid hR
      have qc := hR.blk.cell
      clear hno hall' hR
      go_wp2
      go_ret
      exact ⟨by rw [hno'.out, ← hm]; rfl, hR'.out, hk1.step (.of_below (S := fun _ => False) hB1) (fun _ e => e.elim)⟩
end Go.Proofs.Ytgclancneohpbaa
