/- Walks: the document's disk: burn, may, done. -/
import Derived.Test.YtgclancneohpbaaRDat
namespace Go.Proofs.Ytgclancneohpbaa
open Go.RowKit Go.Maps Go.Shelf
section
variable {w w' : World} {B g : Nat} {vF vD vS vA : Value} {dv : List Value} {r : RD}
/-- what burn leaves -/
structure Burnt (w : World) (B g : Nat) (vF vD vS vA : Value) (dv : List Value) (r : RD) (w' : World) : Prop where
  dat : RDat w' B g vF vD vS vA dv r.burn
  keeps : Keeps (fun j => j = g) w w'
end
set_option maxHeartbeats 1000000 in
theorem rburn_calls (r : RD) (B g : Nat) (vF vD vS vA : Value) (dv : List Value) (w : World) (hd : RDat w B g vF vD vS vA dv r) (hf : -1 ≤ r.left ∧ r.left < 9223372036854775808) :
    Calls Try.prog 72 #[.pointer (some ⟨g, 0, none⟩)] w fun e w' => e = .returned (.bool r.burns) ∧ Burnt w B g vF vD vS vA dv r w' := by
  have qc := hd.blk.cell
  have qf := hd.blk.frozen
  have hd' := Lib.hid hd
  clear hd
  rcases Int.lt_trichotomy r.left 0 with h | h | h
  · have e1 : r.burn = r := by unfold RD.burn; rw [if_neg (by omega), if_neg (by omega)]
    have e2 : r.burns = true := by unfold RD.burns; simp; omega
    have e0 : (r.left == 0) = false := by rw [beq_eq_false_iff_ne]; omega
    have hn : ¬ 0 < r.left := by omega
    have hp : Burnt w B g vF vD vS vA dv r w := ⟨by rw [e1]; exact hd'.out, Keeps.refl _ _⟩
    have hp' := Lib.hid hp
    rw [e2]
    clear hp e1 e2
    go_enter Try.func72, Try.ntmps72
    go_wp2
    go_ret
    exact ⟨rfl, hp'.out⟩
  · have e1 : r.burn = { r with down := true } := by unfold RD.burn; rw [if_pos h]
    have e2 : r.burns = false := by unfold RD.burns; rw [h]; rfl
    have e0 : (r.left == 0) = true := by rw [h]; rfl
    have hp : Burnt w B g vF vD vS vA dv r (w.setCell ⟨g, 1, none⟩ (.bool true)) := ⟨by rw [e1]; exact ⟨hd'.out.blk.set_ 1 _, hd'.out.rest_set 1 _, hd'.out.low⟩, (Keeps.refl (fun j => j = g) w).setCell (p := ⟨g, 1, none⟩) (.inl rfl) _⟩
    have hp' := Lib.hid hp
    rw [e2]
    clear hp e1 e2
    go_enter Try.func72, Try.ntmps72
    go_wp2
    go_ret
    exact ⟨rfl, hp'.out⟩
  · have e1 : r.burn = { r with left := r.left - 1 } := by unfold RD.burn; rw [if_neg (by omega), if_pos h]
    have e2 : r.burns = true := by unfold RD.burns; simp; omega
    have e0 : (r.left == 0) = false := by rw [beq_eq_false_iff_ne]; omega
    have hp : Burnt w B g vF vD vS vA dv r (w.setCell ⟨g, 2, none⟩ (.int .i64 (r.left - 1))) := ⟨by rw [e1]; exact ⟨hd'.out.blk.set_ 2 _, hd'.out.rest_set 2 _, hd'.out.low⟩, (Keeps.refl (fun j => j = g) w).setCell (p := ⟨g, 2, none⟩) (.inl rfl) _⟩
    have hp' := Lib.hid hp
    rw [e2]
    clear hp e1 e2
    go_enter Try.func72, Try.ntmps72
    go_wp2
    go_ret
    exact ⟨rfl, hp'.out⟩
def goodN (s : ByteArray) : Bool := dName s.data.toList
theorem all_goodN {l : List ByteArray} {k : Nat} {s : ByteArray} (h : (l.take k).all goodN = true) (hs : l[k]? = some s) (hg : goodN s = true) : (l.take (k + 1)).all goodN = true := by
  rw [List.take_add_one, hs, List.all_append, h]; simp [hg]
theorem all_badN {l : List ByteArray} {k : Nat} {s : ByteArray} (hs : l[k]? = some s) (hg : goodN s = false) : l.all goodN = false := all_not hs hg
def mayE (dn : Bool) (l : List ByteArray) : Int := if dn then 6 else if l.all goodN then 0 else 2
set_option maxHeartbeats 1000000 in
theorem rmay_calls (dn : Bool) (g : Nat) (v : Value) (l : List ByteArray) (w : World) (hq : w.cell? ⟨g, 1, none⟩ = some (.bool dn)) (h : RowAt w 9 v l.length (l.map Value.string)) (hl : l.length ≤ 1000) (hs : ∀ s ∈ l, s.size ≤ maxLen) :
    Calls Try.prog 62 #[.pointer (some ⟨g, 0, none⟩), v] w fun e w' => e = .returned (.int .i64 (mayE dn l)) ∧ w = w' := by
  obtain ⟨p, c, rfl⟩ := h.slice
  have h' := Lib.hid h
  have hs' := Lib.hid hs
  clear h hs
  cases dn
  · go_enter Try.func62, Try.ntmps62
    go_wp2_with fail
    go_loop [6, 13] (fun _ i => ∃ k : Nat, k ≤ l.length ∧ i = .int .i64 k ∧ (l.take k).all goodN = true) (fun _ i => l.length - (intOf i).toNat)
    case atStart => exact ⟨0, Nat.zero_le _, rfl, rfl⟩
    case round =>
      obtain ⟨k, hk, rfl, hall⟩ := hrel
      have hall' := Lib.hid hall
      clear hall
      by_cases hlt : k < l.length
      · obtain ⟨g1, c1, hv, hc, hg, hcell⟩ := h'.out.cell (by omega)
        obtain ⟨rfl, rfl⟩ : p = some ⟨g1, 0, none⟩ ∧ c = c1 := by simpa using hv
        have hn := List.getElem?_eq_getElem hlt
        have q0 := hcell k (.string l[k]) (by rw [List.getElem?_map, hn]; rfl)
        have hN := risName_calls l[k] w (hs'.out _ (List.getElem_mem hlt))
        have hn' := Lib.hid hn
        generalize l[k] = s at *
        have hN' := Lib.hid hN
        clear hv hn hcell hN h' hq hs'
        cases hg : goodN s
        · have hN2 := hN'.out
          rw [show dName s.data.toList = false from hg] at hN2
          have hN2' := Lib.hid hN2
          have hb := all_badN hn'.out hg
          have hb' := Lib.hid hb
          clear hN2 hN' hg hb
          go_wp2_with fail
          refine hN2'.out.mono ?_
          rintro e w1 ⟨rfl, rfl⟩
          go_wp2
          go_ret
          exact ⟨by unfold mayE; rw [hb'.out]; rfl, rfl⟩
        · have hN2 := hN'.out
          rw [show dName s.data.toList = true from hg] at hN2
          have hN2' := Lib.hid hN2
          have hb := all_goodN hall'.out hn'.out hg
          have hb' := Lib.hid hb
          clear hN2 hN' hg hb
          go_wp2_with fail
          refine hN2'.out.mono ?_
          rintro e w1 ⟨rfl, rfl⟩
          go_wp2
          go_round
          case rel => exact ⟨k + 1, by omega, by go_num, hb'.out⟩
          case measure => simp [intOf]; omega
      · have hb := hall'.out
        rw [List.take_of_length_le (by omega)] at hb
        have hb' := Lib.hid hb
        clear hb
        go_wp2
        go_ret
        exact ⟨by unfold mayE; rw [hb'.out]; rfl, rfl⟩
  · go_enter Try.func62, Try.ntmps62
    go_wp2
    go_ret
    exact ⟨rfl, rfl⟩
/-- what done leaves -/
def DonePost (w : World) (v : Value) (R : RDir) (e : Ending) (w' : World) : Prop := ∃ v', e = .returned v' ∧ DirAt w' v' R ∧ (∀ g, v'.ownBlock = some g → v.ownBlock = some g ∨ w.heap.size ≤ g) ∧ Below w.heap.size w w'
theorem rset_length (d : RDir) (s : List UInt8) (f : Option Nat) : (rset d s f).length ≤ 2 * d.length + 1 := by
  have h : ∀ (d : RDir) (f : Nat) (dn : Bool), (rput s f dn d).length ≤ 2 * d.length + 1 := by
    intro d f
    induction d with
    | nil => intro dn; unfold rput; split <;> simp
    | cons n d ih =>
      intro dn
      unfold rput
      have := ih (dn || decide (s < n.1))
      rw [List.length_append, List.length_append, List.length_cons]
      split <;> split <;> simp only [List.length_cons, List.length_nil] <;> omega
  cases f <;> exact h d _ _
set_option maxHeartbeats 2000000 in
theorem rdone_calls (v : Value) (d : RDir) (a b : ByteArray) (i : Nat) (w : World) (h : DirAt w v d) (hd : d.length ≤ 40000) :
    Calls Try.prog 73 #[v, .agg #[.string a, .string b, .int .i64 i]] w (DonePost w v (rdone d ⟨a.data.toList, b.data.toList, i⟩)) := by
  have ha : a.toList = a.data.toList := Lib.toList_data a
  have hb : b.toList = b.data.toList := Lib.toList_data b
  have B1 := (Below.refl w.heap.size w).alloc (Nat.le_refl _) (.cells #[.string a, .string b, .int .i64 i] 120)
  have h1 := h.later B1
  have qc := (Blk.new w 120 #[.string a, .string b, .int .i64 i]).cell
  have hR : rdone d ⟨a.data.toList, b.data.toList, i⟩ = if b.data.toList = [] then (if a.data.toList = [] then d else rset d a.data.toList none) else rset (if a.data.toList = [] then d else rset d a.data.toList none) b.data.toList (some i) := rfl
  rw [hR]
  clear hR
  have h1' := Lib.hid h1
  clear h h1
  cases ea : a.data.toList.isEmpty
  · have hna : a.data.toList ≠ [] := by intro e; rw [e] at ea; cases ea
    have ta : a.toList.isEmpty = false := by rw [ha]; exact ea
    rw [if_neg hna]
    have hS := rset_calls v d a none (-1) _ h1'.out (by omega) rfl
    have hS' := Lib.hid hS
    clear hS
    have hlen := rset_length d a.data.toList none
    have hlen' := Lib.hid hlen
    clear hlen hna ea ha
    cases eb : b.data.toList.isEmpty
    · have hnb : b.data.toList ≠ [] := by intro e; rw [e] at eb; cases eb
      have tb : b.toList.isEmpty = false := by rw [hb]; exact eb
      rw [if_neg hnb]
      clear hnb eb hb
      go_enter Try.func73, Try.ntmps73
      go_wp2_with fail
      refine hS'.out.mono ?_
      rintro e w1 ⟨v1, rfl, k1, k2, k3⟩
      have hz := k3.size
      simp only [World.size_alloc] at hz
      have qc1 : ∀ j, w1.cell? ⟨w.heap.size, j, none⟩ = (#[.string a, .string b, .int .i64 i] : Array Value)[j]? := ((Blk.new w 120 #[.string a, .string b, .int .i64 i]).below k3 (by simp)).cell
      have hS2 := rset_calls v1 _ b (some i) i w1 k1 (by have := hlen'.out; omega) rfl
      have hS2' := Lib.hid hS2
      have B2 := B1.trans (k3.mono (by simp))
      clear hS' hS2 k1 k3 qc B1
      go_wp2_with fail
      refine hS2'.out.mono ?_
      rintro e w2 ⟨v2, rfl, m1, m2, m3⟩
      have B3 := B2.trans (m3.mono (by omega))
      clear m3 B2
      go_wp2_with fail
      go_ret
      exact ⟨v2, rfl, m1, fun g hg => .inr (by have := m2 g hg; omega), B3⟩
    · have hnb : b.data.toList = [] := List.isEmpty_iff.1 eb
      have tb : b.toList.isEmpty = true := by rw [hb]; exact eb
      rw [if_pos hnb]
      clear hnb eb hb
      go_enter Try.func73, Try.ntmps73
      go_wp2_with fail
      refine hS'.out.mono ?_
      rintro e w1 ⟨v1, rfl, k1, k2, k3⟩
      have qc1 : ∀ j, w1.cell? ⟨w.heap.size, j, none⟩ = (#[.string a, .string b, .int .i64 i] : Array Value)[j]? := ((Blk.new w 120 #[.string a, .string b, .int .i64 i]).below k3 (by simp)).cell
      have B2 := B1.trans (k3.mono (by simp))
      clear hS' k3 qc B1
      go_wp2_with fail
      go_ret
      exact ⟨v1, rfl, k1, fun g hg => .inr (by have := k2 g hg; simp at this; omega), B2⟩
  · have hna : a.data.toList = [] := List.isEmpty_iff.1 ea
    have ta : a.toList.isEmpty = true := by rw [ha]; exact ea
    rw [if_pos hna]
    clear hna ea ha
    cases eb : b.data.toList.isEmpty
    · have hnb : b.data.toList ≠ [] := by intro e; rw [e] at eb; cases eb
      have tb : b.toList.isEmpty = false := by rw [hb]; exact eb
      rw [if_neg hnb]
      clear hnb eb hb
      have hS2 := rset_calls v d b (some i) i _ h1'.out (by omega) rfl
      have hS2' := Lib.hid hS2
      clear hS2
      go_enter Try.func73, Try.ntmps73
      go_wp2_with fail
      refine hS2'.out.mono ?_
      rintro e w2 ⟨v2, rfl, m1, m2, m3⟩
      have B3 := B1.trans (m3.mono (by simp))
      clear m3 B1
      go_wp2_with fail
      go_ret
      exact ⟨v2, rfl, m1, fun g hg => .inr (by have := m2 g hg; simp at this; omega), B3⟩
    · have hnb : b.data.toList = [] := List.isEmpty_iff.1 eb
      have tb : b.toList.isEmpty = true := by rw [hb]; exact eb
      rw [if_pos hnb]
      clear hnb eb hb
      go_enter Try.func73, Try.ntmps73
      go_wp2_with fail
      go_ret
      exact ⟨v, rfl, h1'.out, fun g hg => .inl hg, B1⟩
end Go.Proofs.Ytgclancneohpbaa
