/- Bytes in memory: cut, and put behind bytes. Plain words on tuples. No program in sight. The order of tuples, plainly: no program in sight. The order of tuples, and a set of them, plainly: no program in sight. -/
import Derived.Test.YtabcdodjkfknlaaGreatDoorPN03
import Derived.Test.YtabcdodjkfknlaaGreatDoorPN10
import Derived.Lib.AppendStr
import Derived.Test.YtabcdodjkfknlaaGreatDoorPN01
import Derived.Lib.Bytealg
import Derived.Lib.Join
namespace Go.Proofs.YtabcdodjkfknlaaGreatDoor
open Go.RowKit
/-- bytes in a row of the call's own, no block below B -/
def BOwn (B : Nat) (w : World) (v : Value) (l : List UInt8) : Prop := w.ownsRow B 5 1 v l.length (bcells l)
section
variable {B B' : Nat} {w w' : World} {v : Value} {l : List UInt8} {S : Nat → Prop}
theorem BOwn.nil (B : Nat) (w : World) : BOwn B w (.slice none 0 0) [] := World.ownsRow_nil _ _ _ _
theorem BOwn.bytes (h : BOwn B w v l) : Bytes w v l := Bytes.of_own h
theorem BOwn.keeps (h : BOwn B w v l) (hk : Keeps S w w') (hs : ∀ g, v.ownBlock = some g → ¬ S g) : BOwn B w' v l := own_keeps h hk hs
theorem BOwn.later (h : BOwn B w v l) (hb : Below w.heap.size w w') : BOwn B w' v l := h.keeps (S := fun _ => False) (.of_below hb) (fun _ _ => id)
theorem BOwn.lt (h : BOwn B w v l) : ∀ g, v.ownBlock = some g → B ≤ g ∧ g < w.heap.size := fun g hg => World.ownsRow.lt h g hg
theorem BOwn.slice (h : BOwn B w v l) : ∃ p c, v = .slice p l.length c := own_slice h
theorem BOwn.mono (h : BOwn B w v l) (hb : B' ≤ B) : BOwn B' w v l := by
  obtain ⟨h1, h2 | ⟨g, cap, cur, h2, h3, hr⟩⟩ := h
  · exact ⟨h1, .inl h2⟩
  · exact ⟨h1, .inr ⟨g, cap, cur, h2, Nat.le_trans hb h3, hr⟩⟩
theorem BOwn.blk_ne {g : Nat} {T : TypeId} {cs : Array Value} (h : BOwn B w v l) (hg : Blk w g T cs) (hne : 5 ≠ T) : v.ownBlock ≠ some g := own_blk_ne h hg hne
/-- bytes behind bytes of one's own -/
theorem BOwn.put {b : Value} {l' : List UInt8} (h : BOwn B w v l) (hb : Bytes w b l') (hn : l.length + l'.length ≤ 100000000000) (hB : B ≤ w.heap.size) :
    ∃ p c w', (dappOp #[43, 43] 43 #[v, b]).run Tryz.prog w = .ok (.slice p (l.length + l'.length) c) w' ∧ BOwn B w' (.slice p (l.length + l'.length) c) (l ++ l') ∧ Keeps (fun j => v.ownBlock = some j) w w' := by
  obtain ⟨v', w', h1, h2, h3, _⟩ := bytes_append h hb hn hB
  obtain ⟨p, c, rfl⟩ := own_slice h2
  rw [List.length_append] at h1 h2
  refine ⟨p, c, w', h1, ?_, (Keeps.refl _ w).grown h3 fun k e => .inl e⟩
  unfold BOwn
  rw [List.length_append]
  exact h2
theorem strB (s : ByteArray) : Lib.strCells s = bcells s.data.toList := rfl
/-- a text's bytes behind bytes of one's own -/
theorem BOwn.putS {s : ByteArray} (h : BOwn B w v l) (hn : l.length + s.size ≤ 100000000000) (hB : B ≤ w.heap.size) :
    ∃ p c w', (dappOp #[43, 9] 43 #[v, .string s]).run Tryz.prog w = .ok (.slice p (l ++ s.data.toList).length c) w' ∧ BOwn B w' (.slice p (l ++ s.data.toList).length c) (l ++ s.data.toList) ∧ Keeps (fun j => v.ownBlock = some j) w w' := by
  obtain ⟨i0, hi, hz0, hz1, hz2⟩ := info_parts info_u8
  obtain ⟨v', w', h2, h3, h4, _⟩ := Lib.run_append_own_string (P := Tryz.prog) w B 43 9 43 5 i0 Tryz.underlying43 Tryz.underlying9 hi hz0 hz1 hz2 v l.length _ h s (by unfold maxLen; omega) (by omega) hB
  obtain ⟨p, c, rfl⟩ := own_slice h3
  have e : l.length + s.size = (l ++ s.data.toList).length := by rw [List.length_append, Lib.size_eq]
  rw [strB, ← bcells_append] at h3
  rw [e] at h2 h3
  exact ⟨p, c, w', h2, h3, (Keeps.refl _ w).grown h4 fun k e => .inl e⟩
/-- bytes behind bytes that have no room -/
theorem Bytes.put {p : Option Addr} {a : Addr} {m c : Nat} {l' : List UInt8} (h : Bytes w (.slice p l.length l.length) l) (hb : Bytes w (.slice (some a) m c) l') (hm : 0 < m) (hn : l.length + l'.length ≤ 10000000000) :
    ∃ p' c' w', (dappOp #[43, 43] 43 #[.slice p l.length l.length, .slice (some a) m c]).run Tryz.prog w = .ok (.slice p' (l.length + l'.length) c') w' ∧ BOwn w.heap.size w' (.slice p' (l.length + l'.length) c') (l ++ l') ∧ Below w.heap.size w w' := by
  obtain ⟨i0, hi, hz0, hz1, hz2⟩ := info_parts info_u8
  obtain ⟨p2, c2, e2⟩ := hb.slice
  obtain ⟨rfl, rfl, rfl⟩ : some a = p2 ∧ m = l'.length ∧ c = c2 := by injection e2 with x y z; exact ⟨x, y, z⟩
  have hnews : ∀ j u, (bcells l')[j]? = some u → w.cell? (a.add j) = some u := by
    intro j u hj
    rw [bcells_get] at hj
    rcases hb with (⟨e, _⟩ | ⟨g, o, c3, e, _, hc⟩) | ⟨a', c3, e, e'⟩
    · cases e
    · obtain rfl : a = ⟨g, o, none⟩ := Option.some.inj (Value.slice.inj e).1
      cases hx : l'[j]? with
      | none => rw [hx] at hj; cases hj
      | some x =>
        rw [hx] at hj
        obtain rfl := Option.some.inj hj
        rw [Addr.add_lit]
        exact hc j x hx
    · rw [e'] at hj; simp at hj
  have own : ∀ (old : Nat), old < l.length + l'.length → (w.drew.alloc (.cells ((bcells l).toArray ++ (bcells l').toArray ++ Builtin.zeroCells (Value.int .u8 0).cells (grownCap w (l.length + l'.length) old 5 - (l.length + l'.length))) 5)).ownsRow w.heap.size 5 1
        (.slice (some ⟨w.heap.size, 0, none⟩) (l.length + l'.length) (grownCap w (l.length + l'.length) old 5)) (l ++ l').length (bcells (l ++ l')) := by
    intro old ho
    have hge := grownCap_ge w (l.length + l'.length) old 5
    have hcm : grownCap w (l.length + l'.length) old 5 ≤ maxLen := grownCap_le_maxLen w (l.length + l'.length) old 5 (by unfold maxLen; omega)
    rw [List.length_append]
    refine ⟨by rw [bcells_length, List.length_append, Nat.mul_one], .inr ⟨w.heap.size, _, _, rfl, Nat.le_refl _, heap_alloc_new w.drew _, hge, hcm, ?_, ?_⟩⟩
    · have hz1 : (Value.int IntKind.u8 0).cells.size = 1 := rfl
      simp only [Array.size_append, List.size_toArray, size_zeroCells, hz1, bcells_length]
      omega
    · rw [bcells_append]
      simp only [Array.toList_append, List.append_assoc]
      rw [← List.append_assoc, show (l.length + l'.length) * 1 = (bcells l ++ bcells l').length by rw [List.length_append, bcells_length, bcells_length, Nat.mul_one]]
      exact List.take_left
  have hB : ∀ o : Obj, Below w.heap.size w (w.drew.alloc o) := fun o => (Below.refl _ w).drew.alloc (Nat.le_refl _) o
  cases p with
  | none =>
    have hl : l = [] := by
      rcases h with (⟨_, e⟩ | ⟨g, o, c3, e, _, _⟩) | ⟨a', c3, e, _⟩
      · exact e
      · cases e
      · cases e
    subst hl
    have hr := run_append_nil (P := Tryz.prog) w 43 43 5 i0 (.int .u8 0) Tryz.underlying43 hi hz0 a l'.length c (bcells l') (by rw [bcells_length, hz1, Nat.mul_one]) hnews hm (by simp at hn; omega) (by rw [hz2]; simp at hn; omega)
    have ho := own 0 (by omega)
    simp only [List.length_nil, Nat.zero_add, List.nil_append, show bcells [] = [] from rfl, Array.empty_append] at ho hr ⊢
    exact ⟨_, _, _, hr, ho, hB _⟩
  | some b =>
    have holds : ∀ j u, (bcells l)[j]? = some u → w.cell? (b.add j) = some u := by
      intro j u hj
      rw [bcells_get] at hj
      rcases h with (⟨e, _⟩ | ⟨g, o, c3, e, _, hc⟩) | ⟨a', c3, e, e'⟩
      · cases e
      · obtain rfl : b = ⟨g, o, none⟩ := Option.some.inj (Value.slice.inj e).1
        cases hx : l[j]? with
        | none => rw [hx] at hj; cases hj
        | some x =>
          rw [hx] at hj
          obtain rfl := Option.some.inj hj
          rw [Addr.add_lit]
          exact hc j x hx
      · rw [e'] at hj; simp at hj
    have hr := run_append_grow (P := Tryz.prog) w 43 43 5 i0 (.int .u8 0) Tryz.underlying43 hi hz0 b l.length l.length (bcells l) (by rw [bcells_length, hz1, Nat.mul_one]) holds a l'.length c (bcells l') (by rw [bcells_length, hz1, Nat.mul_one]) hnews (by omega) (by omega) (by rw [hz2]; exact growslice_fits (by omega) (by omega))
    exact ⟨_, _, _, hr, own l.length (by omega), hB _⟩
end
/-- a slice's beginning, with no room behind it -/
theorem bsl_full (p : Option Addr) (n c : Nat) (h : n ≤ c) (w : World) : (dslK 43 (.slice p n c) none (some (.int .i64 n)) (some (.int .i64 n))).run Tryz.prog w = .ok (.slice p n n) w := by
  have h1 : (0 : Int) ≤ (n : Int) := by omega
  unfold dslK
  simp [Instr.sliceAt, Instr.slice, Instr.sliceBounds, Instr.sliceBound, run_underlying Tryz.underlying43, Tryz.sizeOf5, go_sem, h1, h]
theorem bsl_from (p : Option Addr) (n c i : Nat) (hi : i ≤ n) (w : World) : (dslK 43 (.slice p n c) (some (.int .i64 i)) none none).run Tryz.prog w = .ok (.slice (if c = i then p else p.map (·.add i)) (n - i) (c - i)) w := by
  have h1 : (0 : Int) ≤ (i : Int) := by omega
  unfold dslK
  simp [Instr.sliceAt, Instr.slice, Instr.sliceBounds, Instr.sliceBound, run_underlying Tryz.underlying43, Tryz.sizeOf5, go_sem, h1, hi]
theorem bsl_mid (p : Option Addr) (n c i j : Nat) (hi : i ≤ j) (hj : j ≤ c) (w : World) : (dslK 43 (.slice p n c) (some (.int .i64 i)) (some (.int .i64 j)) none).run Tryz.prog w = .ok (.slice (if c = i then p else p.map (·.add i)) (j - i) (c - i)) w := by
  have h1 : (0 : Int) ≤ (i : Int) := by omega
  have h2 : (0 : Int) ≤ (j : Int) := by omega
  unfold dslK
  simp [Instr.sliceAt, Instr.slice, Instr.sliceBounds, Instr.sliceBound, run_underlying Tryz.underlying43, Tryz.sizeOf5, go_sem, h1, h2, hi, hj]
theorem bsl_to (p : Option Addr) (n c j : Nat) (hj : j ≤ c) (w : World) : (dslK 43 (.slice p n c) none (some (.int .i64 j)) none).run Tryz.prog w = .ok (.slice p j c) w := by
  have h2 : (0 : Int) ≤ (j : Int) := by omega
  unfold dslK
  simp [Instr.sliceAt, Instr.slice, Instr.sliceBounds, Instr.sliceBound, run_underlying Tryz.underlying43, Tryz.sizeOf5, go_sem, h2, hj]
section
variable {w : World} {p : Option Addr} {n c : Nat} {l : List UInt8}
theorem Bytes.len (h : Bytes w (.slice p n c) l) : n = l.length ∧ n ≤ c := by
  rcases h with (⟨e, rfl⟩ | ⟨g, o, c3, e, hc, _⟩) | ⟨a', c3, e, rfl⟩
  · injection e with _ e1 e2; exact ⟨e1, by omega⟩
  · injection e with _ e1 e2; exact ⟨e1, by omega⟩
  · injection e with _ e1 e2; exact ⟨e1, by omega⟩
theorem Bytes.drop (h : Bytes w (.slice p n c) l) {i : Nat} (hi : i ≤ n) : Bytes w (.slice (if c = i then p else p.map (·.add i)) (n - i) (c - i)) (l.drop i) := by
  rcases h with (⟨e, rfl⟩ | ⟨g, o, c3, e, hc, hcell⟩) | ⟨a', c3, e, rfl⟩
  · injection e with e0 e1 e2
    subst e0 e1 e2
    obtain rfl : i = 0 := by omega
    exact .inl (.inl ⟨rfl, rfl⟩)
  · injection e with e0 e1 e2
    subst e0 e1 e2
    by_cases hci : c = i
    · have : i = l.length := by omega
      rw [if_pos hci]
      refine .inr ⟨⟨g, o, none⟩, c - i, ?_, ?_⟩
      · rw [show l.length - i = 0 by omega]
      · exact List.drop_of_length_le (by omega)
    · rw [if_neg hci]
      refine .inl (.inr ⟨g, o + i, c - i, ?_, ?_, ?_⟩)
      · rw [List.length_drop, Option.map_some, Addr.add_lit]
      · rw [List.length_drop]; omega
      · intro k x hx
        rw [List.getElem?_drop] at hx
        rw [Nat.add_assoc]
        exact hcell _ x hx
  · injection e with e0 e1 e2
    subst e0 e1 e2
    obtain rfl : i = 0 := by omega
    refine .inr ⟨a', c, ?_, rfl⟩
    split
    · rename_i h0; subst h0; rfl
    · rw [Option.map_some, addK_zero]; rfl
theorem Bytes.take (h : Bytes w (.slice p n c) l) {j : Nat} (hj : j ≤ n) : Bytes w (.slice p j c) (l.take j) := by
  rcases h with (⟨e, rfl⟩ | ⟨g, o, c3, e, hc, hcell⟩) | ⟨a', c3, e, rfl⟩
  · injection e with e0 e1 e2
    subst e0 e1 e2
    obtain rfl : j = 0 := by omega
    exact .inl (.inl ⟨rfl, rfl⟩)
  · injection e with e0 e1 e2
    subst e0 e1 e2
    refine .inl (.inr ⟨g, o, c, ?_, ?_, ?_⟩)
    · rw [List.length_take, Nat.min_eq_left hj]
    · rw [List.length_take]; omega
    · intro k x hx
      rw [List.getElem?_take] at hx
      split at hx
      · exact hcell _ x hx
      · cases hx
  · injection e with e0 e1 e2
    subst e0 e1 e2
    obtain rfl : j = 0 := by omega
    exact .inr ⟨a', c, rfl, rfl⟩
theorem Bytes.full (h : Bytes w (.slice p n c) l) : Bytes w (.slice p n n) l := by
  rcases h with (⟨e, rfl⟩ | ⟨g, o, c3, e, hc, hcell⟩) | ⟨a', c3, e, rfl⟩
  · injection e with e0 e1 e2
    subst e0 e1 e2
    exact .inl (.inl ⟨rfl, rfl⟩)
  · injection e with e0 e1 e2
    subst e0 e1 e2
    exact .inl (.inr ⟨g, o, _, rfl, Nat.le_refl _, hcell⟩)
  · injection e with e0 e1 e2
    subst e0 e1 e2
    exact .inr ⟨a', 0, rfl, rfl⟩
/-- a byte of bytes, where the walk looks for it -/
theorem Bytes.cellAt (h : Bytes w (.slice p n c) l) {i : Nat} {x : UInt8} (hx : l[i]? = some x) : ∃ g o, p = some ⟨g, o, none⟩ ∧ w.cell? ⟨g, o + i, none⟩ = some (.int .u8 x.toNat) := by
  rcases h with (⟨e, rfl⟩ | ⟨g, o, c3, e, hc, hcell⟩) | ⟨a', c3, e, rfl⟩
  · simp at hx
  · injection e with e0 e1 e2
    exact ⟨g, o, e0, hcell i x hx⟩
  · simp at hx
end
/-- bytes that a call has made -/
def MadeB (w : World) (l : List UInt8) (e : Ending) (w' : World) : Prop := ∃ p c, e = .returned (.slice p l.length c) ∧ BOwn w.heap.size w' (.slice p l.length c) l ∧ Below w.heap.size w w'
end Go.Proofs.YtabcdodjkfknlaaGreatDoor
namespace Go.Proofs.YtabcdodjkfknlaaGreatDoor
open Go.RowKit

/-- a tuple: six texts -/
structure Tup where
  (a b c d e f : ByteArray)
/-- its parts -/
def Tup.l (t : Tup) : List ByteArray := [t.a, t.b, t.c, t.d, t.e, t.f]
/-- the value by which a call hands it over -/
def Tup.v (t : Tup) : Value := .agg #[.string t.a, .string t.b, .string t.c, .string t.d, .string t.e, .string t.f]
@[go_sem] theorem Tup.v_eq (t : Tup) : t.v = .agg #[.string t.a, .string t.b, .string t.c, .string t.d, .string t.e, .string t.f] := rfl
/-- all of its parts take room in memory -/
def Tup.fits (t : Tup) : Prop := ∀ p ∈ t.l, p.size ≤ maxLen
def partOk (k : Nat) (p : ByteArray) : Bool := isName p.data.toList || (decide (5 ≤ k) && p.toList.isEmpty)
/-- may it be? -/
def Tup.ok (t : Tup) : Bool := partOk 0 t.a && partOk 1 t.b && partOk 2 t.c && partOk 3 t.d && partOk 4 t.e && partOk 5 t.f
def Tup.check (t : Tup) : Int := if t.ok then 0 else 2
def Tup.part (t : Tup) (k : Nat) : ByteArray := t.l.getD k ByteArray.empty
theorem Tup.part_mem (t : Tup) (k : Nat) (h : k < 6) : t.part k ∈ t.l := by
  unfold Tup.part
  rw [List.getD_eq_getElem?_getD, List.getElem?_eq_getElem (by simpa [Tup.l] using h)]
  exact List.getElem_mem _
theorem Tup.not_ok (t : Tup) (k : Nat) (h : k < 6) (hp : partOk k (t.part k) = false) : t.check = 2 := by
  unfold Tup.check Tup.ok
  rcases k with _ | _ | _ | _ | _ | _ | k <;> first | omega | (simp [Tup.part, Tup.l] at hp; simp [hp])
theorem Tup.all_ok (t : Tup) (h : ∀ j, j < 6 → partOk j (t.part j) = true) : t.check = 0 := by
  unfold Tup.check Tup.ok
  have h0 := h 0 (by omega)
  have h1 := h 1 (by omega)
  have h2 := h 2 (by omega)
  have h3 := h 3 (by omega)
  have h4 := h 4 (by omega)
  have h5 := h 5 (by omega)
  simp [Tup.part, Tup.l] at h0 h1 h2 h3 h4 h5
  simp [*]
theorem ok_step (t : Tup) (k : Nat) (h : ∀ j, j < k → partOk j (t.part j) = true) (hk : partOk k (t.part k) = true) : ∀ j, j < k + 1 → partOk j (t.part j) = true := by
  intro j hj
  by_cases e : j = k
  · subst e; exact hk
  · exact h j (by omega)

theorem partOk_T1 {k : Nat} {p : ByteArray} (h : isName p.data.toList = true) : partOk k p = true := by simp [partOk, h]
theorem partOk_T2 {k : Nat} {p : ByteArray} (h1 : 5 ≤ (k : Int)) (h2 : 5 ≤ (k : Int) ∧ (!p.toList.isEmpty) = false) : partOk k p = true := by
  simp at h2; simp [partOk, h2]; omega
theorem partOk_F1 {k : Nat} {p : ByteArray} (h : ¬ isName p.data.toList = true) (h1 : (k : Int) < 5) : partOk k p = false := by
  simp at h; simp [partOk, h]; omega
theorem partOk_F2 {k : Nat} {p : ByteArray} (h : ¬ isName p.data.toList = true) (h1 : 5 ≤ (k : Int)) (h2 : (k : Int) < 5 ∨ (!p.toList.isEmpty) = true) : partOk k p = false := by
  have h3 : (!p.toList.isEmpty) = true := by rcases h2 with h2 | h2; exact absurd h2 (by omega); exact h2
  simp at h h3; simp [partOk, h, h3]

def nilB : ByteArray := ⟨#[]⟩
/-- its text -/
def Tup.base (t : Tup) : ByteArray := t.a ++ ⟨#[58]⟩ ++ t.b ++ ⟨#[35]⟩ ++ t.c ++ ⟨#[64]⟩ ++ t.d ++ ⟨#[58]⟩ ++ t.e
def Tup.print (t : Tup) : ByteArray := if t.f.toList.isEmpty then t.base else t.base ++ (⟨#[35]⟩ ++ t.f)
def Tup.zero : Tup := ⟨⟨#[]⟩, ⟨#[]⟩, ⟨#[]⟩, ⟨#[]⟩, ⟨#[]⟩, ⟨#[]⟩⟩
theorem name_le {l : List UInt8} (h : isName l = true) : l.length ≤ 32 := by
  simp [isName] at h; omega
theorem partOk_le {k : Nat} {p : ByteArray} (h : partOk k p = true) : p.size ≤ 32 := by
  unfold partOk at h
  rw [Lib.toList_data] at h
  rw [Lib.size_eq]
  simp only [Bool.or_eq_true, Bool.and_eq_true] at h
  rcases h with h | ⟨_, h⟩
  · exact name_le h
  · have : p.data.toList = [] := by simpa using h
    rw [this]; simp
theorem Tup.ok_le {t : Tup} (h : t.ok = true) : t.a.size ≤ 32 ∧ t.b.size ≤ 32 ∧ t.c.size ≤ 32 ∧ t.d.size ≤ 32 ∧ t.e.size ≤ 32 ∧ t.f.size ≤ 32 := by
  simp only [Tup.ok, Bool.and_eq_true] at h
  obtain ⟨⟨⟨⟨⟨h0, h1⟩, h2⟩, h3⟩, h4⟩, h5⟩ := h
  exact ⟨partOk_le h0, partOk_le h1, partOk_le h2, partOk_le h3, partOk_le h4, partOk_le h5⟩
theorem print_has (t : Tup) (h : (!t.f.toList.isEmpty) = true) : t.print = t.base ++ (⟨#[35]⟩ ++ t.f) := by
  unfold Tup.print; rw [if_neg (by simpa using h)]
theorem print_hasnt (t : Tup) (h : (!t.f.toList.isEmpty) = false) : t.print = t.base := by
  unfold Tup.print; rw [if_pos (by simpa using h)]
theorem ret_si {k : IntKind} {a b : ByteArray} {m n : Int} (h : a = b) (h2 : m = n) : Ending.returned (.tuple #[.string a, .int k m]) = .returned (.tuple #[.string b, .int k n]) := by rw [h, h2]

/-- are its parts short? -/
def Tup.few (t : Tup) : Bool := t.l.all fun p => decide (p.size ≤ 200)
def Tup.cells (t : Tup) : Array Value := #[.string t.a, .string t.b, .string t.c, .string t.d, .string t.e, .string t.f]
theorem few_no {t : Tup} {k : Nat} (h : k < 6) (h2 : 200 < ((t.part k).size : Int)) : t.few = false := by
  unfold Tup.few
  rw [List.all_eq_false]
  exact ⟨t.part k, t.part_mem k h, by simp; omega⟩
theorem few_yes {t : Tup} (h : ∀ j, j < 6 → (t.part j).size ≤ 200) : t.few = true := by
  have h0 := h 0 (by omega)
  have h1 := h 1 (by omega)
  have h2 := h 2 (by omega)
  have h3 := h 3 (by omega)
  have h4 := h 4 (by omega)
  have h5 := h 5 (by omega)
  simp [Tup.part, Tup.l] at h0 h1 h2 h3 h4 h5
  simp [Tup.few, Tup.l, *]
theorem Tup.few_le {t : Tup} (h : t.few = true) : ∀ p ∈ t.l, p.size ≤ 200 := by
  simpa [Tup.few] using h
end Go.Proofs.YtabcdodjkfknlaaGreatDoor
namespace Go.Proofs.YtabcdodjkfknlaaGreatDoor
open Go.RowKit

/-- the first parts that are not the same decide -/
def cmpL : List (List UInt8) → List (List UInt8) → Int
  | p :: ps, q :: qs => if Lib.compareBytes p q = 0 then cmpL ps qs else Lib.compareBytes p q
  | _, _ => 0
def Tup.ls (t : Tup) : List (List UInt8) := t.l.map fun p => p.data.toList
def cmpT (t u : Tup) : Int := cmpL t.ls u.ls
def same6 (a b c d e f a' b' c' d' e' f' : ByteArray) : Bool :=
  a.toList == a'.toList && (b.toList == b'.toList && (c.toList == c'.toList && (d.toList == d'.toList && (e.toList == e'.toList && f.toList == f'.toList))))
def Tup.same (t u : Tup) : Bool := same6 t.a t.b t.c t.d t.e t.f u.a u.b u.c u.d u.e u.f
theorem bytes_ext {a b : ByteArray} (h : a.data.toList = b.data.toList) : a = b := by
  rw [← Lib.mk_data a, h, Lib.mk_data]
theorem same_eq {t u : Tup} : t.same u = true ↔ t = u := by
  constructor
  · intro h
    simp only [Tup.same, same6, Bool.and_eq_true, beq_iff_eq, Lib.toList_data] at h
    obtain ⟨h0, h1, h2, h3, h4, h5⟩ := h
    cases t; cases u
    simp only at h0 h1 h2 h3 h4 h5
    rw [bytes_ext h0, bytes_ext h1, bytes_ext h2, bytes_ext h3, bytes_ext h4, bytes_ext h5]
  · rintro rfl; simp [Tup.same, same6]
theorem cb_self : ∀ l : List UInt8, Lib.compareBytes l l = 0
  | [] => rfl
  | a :: l => by unfold Lib.compareBytes; rw [if_neg (by simp), if_neg (by simp)]; exact cb_self l
theorem cb_eq : ∀ a b : List UInt8, Lib.compareBytes a b = 0 → a = b
  | [], [], _ => rfl
  | [], _ :: _, h => by simp [Lib.compareBytes] at h
  | _ :: _, [], h => by simp [Lib.compareBytes] at h
  | a :: x, b :: y, h => by
    unfold Lib.compareBytes at h
    split at h
    · simp at h
    · split at h
      · simp at h
      · rename_i h1 h2
        have e : a = b := by
          have := UInt8.le_antisymm (UInt8.not_lt.1 h2) (UInt8.not_lt.1 h1)
          exact this
        rw [e, cb_eq x y h]
theorem cb_three : ∀ a b : List UInt8, Lib.compareBytes a b = 0 ∨ Lib.compareBytes a b = -1 ∨ Lib.compareBytes a b = 1
  | [], [] => .inl rfl
  | [], _ :: _ => .inr (.inl rfl)
  | _ :: _, [] => .inr (.inr rfl)
  | a :: x, b :: y => by
    unfold Lib.compareBytes
    split
    · exact .inr (.inl rfl)
    · split
      · exact .inr (.inr rfl)
      · exact cb_three x y
theorem cb_less : ∀ a b : List UInt8, Op.bytesLess a b = decide (Lib.compareBytes a b = -1)
  | [], [] => rfl
  | [], _ :: _ => rfl
  | _ :: _, [] => by simp [Op.bytesLess, Lib.compareBytes]
  | a :: x, b :: y => by
    unfold Op.bytesLess Lib.compareBytes
    by_cases h1 : a < b
    · simp [h1]
    · by_cases h2 : b < a
      · have h3 : ¬ a = b := by rintro rfl; exact h1 h2
        simp [h1, h2, h3]
      · have e : a = b := UInt8.le_antisymm (UInt8.not_lt.1 h2) (UInt8.not_lt.1 h1)
        subst e
        simp [cb_less x y]
theorem cmpL_self : ∀ l, cmpL l l = 0
  | [] => rfl
  | p :: l => by unfold cmpL; rw [if_pos (cb_self p)]; exact cmpL_self l
theorem cmpT_same {t u : Tup} (h : t.same u = true) : cmpT t u = 0 := by
  rw [same_eq.1 h]; exact cmpL_self _
theorem part_ls (t : Tup) (k : Nat) (h : k < 6) : t.ls[k]? = some (t.part k).data.toList := by
  rcases k with _ | _ | _ | _ | _ | _ | k <;> first | omega | rfl
/-- so far they are the same -/
theorem cmpL_drop : ∀ (k : Nat) (a b : List (List UInt8)), (∀ j, j < k → ∃ x, a[j]? = some x ∧ b[j]? = some x) → cmpL a b = cmpL (a.drop k) (b.drop k)
  | 0, _, _, _ => rfl
  | k + 1, a, b, h => by
    obtain ⟨x, h0, h1⟩ := h 0 (by omega)
    match a, b, h0, h1 with
    | p :: ps, q :: qs, h0, h1 =>
      simp at h0 h1; subst h0 h1
      rw [cmpL, if_pos (cb_self _)]
      simp only [List.drop_succ_cons]
      exact cmpL_drop k ps qs fun j hj => by simpa using h (j + 1) (by omega)
theorem cmpT_at (t u : Tup) (k : Nat) (h : k < 6) (hs : ∀ j, j < k → Lib.compareBytes (t.part j).data.toList (u.part j).data.toList = 0)
    (hn : ¬ Lib.compareBytes (t.part k).data.toList (u.part k).data.toList = 0) : cmpT t u = Lib.compareBytes (t.part k).data.toList (u.part k).data.toList := by
  unfold cmpT
  rw [cmpL_drop k]
  · have e1 := part_ls t k h
    have e2 := part_ls u k h
    rw [List.getElem?_eq_some_iff] at e1 e2
    obtain ⟨l1, e1⟩ := e1
    obtain ⟨l2, e2⟩ := e2
    rw [List.drop_eq_getElem_cons l1, List.drop_eq_getElem_cons l2, e1, e2, cmpL, if_neg hn]
  · intro j hj
    exact ⟨_, part_ls t j (by omega), by rw [part_ls u j (by omega), cb_eq _ _ (hs j hj)]⟩
theorem cmpT_all (t u : Tup) (hs : ∀ j, j < 6 → Lib.compareBytes (t.part j).data.toList (u.part j).data.toList = 0) : cmpT t u = 0 := by
  unfold cmpT
  rw [cmpL_drop 6]
  · simp [Tup.ls, Tup.l, cmpL]
  · intro j hj
    exact ⟨_, part_ls t j (by omega), by rw [part_ls u j (by omega), cb_eq _ _ (hs j hj)]⟩
theorem cb_next {t u : Tup} {k : Nat} (h : ∀ j, j < k → Lib.compareBytes (t.part j).data.toList (u.part j).data.toList = 0) (hk : Lib.compareBytes (t.part k).data.toList (u.part k).data.toList = 0) :
    ∀ j, j < k + 1 → Lib.compareBytes (t.part j).data.toList (u.part j).data.toList = 0 := by
  intro j hj
  by_cases e : j = k
  · subst e; exact hk
  · exact h j (by omega)
theorem less_m {a b : ByteArray} (h : Lib.compareBytes a.data.toList b.data.toList = -1) : Op.bytesLess a.toList b.toList = true := by
  rw [Lib.toList_data, Lib.toList_data, cb_less, h]; rfl
theorem less_n {a b : ByteArray} (h : ¬ Lib.compareBytes a.data.toList b.data.toList = -1) : Op.bytesLess a.toList b.toList = false := by
  rw [Lib.toList_data, Lib.toList_data, cb_less]; simpa using h
theorem eq_y {a b : ByteArray} (h : Lib.compareBytes a.data.toList b.data.toList = 0) : (a.toList == b.toList) = true := by
  rw [Lib.toList_data, Lib.toList_data, cb_eq _ _ h]; simp
theorem eq_n {a b : ByteArray} (h : ¬ Lib.compareBytes a.data.toList b.data.toList = 0) : (a.toList == b.toList) = false := by
  rw [Lib.toList_data, Lib.toList_data]
  cases he : a.data.toList == b.data.toList with
  | false => rfl
  | true => rw [beq_iff_eq] at he; exact absurd (by rw [he]; exact cb_self _) h
end Go.Proofs.YtabcdodjkfknlaaGreatDoor
namespace Go.Proofs.YtabcdodjkfknlaaGreatDoor
open Go.RowKit
theorem cb_flip : ∀ a b : List UInt8, Lib.compareBytes b a = - Lib.compareBytes a b
  | [], [] => rfl
  | [], _ :: _ => rfl
  | _ :: _, [] => rfl
  | a :: x, b :: y => by
    unfold Lib.compareBytes
    by_cases h1 : a < b
    · have h2 : ¬ b < a := fun h => UInt8.lt_irrefl _ (UInt8.lt_trans h h1)
      rw [if_neg h2, if_pos h1, if_pos h1]; rfl
    · by_cases h2 : b < a
      · rw [if_pos h2, if_neg h1, if_pos h2]
      · rw [if_neg h2, if_neg h1, if_neg h1, if_neg h2]
        exact cb_flip x y
theorem cb_trans : ∀ a b c : List UInt8, Lib.compareBytes a b = -1 → Lib.compareBytes b c = -1 → Lib.compareBytes a c = -1
  | [], [], _, h, _ => by simp [Lib.compareBytes] at h
  | [], _ :: _, [], _, h => by simp [Lib.compareBytes] at h
  | [], _ :: _, _ :: _, _, _ => rfl
  | _ :: _, [], _, h, _ => by simp [Lib.compareBytes] at h
  | _ :: _, _ :: _, [], _, h => by simp [Lib.compareBytes] at h
  | a :: x, b :: y, c :: z, h1, h2 => by
    unfold Lib.compareBytes at h1 h2 ⊢
    by_cases ab : a < b
    · by_cases bc : b < c
      · rw [if_pos (UInt8.lt_trans ab bc)]
      · rw [if_neg bc] at h2
        by_cases cb : c < b
        · rw [if_pos cb] at h2; cases h2
        · have e : b = c := UInt8.le_antisymm (UInt8.not_lt.1 cb) (UInt8.not_lt.1 bc)
          rw [← e, if_pos ab]
    · rw [if_neg ab] at h1
      by_cases ba : b < a
      · rw [if_pos ba] at h1; cases h1
      · rw [if_neg ba] at h1
        have e : a = b := UInt8.le_antisymm (UInt8.not_lt.1 ba) (UInt8.not_lt.1 ab)
        subst e
        by_cases bc : a < c
        · rw [if_pos bc]
        · rw [if_neg bc] at h2 ⊢
          by_cases cb : c < a
          · rw [if_pos cb] at h2; cases h2
          · rw [if_neg cb] at h2 ⊢
            exact cb_trans x y z h1 h2
theorem cmpL_flip : ∀ a b : List (List UInt8), cmpL b a = - cmpL a b
  | [], [] => rfl
  | [], _ :: _ => rfl
  | _ :: _, [] => rfl
  | p :: ps, q :: qs => by
    unfold cmpL
    rw [cb_flip p q]
    by_cases h : Lib.compareBytes p q = 0
    · rw [if_pos h, if_pos (by omega)]; exact cmpL_flip ps qs
    · rw [if_neg h, if_neg (by omega)]
theorem cmpL_three : ∀ a b : List (List UInt8), cmpL a b = 0 ∨ cmpL a b = -1 ∨ cmpL a b = 1
  | [], [] => .inl rfl
  | [], _ :: _ => .inl rfl
  | _ :: _, [] => .inl rfl
  | p :: ps, q :: qs => by
    unfold cmpL
    split
    · exact cmpL_three ps qs
    · exact cb_three p q
theorem cmpL_eq : ∀ a b : List (List UInt8), a.length = b.length → cmpL a b = 0 → a = b
  | [], [], _, _ => rfl
  | [], _ :: _, h, _ => by cases h
  | _ :: _, [], h, _ => by cases h
  | p :: ps, q :: qs, hl, h => by
    unfold cmpL at h
    split at h
    · rename_i h0
      rw [cb_eq p q h0, cmpL_eq ps qs (by simpa using hl) h]
    · rename_i h0; exact absurd h h0
theorem cmpL_trans : ∀ a b c : List (List UInt8), a.length = b.length → b.length = c.length → cmpL a b = -1 → cmpL b c = -1 → cmpL a c = -1
  | [], _, _, _, _, h, _ => by simp [cmpL] at h
  | _ :: _, [], _, h, _, _, _ => by cases h
  | _ :: _, _ :: _, [], _, h, _, _ => by cases h
  | p :: ps, q :: qs, r :: rs, l1, l2, h1, h2 => by
    unfold cmpL at h1 h2 ⊢
    by_cases a0 : Lib.compareBytes p q = 0
    · rw [if_pos a0] at h1
      obtain rfl := cb_eq p q a0
      by_cases b0 : Lib.compareBytes p r = 0
      · rw [if_pos b0] at h2 ⊢
        exact cmpL_trans ps qs rs (by simpa using l1) (by simpa using l2) h1 h2
      · rw [if_neg b0] at h2 ⊢; exact h2
    · rw [if_neg a0] at h1
      by_cases b0 : Lib.compareBytes q r = 0
      · obtain rfl := cb_eq q r b0
        rw [if_neg a0]; exact h1
      · rw [if_neg b0] at h2
        have := cb_trans p q r h1 h2
        rw [if_neg (by omega)]; exact this
theorem ls_len (t : Tup) : t.ls.length = 6 := rfl
theorem cmpT_flip (t u : Tup) : cmpT u t = - cmpT t u := cmpL_flip _ _
theorem cmpT_three (t u : Tup) : cmpT t u = 0 ∨ cmpT t u = -1 ∨ cmpT t u = 1 := cmpL_three _ _
theorem cmpT_self (t : Tup) : cmpT t t = 0 := cmpL_self _
theorem cmpT_eq {t u : Tup} (h : cmpT t u = 0) : t = u := by
  have := cmpL_eq t.ls u.ls rfl h
  cases t; cases u
  simp only [Tup.ls, Tup.l, List.map_cons, List.map_nil, List.cons.injEq, and_true] at this
  obtain ⟨h0, h1, h2, h3, h4, h5⟩ := this
  rw [bytes_ext h0, bytes_ext h1, bytes_ext h2, bytes_ext h3, bytes_ext h4, bytes_ext h5]
theorem cmpT_trans {t u v : Tup} (h1 : cmpT t u < 0) (h2 : cmpT u v < 0) : cmpT t v < 0 := by
  have a := cmpT_three t u
  have b := cmpT_three u v
  have := cmpL_trans t.ls u.ls v.ls rfl rfl (by show cmpT t u = -1; omega) (by show cmpT u v = -1; omega)
  show cmpL _ _ < 0
  omega
theorem cmpT_gt {t u : Tup} (h : ¬ cmpT t u < 0) (hn : t ≠ u) : cmpT u t < 0 := by
  have a := cmpT_three t u
  rw [cmpT_flip t u]
  have : cmpT t u ≠ 0 := fun e => hn (cmpT_eq e)
  omega
instance : DecidableEq Tup := fun t u => if h : t.same u = true then .isTrue (same_eq.1 h) else .isFalse fun e => h (same_eq.2 e)
/-- one behind the other, each greater -/
def Sorted (l : List Tup) : Prop := l.Pairwise fun a b => cmpT a b < 0
theorem Sorted.ext : ∀ {a b : List Tup}, Sorted a → Sorted b → (∀ t, t ∈ a ↔ t ∈ b) → a = b
  | [], [], _, _, _ => rfl
  | [], u :: b, _, _, h => by have := (h u).2 (by simp); simp at this
  | t :: a, [], _, _, h => by have := (h t).1 (by simp); simp at this
  | t :: a, u :: b, ha, hb, h => by
    have ha1 := List.pairwise_cons.1 ha
    have hb1 := List.pairwise_cons.1 hb
    have e : t = u := by
      rcases List.mem_cons.1 ((h t).1 List.mem_cons_self) with e | e
      · exact e
      · rcases List.mem_cons.1 ((h u).2 List.mem_cons_self) with e' | e'
        · exact e'.symm
        · have h1 := hb1.1 t e
          have h2 := ha1.1 u e'
          rw [cmpT_flip] at h1
          omega
    subst e
    rw [Sorted.ext ha1.2 hb1.2 fun x => ?_]
    constructor
    · intro hx
      rcases List.mem_cons.1 ((h x).1 (List.mem_cons_of_mem _ hx)) with e | e
      · have := ha1.1 x hx; rw [e, cmpT_self] at this; omega
      · exact e
    · intro hx
      rcases List.mem_cons.1 ((h x).2 (List.mem_cons_of_mem _ hx)) with e | e
      · have := hb1.1 x hx; rw [e, cmpT_self] at this; omega
      · exact e
/-- a tuple laid into a set, as the document does it -/
def ins : List Tup → Tup → List Tup
  | [], t => [t]
  | u :: l, t => if cmpT u t < 0 then u :: ins l t else if u = t then u :: l else t :: u :: l
theorem ins_mem : ∀ (l : List Tup) (t x : Tup), x ∈ ins l t ↔ x ∈ l ∨ x = t
  | [], t, x => by simp [ins]
  | u :: l, t, x => by
    unfold ins
    split
    · rw [List.mem_cons, ins_mem l t x, List.mem_cons]; exact or_assoc.symm
    · split
      · rename_i e
        subst e
        rw [List.mem_cons]
        exact ⟨.inl, fun h => h.elim id .inl⟩
      · rw [List.mem_cons, List.mem_cons]
        exact ⟨fun h => h.elim .inr .inl, fun h => h.elim .inr .inl⟩
theorem ins_sorted : ∀ (l : List Tup) (t : Tup), Sorted l → Sorted (ins l t)
  | [], t, _ => by show List.Pairwise _ [t]; simp
  | u :: l, t, h => by
    have h1 := List.pairwise_cons.1 h
    unfold ins
    split
    · rename_i hl
      refine List.pairwise_cons.2 ⟨fun x hx => ?_, ins_sorted l t h1.2⟩
      rcases (ins_mem l t x).1 hx with e | e
      · exact h1.1 x e
      · rw [e]; exact hl
    · rename_i hl
      split
      · exact h
      · rename_i hn
        have hg := cmpT_gt hl hn
        refine List.pairwise_cons.2 ⟨fun x hx => ?_, h⟩
        rcases List.mem_cons.1 hx with e | e
        · rw [e]; exact hg
        · exact cmpT_trans hg (h1.1 x e)
/-- the set of the tuples that may be -/
def setT (l : List Tup) : List Tup := (l.filter Tup.ok).foldl ins []
theorem foldl_ins : ∀ (l s : List Tup), Sorted s → Sorted (l.foldl ins s) ∧ ∀ x, x ∈ l.foldl ins s ↔ x ∈ s ∨ x ∈ l
  | [], s, h => ⟨h, fun x => by simp⟩
  | t :: l, s, h => by
    obtain ⟨h1, h2⟩ := foldl_ins l (ins s t) (ins_sorted s t h)
    refine ⟨h1, fun x => ?_⟩
    rw [List.foldl_cons, h2 x, ins_mem, List.mem_cons, or_assoc]
theorem setT_sorted (l : List Tup) : Sorted (setT l) := (foldl_ins _ [] List.Pairwise.nil).1
theorem setT_mem (l : List Tup) (x : Tup) : x ∈ setT l ↔ x ∈ l ∧ x.ok = true := by
  unfold setT
  rw [(foldl_ins _ [] List.Pairwise.nil).2 x, List.mem_filter]
  simp
/-- neighbours that are the same, once -/
def compactT : List Tup → List Tup
  | [] => []
  | [t] => [t]
  | t :: u :: l => if t = u then compactT (u :: l) else t :: compactT (u :: l)
theorem compactT_mem : ∀ (l : List Tup) (x : Tup), x ∈ compactT l ↔ x ∈ l
  | [], x => Iff.rfl
  | [t], x => Iff.rfl
  | t :: u :: l, x => by
    unfold compactT
    split
    · rename_i e
      rw [compactT_mem (u :: l) x, e]
      exact ⟨fun h => List.mem_cons_of_mem _ h, fun h => (List.mem_cons.1 h).elim (fun e => e ▸ List.mem_cons_self) fun h => h⟩
    · rw [List.mem_cons, compactT_mem (u :: l) x, List.mem_cons (a := x) (b := t)]
theorem compactT_sorted : ∀ (l : List Tup), l.Pairwise (fun a b => ¬ cmpT b a < 0) → Sorted (compactT l)
  | [], _ => List.Pairwise.nil
  | [t], _ => by show List.Pairwise _ [t]; simp
  | t :: u :: l, h => by
    have h1 := List.pairwise_cons.1 h
    unfold compactT
    split
    · exact compactT_sorted (u :: l) h1.2
    · rename_i hn
      refine List.pairwise_cons.2 ⟨fun x hx => ?_, compactT_sorted (u :: l) h1.2⟩
      have hu : cmpT t u < 0 := cmpT_gt (h1.1 u (by simp)) (Ne.symm hn)
      rcases List.mem_cons.1 ((compactT_mem _ x).1 hx) with e | e
      · rw [e]; exact hu
      · have h2 := (List.pairwise_cons.1 h1.2).1 x e
        by_cases e2 : u = x
        · rw [← e2]; exact hu
        · exact cmpT_trans hu (cmpT_gt h2 (Ne.symm e2))
/-- sorted, each once, those that may be: the set -/
theorem sorted_set {l s : List Tup} (h : s.Pairwise fun a b => ¬ cmpT b a < 0) (hm : ∀ x, x ∈ s ↔ x ∈ l) : (compactT s).filter Tup.ok = setT l := by
  refine Sorted.ext ((compactT_sorted s h).sublist List.filter_sublist) (setT_sorted l) fun x => ?_
  rw [List.mem_filter, compactT_mem, hm, setT_mem]
end Go.Proofs.YtabcdodjkfknlaaGreatDoor
