/- Numbers and texts as bytes: what is written, what is read back. No program in sight. Edits of a set of files as bytes, and back. No program in sight. Walks: a number, a text put behind bytes. Walks: a number, a text read out of bytes. Walks: a text read out of bytes. -/
import Derived.Test.YtabcdodjkfknlaaGreatDoorPN11
import Derived.IntWalk
import Derived.Laws.BitsAllLaws
import Derived.Laws.BytesArg
namespace Go.Proofs.YtabcdodjkfknlaaGreatDoor
open Go.RowKit
/-- a number as bytes -/
def uv (n : Nat) : List UInt8 := if n < 128 then [UInt8.ofNat n] else UInt8.ofNat (n % 128 + 128) :: uv (n / 128)
termination_by n
decreasing_by omega
theorem uv_small {n : Nat} (h : n < 128) : uv n = [UInt8.ofNat n] := by rw [uv, if_pos h]
theorem uv_big {n : Nat} (h : ¬ n < 128) : uv n = UInt8.ofNat (n % 128 + 128) :: uv (n / 128) := by rw [uv, if_neg h]
theorem uv_len : ∀ (k n : Nat), n < 128 ^ (k + 1) → (uv n).length ≤ k + 1
  | 0, n, h => by rw [uv_small (by simpa using h)]; simp
  | k + 1, n, h => by
    by_cases h1 : n < 128
    · rw [uv_small h1]; simp
    · rw [uv_big h1, List.length_cons]
      have := uv_len k (n / 128) (by rw [Nat.pow_succ] at h; omega)
      omega
theorem uv_len10 {n : Nat} (h : n < 18446744073709551616) : 1 ≤ (uv n).length ∧ (uv n).length ≤ 10 := by
  refine ⟨?_, uv_len 9 n (by have : (18446744073709551616 : Nat) ≤ 128 ^ (9 + 1) := by decide
                             omega)⟩
  by_cases h1 : n < 128
  · rw [uv_small h1]; simp
  · rw [uv_big h1]; simp
/-- what a reading gives: a number, how many bytes it took, what was wrong -/
structure Got where
  (v n : Nat)
  e : Int
/-- a number is read: the i-th byte stands at the head, v is what the bytes ahead tell -/
def getA : Nat → Nat → List UInt8 → Got
  | _, _, [] => ⟨0, 0, 7⟩
  | i, v, c :: l => if (i = 9 ∧ 1 < c.toNat) ∨ (c.toNat = 0 ∧ 0 < i) then ⟨0, 0, 9⟩ else if c.toNat < 128 then ⟨v + c.toNat % 128 * 128 ^ i, i + 1, 0⟩ else getA (i + 1) (v + c.toNat % 128 * 128 ^ i) l
def getN (l : List UInt8) : Got := getA 0 0 l
theorem ofNat_toNat {n : Nat} (h : n < 256) : (UInt8.ofNat n).toNat = n := by rw [UInt8.toNat_ofNat', Nat.mod_eq_of_lt (by omega)]
theorem getA_uv (rest : List UInt8) : ∀ (n i v : Nat), i ≤ 9 → n * 128 ^ i < 18446744073709551616 → (0 < i → 0 < n) → getA i v (uv n ++ rest) = ⟨v + n * 128 ^ i, i + (uv n).length, 0⟩ := by
  intro n
  induction n using Nat.strongRecOn with
  | ind n ih =>
    intro i v hi hn h0
    by_cases h : n < 128
    · rw [uv_small h]
      show getA i v (UInt8.ofNat n :: rest) = _
      unfold getA
      rw [ofNat_toNat (by omega), if_neg, if_pos h, Nat.mod_eq_of_lt h]
      · rfl
      · rintro (⟨rfl, h1⟩ | ⟨rfl, h1⟩)
        · have : 2 * 128 ^ 9 ≤ n * 128 ^ 9 := Nat.mul_le_mul_right _ h1
          have h2 : 2 * 128 ^ 9 = 18446744073709551616 := by decide
          omega
        · exact absurd (h0 h1) (by omega)
    · rw [uv_big h, List.length_cons]
      show getA i v (UInt8.ofNat (n % 128 + 128) :: (uv (n / 128) ++ rest)) = _
      have hi8 : i ≤ 8 := by
        rcases Nat.lt_or_ge i 9 with h9 | h9
        · omega
        · obtain rfl : i = 9 := by omega
          have : 128 * 128 ^ 9 ≤ n * 128 ^ 9 := Nat.mul_le_mul_right _ (by omega)
          have h2 : 18446744073709551616 ≤ 128 * 128 ^ 9 := by decide
          omega
      have hd : n / 128 * 128 ^ (i + 1) ≤ n * 128 ^ i := by
        rw [Nat.pow_succ, Nat.mul_comm (128 ^ i), ← Nat.mul_assoc]
        exact Nat.mul_le_mul_right _ (Nat.div_mul_le_self n 128)
      unfold getA
      rw [ofNat_toNat (by omega), if_neg (by omega), if_neg (by omega), ih (n / 128) (by omega) (i + 1) _ (by omega) (by omega) (by omega)]
      congr 1
      · rw [Nat.add_assoc, show (n % 128 + 128) % 128 = n % 128 by omega, Nat.pow_succ, Nat.mul_comm (128 ^ i) 128, ← Nat.mul_assoc, ← Nat.add_mul]
        congr 2
        omega
      · omega
theorem getN_uv {n : Nat} (h : n < 18446744073709551616) (rest : List UInt8) : getN (uv n ++ rest) = ⟨n, (uv n).length, 0⟩ := by
  unfold getN
  rw [getA_uv rest n 0 0 (by omega) (by simpa using h) (by omega)]
  simp
/-- what is read lies within -/
theorem getA_le : ∀ (l : List UInt8) (i v : Nat), i ≤ 9 → v < 128 ^ i → (getA i v l).v < 18446744073709551616 ∧ (getA i v l).n ≤ i + l.length ∧ ((getA i v l).e = 0 ∧ i < (getA i v l).n ∨ (getA i v l).n = 0 ∧ (getA i v l).v = 0 ∧ ((getA i v l).e = 7 ∨ (getA i v l).e = 9))
  | [], i, v, _, _ => ⟨by show (0 : Nat) < _; decide, Nat.zero_le _, .inr ⟨rfl, rfl, .inl rfl⟩⟩
  | c :: l, i, v, hi, hv => by
    unfold getA
    have hc : c.toNat < 256 := c.toNat_lt
    have hm : v + c.toNat % 128 * 128 ^ i < 128 ^ (i + 1) := by
      have : c.toNat % 128 * 128 ^ i ≤ 127 * 128 ^ i := Nat.mul_le_mul_right _ (by omega)
      rw [Nat.pow_succ]
      omega
    split
    · exact ⟨by show (0 : Nat) < _; decide, Nat.zero_le _, .inr ⟨rfl, rfl, .inr rfl⟩⟩
    · rename_i h1
      split
      · refine ⟨?_, by show i + 1 ≤ i + (l.length + 1); omega, .inl ⟨rfl, Nat.lt_succ_self _⟩⟩
        show v + c.toNat % 128 * 128 ^ i < 18446744073709551616
        by_cases h9 : i = 9
        · subst h9
          have h2 : c.toNat ≤ 1 := by
            rcases Nat.lt_or_ge 1 c.toNat with h3 | h3
            · exact absurd (.inl ⟨rfl, h3⟩) h1
            · exact h3
          have h3 : c.toNat % 128 * 128 ^ 9 ≤ 1 * 128 ^ 9 := Nat.mul_le_mul_right _ (by omega)
          have h4 : 128 ^ 9 + 1 * 128 ^ 9 = 18446744073709551616 := by decide
          omega
        · have h2 : 128 ^ (i + 1) ≤ 128 ^ 9 := Nat.pow_le_pow_right (by decide) (by omega)
          have h3 : (128 : Nat) ^ 9 ≤ 18446744073709551616 := by decide
          omega
      · rename_i h2
        have h9 : i ≠ 9 := fun e => h1 (.inl ⟨e, by omega⟩)
        have := getA_le l (i + 1) _ (by omega) hm
        obtain ⟨a1, a2, a3⟩ := this
        refine ⟨a1, by rw [List.length_cons]; omega, ?_⟩
        rcases a3 with ⟨b1, b2⟩ | b
        · exact .inl ⟨b1, by omega⟩
        · exact .inr b
theorem getN_le (l : List UInt8) : (getN l).v < 18446744073709551616 ∧ (getN l).n ≤ l.length ∧ ((getN l).e = 0 ∧ 0 < (getN l).n ∨ (getN l).n = 0 ∧ (getN l).v = 0 ∧ ((getN l).e = 7 ∨ (getN l).e = 9)) := by
  have := getA_le l 0 0 (by omega) (by decide)
  rw [Nat.zero_add] at this
  exact this
/-- a text as bytes -/
def utx (s : ByteArray) : List UInt8 := uv s.size ++ s.data.toList
/-- what a reading of a text gives -/
structure GotT where
  s : ByteArray
  n : Nat
  e : Int
def getT (l : List UInt8) : GotT := if (getN l).e ≠ 0 then ⟨⟨#[]⟩, 0, (getN l).e⟩ else if l.length - (getN l).n < (getN l).v then ⟨⟨#[]⟩, 0, 7⟩ else ⟨⟨((l.drop (getN l).n).take (getN l).v).toArray⟩, (getN l).n + (getN l).v, 0⟩
theorem utx_len (s : ByteArray) : (utx s).length = (uv s.size).length + s.size := by unfold utx; rw [List.length_append, Lib.size_eq]
theorem getT_utx {s : ByteArray} (h : s.size < 18446744073709551616) (rest : List UInt8) : getT (utx s ++ rest) = ⟨s, (utx s).length, 0⟩ := by
  have e : getN (utx s ++ rest) = ⟨s.size, (uv s.size).length, 0⟩ := by
    unfold utx
    rw [List.append_assoc, getN_uv h]
  unfold getT
  rw [e, if_neg (by simp), if_neg (by rw [List.length_append, utx_len]; simp only; omega)]
  simp only [utx_len]
  congr 1
  apply bytes_ext
  unfold utx
  rw [List.append_assoc]
  simp only [List.drop_left]
  rw [Lib.size_eq, List.take_left]
theorem getT_le (l : List UInt8) : (getT l).s.size ≤ l.length ∧ (getT l).n ≤ l.length ∧ ((getT l).e = 0 ∧ 0 < (getT l).n ∨ (getT l).n = 0 ∧ (getT l).s = ⟨#[]⟩ ∧ ((getT l).e = 7 ∨ (getT l).e = 9)) := by
  obtain ⟨h1, h2, h3⟩ := getN_le l
  unfold getT
  split
  · rename_i h0
    refine ⟨Nat.zero_le _, Nat.zero_le _, .inr ⟨rfl, rfl, ?_⟩⟩
    rcases h3 with ⟨h, _⟩ | ⟨_, _, h⟩
    · exact absurd h h0
    · exact h
  · rename_i h0
    split
    · exact ⟨Nat.zero_le _, Nat.zero_le _, .inr ⟨rfl, rfl, .inl rfl⟩⟩
    · rename_i h4
      refine ⟨?_, by show (getN l).n + (getN l).v ≤ _; omega, .inl ⟨rfl, ?_⟩⟩
      · rw [Lib.size_eq]
        simp only [List.length_take, List.length_drop]
        omega
      · show 0 < (getN l).n + (getN l).v
        rcases h3 with ⟨_, h⟩ | ⟨_, _, h⟩
        · omega
        · exfalso; apply h0; intro e; omega
end Go.Proofs.YtabcdodjkfknlaaGreatDoor
namespace Go.Proofs.YtabcdodjkfknlaaGreatDoor
open Go.RowKit
/-- a table of a level -/
structure Tbl where
  (num level size : Int)
  (first last : ByteArray)
/-- how the set of files changes -/
structure Edt where
  add : List Tbl
  drop : List Int
  (floor head : Nat)
  (log next : Int)
/-- a set of files -/
structure Ver where
  tables : List Tbl
  (floor head : Nat)
  (log next : Int)
def Edt.zero : Edt := ⟨[], [], 0, 0, 0, 0⟩
def Ver.zero : Ver := ⟨[], 0, 0, 0, 0⟩
/-- a number that is not written -/
def oddI (n : Int) : Bool := decide (n < 0) || decide (4611686018427387904 ≤ n)
theorem oddI_no {n : Int} : oddI n = false ↔ 0 ≤ n ∧ n < 4611686018427387904 := by
  unfold oddI; simp
def Tbl.right (t : Tbl) : Bool := !oddI t.num && !oddI t.level && !oddI t.size
def Edt.right (e : Edt) : Bool := !oddI e.log && !oddI e.next && e.drop.all (fun n => !oddI n) && e.add.all Tbl.right
def uvI (n : Int) : List UInt8 := uv n.toNat
def Tbl.bytes (t : Tbl) : List UInt8 := uvI t.num ++ uvI t.level ++ uvI t.size ++ utx t.first ++ utx t.last
def Edt.bytes (e : Edt) : List UInt8 := uv e.add.length ++ e.add.flatMap Tbl.bytes ++ uv e.drop.length ++ e.drop.flatMap uvI ++ uv e.floor ++ uv e.head ++ uvI e.log ++ uvI e.next
/-- bytes that are left, and what was wrong first -/
structure Rdr where
  l : List UInt8
  e : Int
def Rdr.took (r : Rdr) (n : Nat) (e : Int) : Rdr := if r.e ≠ 0 then r else if e ≠ 0 then ⟨r.l, e⟩ else ⟨r.l.drop n, 0⟩
def Rdr.numR (r : Rdr) : Rdr := r.took (getN r.l).n (getN r.l).e
def Rdr.num (r : Rdr) : Nat := if r.numR.e ≠ 0 then 0 else (getN r.l).v
def Rdr.smallR (r : Rdr) : Rdr := if 4611686018427387904 ≤ r.num then r.numR.took 0 9 else r.numR
def Rdr.small (r : Rdr) : Int := if 4611686018427387904 ≤ r.num then 0 else r.num
def Rdr.textR (r : Rdr) : Rdr := r.took (getT r.l).n (getT r.l).e
def Rdr.text (r : Rdr) : ByteArray := if r.textR.e ≠ 0 then ⟨#[]⟩ else (getT r.l).s
def Rdr.tblR (r : Rdr) : Rdr := r.smallR.smallR.smallR.textR.textR
def Rdr.tbl (r : Rdr) : Tbl := ⟨r.small, r.smallR.small, r.smallR.smallR.small, r.smallR.smallR.smallR.text, r.smallR.smallR.smallR.textR.text⟩
/-- something is read as often as a number says, till something goes wrong -/
def Rdr.manyR (f : Rdr → Rdr) : Nat → Rdr → Rdr
  | 0, r => r
  | n + 1, r => if r.e ≠ 0 then r else Rdr.manyR f n (f r)
def Rdr.many {α : Type} (f : Rdr → Rdr) (g : Rdr → α) : Nat → Rdr → List α
  | 0, _ => []
  | n + 1, r => if r.e ≠ 0 then [] else g r :: Rdr.many f g n (f r)
def Rdr.timesR (f : Rdr → Rdr) (r : Rdr) : Rdr := Rdr.manyR f r.num r.numR
def Rdr.times {α : Type} (f : Rdr → Rdr) (g : Rdr → α) (r : Rdr) : List α := Rdr.many f g r.num r.numR
/-- what is read of an edit, and what is left then -/
def Rdr.edt (r : Rdr) : Edt × Rdr :=
  let r1 := r.timesR Rdr.tblR
  let r2 := r1.timesR Rdr.smallR
  let r6 := r2.numR.numR.smallR.smallR
  (⟨r.times Rdr.tblR Rdr.tbl, r1.times Rdr.smallR Rdr.small, r2.num, r2.numR.num, r2.numR.numR.small, r2.numR.numR.smallR.small⟩, if r6.l ≠ [] then r6.took 0 9 else r6)
/-- what bytes tell -/
def decodeE (l : List UInt8) : Edt × Int := let x := (Rdr.mk l 0).edt; if x.2.e ≠ 0 then (Edt.zero, x.2.e) else (x.1, 0)
section
variable {rest : List UInt8}
theorem took_ok {l : List UInt8} {n : Nat} : (Rdr.mk l 0).took n 0 = ⟨l.drop n, 0⟩ := by
  unfold Rdr.took
  simp
theorem num_uv {n : Nat} (h : n < 18446744073709551616) : (Rdr.mk (uv n ++ rest) 0).num = n ∧ (Rdr.mk (uv n ++ rest) 0).numR = ⟨rest, 0⟩ := by
  have e := getN_uv h rest
  have h1 : (Rdr.mk (uv n ++ rest) 0).numR = ⟨rest, 0⟩ := by
    show (Rdr.mk (uv n ++ rest) 0).took (getN (uv n ++ rest)).n (getN (uv n ++ rest)).e = _
    rw [e, took_ok]
    simp
  refine ⟨?_, h1⟩
  unfold Rdr.num
  rw [h1, if_neg (by simp)]
  show (getN (uv n ++ rest)).v = n
  rw [e]
theorem small_uv {n : Int} (h : oddI n = false) : (Rdr.mk (uvI n ++ rest) 0).small = n ∧ (Rdr.mk (uvI n ++ rest) 0).smallR = ⟨rest, 0⟩ := by
  rw [oddI_no] at h
  obtain ⟨h1, h2⟩ := num_uv (n := n.toNat) (rest := rest) (by omega)
  unfold Rdr.small Rdr.smallR uvI
  rw [h1, h2, if_neg (by omega), if_neg (by omega)]
  exact ⟨by omega, rfl⟩
theorem text_utx {s : ByteArray} (h : s.size < 18446744073709551616) : (Rdr.mk (utx s ++ rest) 0).text = s ∧ (Rdr.mk (utx s ++ rest) 0).textR = ⟨rest, 0⟩ := by
  have e := getT_utx h rest
  have h1 : (Rdr.mk (utx s ++ rest) 0).textR = ⟨rest, 0⟩ := by
    show (Rdr.mk (utx s ++ rest) 0).took (getT (utx s ++ rest)).n (getT (utx s ++ rest)).e = _
    rw [e, took_ok]
    simp
  refine ⟨?_, h1⟩
  unfold Rdr.text
  rw [h1, if_neg (by simp)]
  show (getT (utx s ++ rest)).s = s
  rw [e]
/-- a table that can be written and read -/
def Tbl.fits (t : Tbl) : Prop := t.right = true ∧ t.first.size < 18446744073709551616 ∧ t.last.size < 18446744073709551616
theorem tbl_bytes {t : Tbl} (h : t.fits) : (Rdr.mk (t.bytes ++ rest) 0).tbl = t ∧ (Rdr.mk (t.bytes ++ rest) 0).tblR = ⟨rest, 0⟩ := by
  obtain ⟨h1, h2, h3⟩ := h
  unfold Tbl.right at h1
  simp only [Bool.and_eq_true, Bool.not_eq_true'] at h1
  obtain ⟨⟨a1, a2⟩, a3⟩ := h1
  obtain ⟨x1, y1⟩ := small_uv (rest := uvI t.level ++ (uvI t.size ++ (utx t.first ++ (utx t.last ++ rest)))) a1
  obtain ⟨x2, y2⟩ := small_uv (rest := uvI t.size ++ (utx t.first ++ (utx t.last ++ rest))) a2
  obtain ⟨x3, y3⟩ := small_uv (rest := utx t.first ++ (utx t.last ++ rest)) a3
  obtain ⟨x4, y4⟩ := text_utx (rest := utx t.last ++ rest) h2
  obtain ⟨x5, y5⟩ := text_utx (rest := rest) h3
  unfold Rdr.tbl Rdr.tblR Tbl.bytes
  simp only [List.append_assoc]
  rw [x1, y1, x2, y2, x3, y3, x4, y4, x5, y5]
  exact ⟨rfl, rfl⟩
theorem many_bytes {α : Type} {f : Rdr → Rdr} {g : Rdr → α} {b : α → List UInt8} : ∀ (l : List α) (rest : List UInt8), (∀ x ∈ l, ∀ rest, g (Rdr.mk (b x ++ rest) 0) = x ∧ f (Rdr.mk (b x ++ rest) 0) = ⟨rest, 0⟩) →
    Rdr.many f g l.length (Rdr.mk (l.flatMap b ++ rest) 0) = l ∧ Rdr.manyR f l.length (Rdr.mk (l.flatMap b ++ rest) 0) = ⟨rest, 0⟩
  | [], rest, _ => ⟨rfl, rfl⟩
  | x :: l, rest, h => by
    obtain ⟨h1, h2⟩ := h x (by simp) (l.flatMap b ++ rest)
    obtain ⟨h3, h4⟩ := many_bytes l rest fun y hy => h y (by simp [hy])
    show Rdr.many f g (l.length + 1) _ = _ ∧ Rdr.manyR f (l.length + 1) _ = _
    unfold Rdr.many Rdr.manyR
    rw [if_neg (by simp), if_neg (by simp), List.flatMap_cons, List.append_assoc, h1, h2, h3, h4]
    exact ⟨rfl, rfl⟩
theorem times_bytes {α : Type} {f : Rdr → Rdr} {g : Rdr → α} {b : α → List UInt8} (l : List α) (hl : l.length < 18446744073709551616) (h : ∀ x ∈ l, ∀ rest, g (Rdr.mk (b x ++ rest) 0) = x ∧ f (Rdr.mk (b x ++ rest) 0) = ⟨rest, 0⟩) :
    (Rdr.mk (uv l.length ++ (l.flatMap b ++ rest)) 0).times f g = l ∧ (Rdr.mk (uv l.length ++ (l.flatMap b ++ rest)) 0).timesR f = ⟨rest, 0⟩ := by
  obtain ⟨h1, h2⟩ := num_uv (n := l.length) (rest := l.flatMap b ++ rest) hl
  unfold Rdr.times Rdr.timesR
  rw [h1, h2]
  exact many_bytes l rest h
end
/-- an edit that can be written and read -/
structure Edt.fits (e : Edt) : Prop where
  right : e.right = true
  floor : e.floor < 18446744073709551616
  head : e.head < 18446744073709551616
  add : e.add.length < 18446744073709551616
  drop : e.drop.length < 18446744073709551616
  text : ∀ t ∈ e.add, t.first.size < 18446744073709551616 ∧ t.last.size < 18446744073709551616
theorem decode_bytes {e : Edt} (h : e.fits) : decodeE e.bytes = (e, 0) := by
  obtain ⟨hr, hf, hh, ha, hd, ht⟩ := h
  unfold Edt.right at hr
  simp only [Bool.and_eq_true, Bool.not_eq_true', List.all_eq_true] at hr
  obtain ⟨⟨⟨r1, r2⟩, r3⟩, r4⟩ := hr
  obtain ⟨x1, y1⟩ := times_bytes (f := Rdr.tblR) (g := Rdr.tbl) (b := Tbl.bytes) (rest := uv e.drop.length ++ (e.drop.flatMap uvI ++ (uv e.floor ++ (uv e.head ++ (uvI e.log ++ (uvI e.next ++ [])))))) e.add ha fun t h rest => tbl_bytes ⟨r4 t h, ht t h⟩
  obtain ⟨x2, y2⟩ := times_bytes (f := Rdr.smallR) (g := Rdr.small) (b := uvI) (rest := uv e.floor ++ (uv e.head ++ (uvI e.log ++ (uvI e.next ++ [])))) e.drop hd fun n h rest => small_uv (by simpa using r3 n h)
  obtain ⟨x3, y3⟩ := num_uv (rest := uv e.head ++ (uvI e.log ++ (uvI e.next ++ []))) hf
  obtain ⟨x4, y4⟩ := num_uv (rest := uvI e.log ++ (uvI e.next ++ [])) hh
  obtain ⟨x5, y5⟩ := small_uv (rest := uvI e.next ++ []) r1
  obtain ⟨x6, y6⟩ := small_uv (rest := []) r2
  have hb : e.bytes = uv e.add.length ++ (e.add.flatMap Tbl.bytes ++ (uv e.drop.length ++ (e.drop.flatMap uvI ++ (uv e.floor ++ (uv e.head ++ (uvI e.log ++ (uvI e.next ++ []))))))) := by
    unfold Edt.bytes
    simp only [List.append_assoc, List.append_nil]
  have hx : (Rdr.mk e.bytes 0).edt = (e, ⟨[], 0⟩) := by
    unfold Rdr.edt
    rw [hb]
    simp only [x1, y1, x2, y2, x3, y3, x4, y4, x5, y5, x6, y6]
    rfl
  unfold decodeE
  rw [hx]
  rfl
/-- a version as an edit of nothing -/
def Ver.whole (v : Ver) : Edt := ⟨v.tables, [], v.floor, v.head, v.log, v.next⟩
end Go.Proofs.YtabcdodjkfknlaaGreatDoor
namespace Go.Proofs.YtabcdodjkfknlaaGreatDoor
open Go.RowKit
attribute [local go_sem ↓] dapp_op dslK_op
/-- bytes that grow: the argument's own, with no room, or a row that this call has made -/
def RoomB (w wr : World) (b : Value) (l : List UInt8) : Prop := Below w.heap.size w wr ∧ ∃ p c, b = .slice p l.length c ∧ (BOwn w.heap.size wr b l ∨ (c = l.length ∧ Bytes wr b l))
theorem RoomB.put {w wr : World} {b : Value} {l : List UInt8} (h : RoomB w wr b l) (x : UInt8) (hl : l.length ≤ 1000000000) :
    ∃ p c w', (dappOp #[43, 43] 43 #[b, .slice (some ⟨wr.heap.size, 0, none⟩) 1 1]).run Tryz.prog (wr.alloc (.cells #[.int .u8 x.toNat] 5)) = .ok (.slice p (l.length + 1) c) w' ∧
      BOwn w.heap.size w' (.slice p (l.length + 1) c) (l ++ [x]) ∧ Below w.heap.size w w' := by
  obtain ⟨hb, p, c, rfl, h⟩ := h
  have hz := hb.size
  have hal : Below w.heap.size w (wr.alloc (.cells #[.int .u8 x.toNat] 5)) := hb.alloc hz _
  have hA := (Below.refl wr.heap.size wr).alloc (Nat.le_refl _) (.cells #[.int .u8 x.toNat] 5)
  have hx : Bytes (wr.alloc (.cells #[.int .u8 x.toNat] 5)) (.slice (some ⟨wr.heap.size, 0, none⟩) 1 1) [x] := by
    refine .inl (.inr ⟨_, _, _, rfl, Nat.le_refl _, fun i y hy => ?_⟩)
    have := (List.getElem?_eq_some_iff.1 hy).1
    obtain rfl : i = 0 := by simpa using this
    obtain rfl : x = y := by simpa using hy
    rw [(Blk.new wr 5 #[.int .u8 x.toNat]).cell]
    rfl
  rcases h with h | ⟨rfl, h⟩
  · have h' := h.later hA
    obtain ⟨p', c', w', h1, h2, h3⟩ := h'.put hx (by simp; omega) (by simp; omega)
    simp only [List.length_cons, List.length_nil, Nat.zero_add] at h1 h2
    exact ⟨p', c', w', h1, h2, Keeps.below_step hal hal.size h3 fun j e => (h'.lt j e).1⟩
  · have h' := h.later hA
    obtain ⟨p', c', w', h1, h2, h3⟩ := Bytes.put h' hx (by omega) (by simp; omega)
    simp only [List.length_cons, List.length_nil, Nat.zero_add] at h1 h2
    exact ⟨p', c', w', h1, h2.mono (by simp; omega), hal.trans (h3.mono hal.size)⟩
theorem or80 (m : Nat) : bits .or .u8 ((m : Int) % 256) 128 = ((UInt8.ofNat (m % 128 + 128)).toNat : Int) := by
  have h : ∀ a : Fin 256, bits .or .u8 ((a.val : Nat) : Int) 128 = ((UInt8.ofNat (a.val % 128 + 128)).toNat : Int) := by decide +kernel
  have := h ⟨m % 256, by omega⟩
  simp only at this
  rw [show (m : Int) % 256 = ((m % 256 : Nat) : Int) by omega, this, show m % 256 % 128 = m % 128 by omega]
set_option maxHeartbeats 1000000 in
set_option maxRecDepth 100000 in
theorem put_calls (v : Value) (l : List UInt8) (n : Nat) (w : World) (hv : Bytes w v l) (hl : l.length ≤ 100000000) (hn : n < 18446744073709551616) :
    Calls Tryz.prog 90 #[v, .int .u64 n] w (MadeB w (l ++ uv n)) := by
  obtain ⟨p, c, rfl⟩ := hv.slice
  have hs := fun W => bsl_full p l.length c hv.len.2 W
  have hR : RoomB w w (.slice p l.length l.length) l := ⟨Below.refl _ _, p, _, rfl, .inr ⟨rfl, hv.full⟩⟩
  have hR' := Lib.hid hR
  clear hv hR
  go_enter Tryz.func90, Tryz.ntmps90
  go_wp2
  go_loopw [0, 1] (fun b v wr => ∃ (x : List UInt8) (m : Nat), v = .int .u64 m ∧ m < 18446744073709551616 ∧ l ++ uv n = x ++ uv m ∧ RoomB w wr b x) (fun _ v _ => (intOf v).toNat)
  case atStart => exact ⟨l, n, rfl, hn, rfl, hR'.out⟩
  case round =>
    obtain ⟨x, m, rfl, hm, hu, hR⟩ := hrel
    have hlen : (l ++ uv n).length = x.length + (uv m).length := by rw [hu, List.length_append]
    have hlen2 := uv_len10 hn
    have hlen3 := uv_len10 hm
    rw [List.length_append] at hlen
    have hx : x.length ≤ 1000000000 := by omega
    obtain ⟨_, p1, c1, rfl, _⟩ := id hR
    by_cases hlt : m < 128
    · have ht : ¬ (127 : Int) < (m : Int) := by omega
      obtain ⟨p2, c2, w2, e2, o2, b2⟩ := hR.put (UInt8.ofNat m) hx
      rw [ofNat_toNat (by omega)] at e2
      rw [uv_small hlt] at hu
      have o2' := Lib.hid o2
      have hu' := Lib.hid hu
      clear hlen hR hR' hu o2 hlen2 hlen3
      go_wp2
      go_ret
      rw [hu'.out]
      exact ⟨p2, c2, by simp, by simpa using o2'.out, b2⟩
    · have ht : (127 : Int) < (m : Int) := by omega
      obtain ⟨p2, c2, w2, e2, o2, b2⟩ := hR.put (UInt8.ofNat (m % 128 + 128)) hx
      rw [← or80] at e2
      rw [uv_big hlt] at hu
      have o2' := Lib.hid o2
      have hu' := Lib.hid hu
      clear hlen hR hR' hu o2 hlen2 hlen3
      go_wp2
      go_roundw
      case rel => exact ⟨x ++ [UInt8.ofNat (m % 128 + 128)], m / 128, by go_num, by omega, by rw [hu'.out]; simp, b2, p2, c2, by simp, .inl (by simpa using o2'.out)⟩
      case measure => simp [intOf]; omega
set_option maxHeartbeats 1000000 in
set_option maxRecDepth 100000 in
theorem putText_calls (v : Value) (l : List UInt8) (s : ByteArray) (w : World) (hv : Bytes w v l) (hl : l.length ≤ 90000000) (hs : s.size ≤ 1000000) :
    Calls Tryz.prog 91 #[v, .string s] w (MadeB w (l ++ utx s)) := by
  have hP := Lib.hid (put_calls v l s.size w hv (by omega) (by omega))
  have hu := uv_len10 (n := s.size) (by omega)
  have hs2 : s.size < 9223372036854775808 := by omega
  clear hv
  go_enter Tryz.func91, Tryz.ntmps91
  go_wp2_with fail
  refine hP.out.mono ?_
  rintro e w1 ⟨p1, c1, rfl, o1, b1⟩
  obtain ⟨x, hx⟩ : ∃ x, l ++ uv s.size = x := ⟨_, rfl⟩
  have hxl : x.length = l.length + (uv s.size).length := by rw [← hx, List.length_append]
  rw [hx] at o1 ⊢
  obtain ⟨p2, c2, w2, e2, o2, k2⟩ := o1.putS (s := s) (by omega) b1.size
  have b2 := Lib.hid (Keeps.below_step b1 b1.size k2 fun j e => (o1.lt j e).1)
  have he : x ++ s.data.toList = l ++ utx s := by rw [← hx]; unfold utx; rw [List.append_assoc]
  rw [he] at e2 o2
  obtain ⟨N, hN⟩ : ∃ N, (l ++ utx s).length = N := ⟨_, rfl⟩
  have o2' := Lib.hid o2
  rw [hN] at e2
  have hN' := Lib.hid hN
  clear hP hu hxl hx he k2 o1 o2 b1 hN
  go_wp2_with fail
  go_ret
  exact ⟨p2, c2, by rw [hN'.out]; rfl, o2'.out, b2.out⟩
end Go.Proofs.YtabcdodjkfknlaaGreatDoor
namespace Go.Proofs.YtabcdodjkfknlaaGreatDoor
open Go.RowKit
attribute [local go_sem ↓] dapp_op dslK_op
def GotPost (w : World) (g : Got) (e : Ending) (w' : World) : Prop := e = .returned (.tuple #[.int .u64 g.v, .int .i64 g.n, .int .i64 g.e]) ∧ w = w'
theorem u64w {a : Int} (h1 : 0 ≤ a) (h2 : a < 18446744073709551616) : IntKind.u64.wrap a = a := by
  simp [IntKind.wrap, IntKind.bits, IntKind.signed]; omega
theorem and7f (d : Nat) (h : d < 256) : bits .and .u8 (d : Int) 127 = ((d % 128 : Nat) : Int) := by
  have h : ∀ a : Fin 256, bits .and .u8 ((a.val : Nat) : Int) 127 = ((a.val % 128 : Nat) : Int) := by decide +kernel
  exact h ⟨d, by omega⟩
/-- seven bits more -/
theorem more7 {m d k : Nat} (hd : d < 256) (hm : m < 128 ^ k) (hb : m + d % 128 * 128 ^ k < 18446744073709551616) :
    bits .or .u64 (m : Int) (IntKind.u64.wrap (IntKind.u64.wrap (bits .and .u8 (d : Int) 127) * 2 ^ (7 * k))) = ((m + d % 128 * 128 ^ k : Nat) : Int) := by
  have e1 : (128 : Nat) ^ k = 2 ^ (7 * k) := by rw [Nat.pow_mul]
  rw [and7f d hd, u64w (a := ((d % 128 : Nat) : Int)) (by omega) (by omega)]
  have e2 : ((d % 128 : Nat) : Int) * 2 ^ (7 * k) = ((d % 128 * 128 ^ k : Nat) : Int) := by
    rw [e1]; simp
  rw [e2, u64w (by omega) (by omega), u64_or_nat _ _ (by omega) (by omega)]
  congr 1
  rw [e1] at hm ⊢
  rw [← Nat.shiftLeft_eq, Nat.or_comm, ← Nat.shiftLeft_add_eq_or_of_lt hm, Nat.add_comm]
theorem pow128_le {k : Nat} (h : k ≤ 9) : (128 : Nat) ^ k ≤ 9223372036854775808 := by
  have h2 : (128 : Nat) ^ k ≤ 128 ^ 9 := Nat.pow_le_pow_right (by decide) h
  have h3 : (128 : Nat) ^ 9 = 9223372036854775808 := by decide
  omega
theorem drop_at {l : List UInt8} {k : Nat} {x : UInt8} (h : l[k]? = some x) : l.drop k = x :: l.drop (k + 1) := by
  obtain ⟨h1, h2⟩ := List.getElem?_eq_some_iff.1 h
  rw [List.drop_eq_getElem_cons h1, h2]
set_option maxHeartbeats 2000000 in
set_option maxRecDepth 100000 in
theorem get_calls (v : Value) (l : List UInt8) (w : World) (hv : Bytes w v l) (hl : l.length ≤ 100000000) :
    Calls Tryz.prog 145 #[v] w (GotPost w (getN l)) := by
  obtain ⟨p, c, rfl⟩ := hv.slice
  have hv' := Lib.hid hv
  clear hv
  go_enter Tryz.func145, Tryz.ntmps145
  go_wp2
  go_loop [5, 10] (fun a i => ∃ (k m : Nat), k ≤ l.length ∧ k ≤ 9 ∧ m < 128 ^ k ∧ i = .int .i64 k ∧ a = .int .u64 m ∧ getN l = getA k m (l.drop k)) (fun _ i => l.length - (intOf i).toNat)
  case atStart => exact ⟨0, 0, by omega, by omega, by decide, rfl, rfl, rfl⟩
  case round =>
    obtain ⟨k, m, hk, hk9, hm, rfl, rfl, hg⟩ := hrel
    have hpw := pow128_le hk9
    by_cases hlt : k < l.length
    · obtain ⟨x, hx⟩ : ∃ x, l[k]? = some x := ⟨_, List.getElem?_eq_getElem hlt⟩
      obtain ⟨g, o, rfl, hc⟩ := hv'.out.cellAt hx
      have hx1 : x.toNat < 256 := x.toNat_lt
      rw [drop_at hx] at hg
      unfold getA at hg
      have hd128 : x.toNat % 128 < 128 := Nat.mod_lt _ (by decide)
      have hmx : m + x.toNat % 128 * 128 ^ k < 128 ^ (k + 1) := by
        have : x.toNat % 128 * 128 ^ k ≤ 127 * 128 ^ k := Nat.mul_le_mul_right _ (by omega)
        rw [Nat.pow_succ]; omega
      have hmm : ¬ (k = 9 ∧ 1 < x.toNat) → m + x.toNat % 128 * 128 ^ k < 18446744073709551616 := by
        intro h
        by_cases h9 : k = 9
        · have h1 : x.toNat % 128 * 128 ^ k ≤ 1 * 128 ^ k := Nat.mul_le_mul_right _ (by omega)
          omega
        · have h2 : 128 ^ (k + 1) ≤ 9223372036854775808 := pow128_le (by omega)
          omega
      have hm7 := fun h => more7 (m := m) (k := k) hx1 hm (hmm h)
      generalize hdx : x.toNat = d at *
      clear hdx hx
      by_cases hA : (k = 9 ∧ 1 < d) ∨ (d = 0 ∧ 0 < k)
      · rw [if_pos hA] at hg
        have hg' := Lib.hid hg
        clear hg hm7 hmm hmx
        by_cases h9 : k = 9 ∧ 1 < d
        · obtain ⟨rfl, h1⟩ := h9
          have t1 : (1 : Int) < (d : Int) := by omega
          go_wp2
          go_ret3
          exact ⟨by rw [hg'.out]; rfl, rfl⟩
        · obtain ⟨rfl, h0⟩ : d = 0 ∧ 0 < k := by omega
          have hA' := Lib.hid hA
          clear hA h9
          by_cases h9 : k = 9
          · subst h9
            go_wp2
            go_ret3
            exact ⟨by rw [hg'.out]; rfl, rfl⟩
          · have t0 : ((k : Int) == 9) = false := by simp; omega
            go_wp2
            go_ret3
            exact ⟨by rw [hg'.out]; rfl, rfl⟩
      · rw [if_neg hA] at hg
        have hq := hm7 (by omega)
        have hm' := hmm (by omega)
        obtain ⟨m', hme⟩ : ∃ m', m + d % 128 * 128 ^ k = m' := ⟨_, rfl⟩
        rw [hme] at hg hq hm' hmx
        have hg' := Lib.hid hg
        have hmx' := Lib.hid hmx
        have t0 : ((d : Int) == 0) = false ∨ (((d : Int) == 0) = true ∧ ¬ (0 : Int) < (k : Int)) := by
          by_cases h0 : d = 0
          · exact .inr ⟨by simp [h0], by omega⟩
          · exact .inl (by simp; omega)
        have t1 : ((k : Int) == 9) = false ∨ (((k : Int) == 9) = true ∧ ¬ (1 : Int) < (d : Int)) := by
          by_cases h0 : k = 9
          · exact .inr ⟨by simp [h0], by omega⟩
          · exact .inl (by simp; omega)
        have h9' : ¬ d < 128 → k + 1 ≤ 9 := by omega
        by_cases h8 : d < 128
        · have t2 : (d : Int) < 128 := by omega
          rw [if_pos h8] at hg
          have hg' := Lib.hid hg
          have hr : GotPost w (getN l) (.returned (.tuple #[.int .u64 m', .int .i64 (k + 1), .int .i64 0])) w := by rw [hg]; exact ⟨by rfl, rfl⟩
          have hr' := Lib.hid hr
          clear hg hA hm7 hmm hme hmx hpw hm h9' hr
          rcases t0 with t0 | ⟨t0, t3⟩ <;> rcases t1 with t1 | ⟨t1, t4⟩
          all_goals
            go_wp2
            go_ret3
            exact hr'.out
        · have t2 : ¬ (d : Int) < 128 := by omega
          rw [if_neg h8] at hg
          have hg' := Lib.hid hg
          have h9 := Lib.hid (h9' h8)
          have t3 : ((d : Int) == 0) = false := by simp; omega
          have t4 : ((k : Int) == 9) = false := by simp; omega
          clear hg hA hm7 hmm hme hmx hpw hm h9' h8 t0 t1
          go_wp2
          go_round
          case rel => exact ⟨k + 1, m', by omega, h9.out, hmx'.out, by go_num, rfl, hg'.out⟩
          case measure => simp [intOf]; omega
    · have hk' : l.drop k = [] := List.drop_of_length_le (by omega)
      rw [hk'] at hg
      have hr : GotPost w (getN l) (.returned (.tuple #[.int .u64 0, .int .i64 0, .int .i64 7])) w := by rw [hg]; exact ⟨by rfl, rfl⟩
      have hr' := Lib.hid hr
      clear hg hr hk' hm hpw
      go_wp2
      go_ret3
      exact hr'.out
end Go.Proofs.YtabcdodjkfknlaaGreatDoor
namespace Go.Proofs.YtabcdodjkfknlaaGreatDoor
open Go.RowKit
attribute [local go_sem ↓] dapp_op dslK_op
/-- string(v) -/
theorem bytes_str {w : World} {v : Value} {l : List UInt8} (h : Bytes w v l) : (convert 43 9 v).run Tryz.prog w = .ok (.string ⟨l.toArray⟩) w := by
  rcases h with (⟨rfl, rfl⟩ | ⟨g, o, c, rfl, hc, h⟩) | ⟨a, c, rfl, rfl⟩
  · have := run_convert_bytes_nil (P := Tryz.prog) (w := w) 43 5 Tryz.underlying43 Tryz.underlying5 0 0 9 Tryz.underlying9
    exact this
  · have := run_convert_bytes_arg (P := Tryz.prog) (w := w) 43 5 Tryz.underlying43 Tryz.underlying5 g o l.length c (l.map fun x => (x.toNat : Int)) (by simp) (fun i hi => by
      obtain ⟨x, hx⟩ : ∃ x, l[i]? = some x := ⟨_, List.getElem?_eq_getElem hi⟩
      rw [h i x hx]
      simp [List.getD, hx]) 9 Tryz.underlying9
    rw [this]
    refine congrArg (fun s => Result.ok (Value.string s) w) ?_
    apply ByteArray.ext
    apply Array.toList_inj.1
    rw [strOfNums_data, List.map_map]
    show _ = l
    conv => rhs; rw [← List.map_id l]
    apply List.map_congr_left
    intro x _
    simp
  · exact run_convert_bytes_back w 43 9 5 a c [] Tryz.underlying43 Tryz.underlying5 Tryz.underlying9 (fun j hj => absurd hj (Nat.not_lt_zero _))
def GotTPost (w : World) (g : GotT) (e : Ending) (w' : World) : Prop := e = .returned (.tuple #[.string g.s, .int .i64 g.n, .int .i64 g.e]) ∧ w = w'
set_option maxHeartbeats 400000 in
set_option maxRecDepth 100000 in
theorem getText_calls (v : Value) (l : List UInt8) (w : World) (hv : Bytes w v l) (hl : l.length ≤ 100000000) :
    Calls Tryz.prog 144 #[v] w (GotTPost w (getT l)) := by
  have hG := Lib.hid (get_calls v l w hv hl)
  have hT : getT l = if (getN l).e ≠ 0 then ⟨⟨#[]⟩, 0, (getN l).e⟩ else if l.length - (getN l).n < (getN l).v then ⟨⟨#[]⟩, 0, 7⟩ else ⟨⟨((l.drop (getN l).n).take (getN l).v).toArray⟩, (getN l).n + (getN l).v, 0⟩ := rfl
  obtain ⟨hg1, hg2, hg3⟩ := getN_le l
  obtain ⟨p, c, rfl⟩ := hv.slice
  have hlen := hv.len.2
  obtain ⟨⟨gv, gn, ge⟩, hg⟩ : ∃ g, getN l = g := ⟨_, rfl⟩
  rw [hg] at hG hT hg1 hg2 hg3
  simp only at hT hg1 hg2 hg3
  clear hg
  by_cases h0 : ge = 0
  · subst h0
    rw [if_neg (by simp)] at hT
    obtain ⟨L, hL⟩ : ∃ L, l.length = L := ⟨_, rfl⟩
    rw [hL] at hG hT hg2 hl hlen
    rw [hL] at hv ⊢
    obtain ⟨r, hr⟩ : ∃ r : Nat, L - gn = r := ⟨_, rfl⟩
    have hsub : (L : Int) - (gn : Int) = (r : Int) := by omega
    have hr2 : r ≤ 100000000 := by omega
    rw [hr] at hT
    by_cases h1 : r < gv
    · rw [if_pos h1] at hT
      have t1 : (r : Int) < (gv : Int) := by omega
      have hP : GotTPost w (getT l) (.returned (.tuple #[.string ⟨#[]⟩, .int .i64 0, .int .i64 7])) w := by rw [hT]; exact ⟨rfl, rfl⟩
      have hP' := Lib.hid hP
      clear hP hT hv hL hr hg3 h1
      go_enter Tryz.func144, Tryz.ntmps144
      go_wp2_with fail
      with_reducible refine hG.out.mono ?_
      rintro e w1 ⟨rfl, rfl⟩
      go_wp2
      go_ret3
      exact hP'.out
    · rw [if_neg h1] at hT
      have t1 : ¬ (r : Int) < (gv : Int) := by omega
      have t2 : gv ≤ 100000000 := by omega
      obtain ⟨j, hj⟩ : ∃ j : Nat, gn + gv = j := ⟨_, rfl⟩
      have hadd : (gn : Int) + (gv : Int) = (j : Int) := by omega
      have t3 : j ≤ 100000000 := by omega
      obtain ⟨q, hq⟩ : ∃ q, (if c = gn then p else p.map (·.add gn)) = q := ⟨_, rfl⟩
      have hm := fun W => bsl_mid p L c gn j (by omega) (by omega) W
      have hb := (hv.drop hg2).take (j := j - gn) (by omega)
      rw [hq] at hb
      simp only [hq] at hm
      have hs := bytes_str hb
      rw [show j - gn = gv by omega] at hs hm
      have hP : GotTPost w (getT l) (.returned (.tuple #[.string ⟨((l.drop gn).take gv).toArray⟩, .int .i64 j, .int .i64 0])) w := by rw [hT]; exact ⟨by rw [← hj], rfl⟩
      have hP' := Lib.hid hP
      generalize (⟨((l.drop gn).take gv).toArray⟩ : ByteArray) = S at *
      clear hP hT hv hL hr hg3 h1 hb hq hj
      go_enter Tryz.func144, Tryz.ntmps144
      go_wp2_with fail
      with_reducible refine hG.out.mono ?_
      rintro e w1 ⟨rfl, rfl⟩
      go_wp2
      go_ret3
      exact hP'.out
  · rw [if_pos h0] at hT
    have t1 : (ge != 0) = true := by simpa using h0
    have hP : GotTPost w (getT l) (.returned (.tuple #[.string ⟨#[]⟩, .int .i64 0, .int .i64 ge])) w := by rw [hT]; exact ⟨rfl, rfl⟩
    have hP' := Lib.hid hP
    clear hP hT hv hg3 h0
    go_enter Tryz.func144, Tryz.ntmps144
    go_wp2_with fail
    with_reducible refine hG.out.mono ?_
    rintro e w1 ⟨rfl, rfl⟩
    go_wp2
    go_ret3
    exact hP'.out
end Go.Proofs.YtabcdodjkfknlaaGreatDoor
