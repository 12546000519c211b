/- Files' names, plainly: a kind's sign, a stroke, a number's digits. No program in sight. Files' names, read: what strings.Cut and strconv.Atoi make of them. No program in sight. Plain words on tuples. No program in sight. The order of tuples, plainly: no program in sight. The order of tuples, and a set of them, plainly: no program in sight. Numbers and texts as bytes: what is written, what is read back. No program in sight. Edits of a set of files as bytes, and back. No program in sight. -/
import Derived.Test.YtabcdodjkfknlaaGreatDoorPL01
import Derived.Lib.ItoaNum
import Derived.Lib.AtoiTie
import Derived.Lib.IndexMore
import Derived.Lib.Bytealg
import Derived.Lib.Join
namespace Go.Proofs.YtabcdodjkfknlaaGreatDoor
open Go.RowKit
def fkind (k : UInt8) : Bool := k == 116 || k == 119 || k == 109
def fname (k : UInt8) (n : Nat) : List UInt8 := if fkind k = true ∧ 1 ≤ n ∧ n ≤ 999999999 then k :: 45 :: Lib.decDigits n else []
/-- the number that digits tell -/
def numL (l : List UInt8) : Nat := l.foldl (fun n d => n * 10 + (d.toNat - 48)) 0
theorem numL_snoc (l : List UInt8) (d : UInt8) : numL (l ++ [d]) = numL l * 10 + (d.toNat - 48) := by
  unfold numL; rw [List.foldl_append]; rfl
theorem digit_nat (k : Nat) (h : k < 10) : (UInt8.ofNat (48 + k)).toNat - 48 = k := by
  rw [UInt8.toNat_ofNat', Nat.mod_eq_of_lt (by omega)]; omega
theorem numL_dec (u : Nat) : numL (Lib.decDigits u) = u := by
  induction u using Nat.strongRecOn with
  | ind u ih =>
    unfold Lib.decDigits
    split
    · rename_i h
      show numL ([] ++ [_]) = u
      rw [numL_snoc, digit_nat u h]
      show 0 * 10 + u = u
      omega
    · rw [numL_snoc, ih (u / 10) (by omega), digit_nat _ (Nat.mod_lt _ (by omega))]
      omega
/-- the kind and the number that a name tells -/
def fnum (l : List UInt8) : Option (UInt8 × Nat) := match l with
  | k :: 45 :: ds => if fname k (numL ds) = l then some (k, numL ds) else none
  | _ => none
/-- any way to read a name that gives it back is this one -/
theorem fnum_of {l : List UInt8} {k : UInt8} {n : Nat} (h : fname k n = l) (hl : l ≠ []) : fnum l = some (k, n) := by
  have e : fkind k = true ∧ 1 ≤ n ∧ n ≤ 999999999 := by
    by_cases e : fkind k = true ∧ 1 ≤ n ∧ n ≤ 999999999
    · exact e
    · unfold fname at h; rw [if_neg e] at h; exact absurd h.symm hl
  have h2 : l = k :: 45 :: Lib.decDigits n := by unfold fname at h; rw [if_pos e] at h; exact h.symm
  subst h2
  show (if fname k (numL (Lib.decDigits n)) = _ then _ else _) = _
  rw [numL_dec, if_pos h]
theorem fnum_back {l : List UInt8} {k : UInt8} {n : Nat} (h : fnum l = some (k, n)) : fname k n = l ∧ l ≠ [] := by
  unfold fnum at h
  split at h
  · rename_i k' ds
    split at h
    · rename_i e
      cases h
      exact ⟨e, by simp⟩
    · cases h
  · cases h
end Go.Proofs.YtabcdodjkfknlaaGreatDoor
namespace Go.Proofs.YtabcdodjkfknlaaGreatDoor
open Go.RowKit
theorem digitVal_of (k : Nat) (h : k < 10) : Lib.digitVal (UInt8.ofNat (48 + k)) = some k := by
  have : ∀ k : Fin 10, Lib.digitVal (UInt8.ofNat (48 + k.val)) = some k.val := by decide
  exact this ⟨k, h⟩
theorem decFrom_snoc : ∀ (l : List UInt8) (a n : Nat) (d : UInt8) (x : Nat), Lib.decFrom a l = some n → Lib.digitVal d = some x → Lib.decFrom a (l ++ [d]) = some (n * 10 + x)
  | [], a, n, d, x, h, hd => by
    obtain rfl : a = n := by simpa [Lib.decFrom] using h
    simp [Lib.decFrom, hd]
  | c :: r, a, n, d, x, h, hd => by
    rw [List.cons_append]
    unfold Lib.decFrom at h ⊢
    cases hc : Lib.digitVal c with
    | none => rw [hc] at h; cases h
    | some y =>
      rw [hc] at h
      exact decFrom_snoc r _ n d x h hd
theorem decFrom_dec (u : Nat) : Lib.decFrom 0 (Lib.decDigits u) = some u := by
  induction u using Nat.strongRecOn with
  | ind u ih =>
    unfold Lib.decDigits
    split
    · rename_i h
      have := decFrom_snoc [] 0 0 _ u rfl (digitVal_of u h)
      simpa using this
    · rename_i h
      have := decFrom_snoc _ 0 (u / 10) _ (u % 10) (ih (u / 10) (by omega)) (digitVal_of (u % 10) (Nat.mod_lt _ (by omega)))
      rw [this]
      congr 1; omega
theorem dec_digit (u : Nat) : ∀ x ∈ Lib.decDigits u, 48 ≤ x.toNat ∧ x.toNat ≤ 57 := by
  have hd : ∀ k : Fin 10, 48 ≤ (UInt8.ofNat (48 + k.val)).toNat ∧ (UInt8.ofNat (48 + k.val)).toNat ≤ 57 := by decide
  induction u using Nat.strongRecOn with
  | ind u ih =>
    intro x hx
    unfold Lib.decDigits at hx
    split at hx
    · rename_i h
      obtain rfl := List.mem_singleton.1 hx
      exact hd ⟨u, h⟩
    · rcases List.mem_append.1 hx with h | h
      · exact ih (u / 10) (by omega) x h
      · obtain rfl := List.mem_singleton.1 h
        exact hd ⟨u % 10, Nat.mod_lt _ (by omega)⟩
theorem dec_ne (u : Nat) : Lib.decDigits u ≠ [] := by
  unfold Lib.decDigits
  split <;> simp
theorem dec_len9 : ∀ (b m : Nat), m < 10 ^ (b + 1) → (Lib.decDigits m).length ≤ b + 1 := by
  intro b
  induction b with
  | zero => intro m hm; rw [Lib.decDigits, dif_pos (by omega)]; simp
  | succ b ih =>
    intro m hm
    rw [Lib.decDigits]
    by_cases h : m < 10
    · rw [dif_pos h]; simp
    · rw [dif_neg h, List.length_append]
      have := ih (m / 10) (by omega)
      simp; omega
theorem atoi_dec (u : Nat) : Lib.atoi (Lib.decDigits u) = some (u : Int) := by
  have h1 := decFrom_dec u
  have h2 := dec_digit u
  cases hl : Lib.decDigits u with
  | nil => exact absurd hl (dec_ne u)
  | cons b r =>
    rw [hl] at h1 h2
    have hb := h2 b (by simp)
    have e1 : (b == 45) = false := by
      simp only [beq_eq_false_iff_ne, ne_eq]
      rintro rfl
      exact absurd hb.1 (by decide)
    have e2 : (b == 43) = false := by
      simp only [beq_eq_false_iff_ne, ne_eq]
      rintro rfl
      exact absurd hb.1 (by decide)
    unfold Lib.atoi
    simp only [e1, e2, Lib.decNat, List.isEmpty_cons, h1]
    rfl
theorem atoiAll_dec (u : Nat) (h : u ≤ 999999999) : Lib.atoiAll (Lib.decDigits u) = .ok (u : Int) := by
  rw [Lib.atoiAll_short _ (by have := dec_len9 8 u (by omega); omega), atoi_dec]
  rfl
/-- what the program makes of the parts of a name -/
def numQ (l a d : List UInt8) (o : Bool) : Option (UInt8 × Nat) :=
  match a, Lib.atoiAll d with
  | [k], .ok v => if o = true ∧ fname k v.toNat = l then some (k, v.toNat) else none
  | _, _ => none
theorem numQ_no (l a d : List UInt8) : numQ l a d false = none := by
  unfold numQ
  split
  · rw [if_neg (by simp)]
  · rfl
theorem numQ_len (l d : List UInt8) {a : List UInt8} (o : Bool) (h : a.length ≠ 1) : numQ l a d o = none := by
  unfold numQ
  split
  · exact absurd rfl h
  · rfl
theorem numQ_err (l a : List UInt8) {d : List UInt8} (o : Bool) (h : ∀ v, Lib.atoiAll d ≠ .ok v) : numQ l a d o = none := by
  unfold numQ
  split
  · rename_i v he; exact absurd he (h v)
  · rfl
theorem numQ_ok (l : List UInt8) (k : UInt8) {d : List UInt8} {v : Int} (h : Lib.atoiAll d = .ok v) : numQ l [k] d true = if fname k v.toNat = l then some (k, v.toNat) else none := by
  unfold numQ
  rw [h]
  simp
/-- what the program makes of a name -/
def numP (l : List UInt8) : Option (UInt8 × Nat) := numQ l (Lib.cut l [45]).1 (Lib.cut l [45]).2.1 (Lib.cut l [45]).2.2
theorem cut_name (k : UInt8) (ds : List UInt8) (h : k ≠ 45) : Lib.cut (k :: 45 :: ds) [45] = ([k], ds, true) := by
  have hi : Lib.index (k :: 45 :: ds) [45] = 1 := by
    have e1 : ([45] : List UInt8).isPrefixOf (k :: 45 :: ds) = false := by
      simp [List.isPrefixOf]
      exact fun e => h e.symm
    have e2 : Lib.index (45 :: ds) [45] = 0 := by
      unfold Lib.index
      simp [List.isPrefixOf]
    unfold Lib.index
    rw [if_neg (by rw [e1]; simp), e2]
    rfl
  unfold Lib.cut
  rw [hi]
  rfl
theorem fkind_ne {k : UInt8} (h : fkind k = true) : k ≠ 45 := by
  rintro rfl
  exact absurd h (by decide)
theorem fname_form {k : UInt8} {n : Nat} {l : List UInt8} (h : fname k n = l) (hl : l ≠ []) : fkind k = true ∧ 1 ≤ n ∧ n ≤ 999999999 ∧ l = k :: 45 :: Lib.decDigits n := by
  by_cases e : fkind k = true ∧ 1 ≤ n ∧ n ≤ 999999999
  · unfold fname at h
    rw [if_pos e] at h
    exact ⟨e.1, e.2.1, e.2.2, h.symm⟩
  · unfold fname at h; rw [if_neg e] at h; exact absurd h.symm hl
theorem cut_nil : (Lib.cut [] [45]).2.2 = false := by decide
theorem numP_eq (l : List UInt8) : numP l = fnum l := by
  cases hf : fnum l with
  | some p =>
    obtain ⟨k, n⟩ := p
    obtain ⟨h1, h2⟩ := fnum_back hf
    obtain ⟨a, b, c, rfl⟩ := fname_form h1 h2
    unfold numP numQ
    rw [cut_name k _ (fkind_ne a), atoiAll_dec n c]
    simp only [Int.toNat_natCast]
    rw [if_pos ⟨trivial, h1⟩]
  | none =>
    unfold numP numQ
    split
    · rename_i k v _ _
      by_cases e : (Lib.cut l [45]).2.2 = true ∧ fname k v.toNat = l
      · have hl : l ≠ [] := by
          rintro rfl
          rw [cut_nil] at e
          cases e.1
        rw [fnum_of e.2 hl] at hf
        cases hf
      · rw [if_neg e]
    · rfl
end Go.Proofs.YtabcdodjkfknlaaGreatDoor
namespace Go.Proofs.YtabcdodjkfknlaaGreatDoor
open Go.RowKit

/-- a tuple: six texts -/
structure Tup where
  (a b c d e f : ByteArray)
/-- its parts -/
def Tup.l (t : Tup) : List ByteArray := [t.a, t.b, t.c, t.d, t.e, t.f]
/-- the value by which a call hands it over -/
def Tup.v (t : Tup) : Value := .agg #[.string t.a, .string t.b, .string t.c, .string t.d, .string t.e, .string t.f]
@[go_sem] theorem Tup.v_eq (t : Tup) : t.v = .agg #[.string t.a, .string t.b, .string t.c, .string t.d, .string t.e, .string t.f] := rfl
/-- all of its parts take room in memory -/
def Tup.fits (t : Tup) : Prop := ∀ p ∈ t.l, p.size ≤ maxLen
def partOk (k : Nat) (p : ByteArray) : Bool := isName p.data.toList || (decide (5 ≤ k) && p.toList.isEmpty)
/-- may it be? -/
def Tup.ok (t : Tup) : Bool := partOk 0 t.a && partOk 1 t.b && partOk 2 t.c && partOk 3 t.d && partOk 4 t.e && partOk 5 t.f
def Tup.check (t : Tup) : Int := if t.ok then 0 else 2
def Tup.part (t : Tup) (k : Nat) : ByteArray := t.l.getD k ByteArray.empty
def nilB : ByteArray := ⟨#[]⟩
/-- its text -/
def Tup.base (t : Tup) : ByteArray := t.a ++ ⟨#[58]⟩ ++ t.b ++ ⟨#[35]⟩ ++ t.c ++ ⟨#[64]⟩ ++ t.d ++ ⟨#[58]⟩ ++ t.e
def Tup.print (t : Tup) : ByteArray := if t.f.toList.isEmpty then t.base else t.base ++ (⟨#[35]⟩ ++ t.f)
def Tup.zero : Tup := ⟨⟨#[]⟩, ⟨#[]⟩, ⟨#[]⟩, ⟨#[]⟩, ⟨#[]⟩, ⟨#[]⟩⟩
/-- are its parts short? -/
def Tup.few (t : Tup) : Bool := t.l.all fun p => decide (p.size ≤ 200)
def Tup.cells (t : Tup) : Array Value := #[.string t.a, .string t.b, .string t.c, .string t.d, .string t.e, .string t.f]
end Go.Proofs.YtabcdodjkfknlaaGreatDoor
namespace Go.Proofs.YtabcdodjkfknlaaGreatDoor
open Go.RowKit

/-- the first parts that are not the same decide -/
def cmpL : List (List UInt8) → List (List UInt8) → Int
  | p :: ps, q :: qs => if Lib.compareBytes p q = 0 then cmpL ps qs else Lib.compareBytes p q
  | _, _ => 0
def Tup.ls (t : Tup) : List (List UInt8) := t.l.map fun p => p.data.toList
def cmpT (t u : Tup) : Int := cmpL t.ls u.ls
def same6 (a b c d e f a' b' c' d' e' f' : ByteArray) : Bool :=
  a.toList == a'.toList && (b.toList == b'.toList && (c.toList == c'.toList && (d.toList == d'.toList && (e.toList == e'.toList && f.toList == f'.toList))))
def Tup.same (t u : Tup) : Bool := same6 t.a t.b t.c t.d t.e t.f u.a u.b u.c u.d u.e u.f
theorem bytes_ext {a b : ByteArray} (h : a.data.toList = b.data.toList) : a = b := by
  rw [← Lib.mk_data a, h, Lib.mk_data]
theorem same_eq {t u : Tup} : t.same u = true ↔ t = u := by
  constructor
  · intro h
    simp only [Tup.same, same6, Bool.and_eq_true, beq_iff_eq, Lib.toList_data] at h
    obtain ⟨h0, h1, h2, h3, h4, h5⟩ := h
    cases t; cases u
    simp only at h0 h1 h2 h3 h4 h5
    rw [bytes_ext h0, bytes_ext h1, bytes_ext h2, bytes_ext h3, bytes_ext h4, bytes_ext h5]
  · rintro rfl; simp [Tup.same, same6]
theorem cb_self : ∀ l : List UInt8, Lib.compareBytes l l = 0
  | [] => rfl
  | a :: l => by unfold Lib.compareBytes; rw [if_neg (by simp), if_neg (by simp)]; exact cb_self l
theorem cb_eq : ∀ a b : List UInt8, Lib.compareBytes a b = 0 → a = b
  | [], [], _ => rfl
  | [], _ :: _, h => by simp [Lib.compareBytes] at h
  | _ :: _, [], h => by simp [Lib.compareBytes] at h
  | a :: x, b :: y, h => by
    unfold Lib.compareBytes at h
    split at h
    · simp at h
    · split at h
      · simp at h
      · rename_i h1 h2
        have e : a = b := by
          have := UInt8.le_antisymm (UInt8.not_lt.1 h2) (UInt8.not_lt.1 h1)
          exact this
        rw [e, cb_eq x y h]
theorem cb_three : ∀ a b : List UInt8, Lib.compareBytes a b = 0 ∨ Lib.compareBytes a b = -1 ∨ Lib.compareBytes a b = 1
  | [], [] => .inl rfl
  | [], _ :: _ => .inr (.inl rfl)
  | _ :: _, [] => .inr (.inr rfl)
  | a :: x, b :: y => by
    unfold Lib.compareBytes
    split
    · exact .inr (.inl rfl)
    · split
      · exact .inr (.inr rfl)
      · exact cb_three x y
theorem cb_less : ∀ a b : List UInt8, Op.bytesLess a b = decide (Lib.compareBytes a b = -1)
  | [], [] => rfl
  | [], _ :: _ => rfl
  | _ :: _, [] => by simp [Op.bytesLess, Lib.compareBytes]
  | a :: x, b :: y => by
    unfold Op.bytesLess Lib.compareBytes
    by_cases h1 : a < b
    · simp [h1]
    · by_cases h2 : b < a
      · have h3 : ¬ a = b := by rintro rfl; exact h1 h2
        simp [h1, h2, h3]
      · have e : a = b := UInt8.le_antisymm (UInt8.not_lt.1 h2) (UInt8.not_lt.1 h1)
        subst e
        simp [cb_less x y]
theorem less_m {a b : ByteArray} (h : Lib.compareBytes a.data.toList b.data.toList = -1) : Op.bytesLess a.toList b.toList = true := by
  rw [Lib.toList_data, Lib.toList_data, cb_less, h]; rfl
theorem less_n {a b : ByteArray} (h : ¬ Lib.compareBytes a.data.toList b.data.toList = -1) : Op.bytesLess a.toList b.toList = false := by
  rw [Lib.toList_data, Lib.toList_data, cb_less]; simpa using h
theorem eq_y {a b : ByteArray} (h : Lib.compareBytes a.data.toList b.data.toList = 0) : (a.toList == b.toList) = true := by
  rw [Lib.toList_data, Lib.toList_data, cb_eq _ _ h]; simp
theorem eq_n {a b : ByteArray} (h : ¬ Lib.compareBytes a.data.toList b.data.toList = 0) : (a.toList == b.toList) = false := by
  rw [Lib.toList_data, Lib.toList_data]
  cases he : a.data.toList == b.data.toList with
  | false => rfl
  | true => rw [beq_iff_eq] at he; exact absurd (by rw [he]; exact cb_self _) h
end Go.Proofs.YtabcdodjkfknlaaGreatDoor
namespace Go.Proofs.YtabcdodjkfknlaaGreatDoor
open Go.RowKit
theorem cb_flip : ∀ a b : List UInt8, Lib.compareBytes b a = - Lib.compareBytes a b
  | [], [] => rfl
  | [], _ :: _ => rfl
  | _ :: _, [] => rfl
  | a :: x, b :: y => by
    unfold Lib.compareBytes
    by_cases h1 : a < b
    · have h2 : ¬ b < a := fun h => UInt8.lt_irrefl _ (UInt8.lt_trans h h1)
      rw [if_neg h2, if_pos h1, if_pos h1]; rfl
    · by_cases h2 : b < a
      · rw [if_pos h2, if_neg h1, if_pos h2]
      · rw [if_neg h2, if_neg h1, if_neg h1, if_neg h2]
        exact cb_flip x y
theorem cb_trans : ∀ a b c : List UInt8, Lib.compareBytes a b = -1 → Lib.compareBytes b c = -1 → Lib.compareBytes a c = -1
  | [], [], _, h, _ => by simp [Lib.compareBytes] at h
  | [], _ :: _, [], _, h => by simp [Lib.compareBytes] at h
  | [], _ :: _, _ :: _, _, _ => rfl
  | _ :: _, [], _, h, _ => by simp [Lib.compareBytes] at h
  | _ :: _, _ :: _, [], _, h => by simp [Lib.compareBytes] at h
  | a :: x, b :: y, c :: z, h1, h2 => by
    unfold Lib.compareBytes at h1 h2 ⊢
    by_cases ab : a < b
    · by_cases bc : b < c
      · rw [if_pos (UInt8.lt_trans ab bc)]
      · rw [if_neg bc] at h2
        by_cases cb : c < b
        · rw [if_pos cb] at h2; cases h2
        · have e : b = c := UInt8.le_antisymm (UInt8.not_lt.1 cb) (UInt8.not_lt.1 bc)
          rw [← e, if_pos ab]
    · rw [if_neg ab] at h1
      by_cases ba : b < a
      · rw [if_pos ba] at h1; cases h1
      · rw [if_neg ba] at h1
        have e : a = b := UInt8.le_antisymm (UInt8.not_lt.1 ba) (UInt8.not_lt.1 ab)
        subst e
        by_cases bc : a < c
        · rw [if_pos bc]
        · rw [if_neg bc] at h2 ⊢
          by_cases cb : c < a
          · rw [if_pos cb] at h2; cases h2
          · rw [if_neg cb] at h2 ⊢
            exact cb_trans x y z h1 h2
instance : DecidableEq Tup := fun t u => if h : t.same u = true then .isTrue (same_eq.1 h) else .isFalse fun e => h (same_eq.2 e)
/-- one behind the other, each greater -/
def Sorted (l : List Tup) : Prop := l.Pairwise fun a b => cmpT a b < 0
/-- a tuple laid into a set, as the document does it -/
def ins : List Tup → Tup → List Tup
  | [], t => [t]
  | u :: l, t => if cmpT u t < 0 then u :: ins l t else if u = t then u :: l else t :: u :: l
/-- the set of the tuples that may be -/
def setT (l : List Tup) : List Tup := (l.filter Tup.ok).foldl ins []
/-- neighbours that are the same, once -/
def compactT : List Tup → List Tup
  | [] => []
  | [t] => [t]
  | t :: u :: l => if t = u then compactT (u :: l) else t :: compactT (u :: l)
end Go.Proofs.YtabcdodjkfknlaaGreatDoor
namespace Go.Proofs.YtabcdodjkfknlaaGreatDoor
open Go.RowKit
/-- a number as bytes -/
def uv (n : Nat) : List UInt8 := if n < 128 then [UInt8.ofNat n] else UInt8.ofNat (n % 128 + 128) :: uv (n / 128)
termination_by n
decreasing_by omega
theorem uv_small {n : Nat} (h : n < 128) : uv n = [UInt8.ofNat n] := by rw [uv, if_pos h]
theorem uv_big {n : Nat} (h : ¬ n < 128) : uv n = UInt8.ofNat (n % 128 + 128) :: uv (n / 128) := by rw [uv, if_neg h]
theorem uv_len : ∀ (k n : Nat), n < 128 ^ (k + 1) → (uv n).length ≤ k + 1
  | 0, n, h => by rw [uv_small (by simpa using h)]; simp
  | k + 1, n, h => by
    by_cases h1 : n < 128
    · rw [uv_small h1]; simp
    · rw [uv_big h1, List.length_cons]
      have := uv_len k (n / 128) (by rw [Nat.pow_succ] at h; omega)
      omega
theorem uv_len10 {n : Nat} (h : n < 18446744073709551616) : 1 ≤ (uv n).length ∧ (uv n).length ≤ 10 := by
  refine ⟨?_, uv_len 9 n (by have : (18446744073709551616 : Nat) ≤ 128 ^ (9 + 1) := by decide
                             omega)⟩
  by_cases h1 : n < 128
  · rw [uv_small h1]; simp
  · rw [uv_big h1]; simp
/-- what a reading gives: a number, how many bytes it took, what was wrong -/
structure Got where
  (v n : Nat)
  e : Int
/-- a number is read: the i-th byte stands at the head, v is what the bytes ahead tell -/
def getA : Nat → Nat → List UInt8 → Got
  | _, _, [] => ⟨0, 0, 7⟩
  | i, v, c :: l => if (i = 9 ∧ 1 < c.toNat) ∨ (c.toNat = 0 ∧ 0 < i) then ⟨0, 0, 9⟩ else if c.toNat < 128 then ⟨v + c.toNat % 128 * 128 ^ i, i + 1, 0⟩ else getA (i + 1) (v + c.toNat % 128 * 128 ^ i) l
def getN (l : List UInt8) : Got := getA 0 0 l
theorem ofNat_toNat {n : Nat} (h : n < 256) : (UInt8.ofNat n).toNat = n := by rw [UInt8.toNat_ofNat', Nat.mod_eq_of_lt (by omega)]
theorem getA_uv (rest : List UInt8) : ∀ (n i v : Nat), i ≤ 9 → n * 128 ^ i < 18446744073709551616 → (0 < i → 0 < n) → getA i v (uv n ++ rest) = ⟨v + n * 128 ^ i, i + (uv n).length, 0⟩ := by
  intro n
  induction n using Nat.strongRecOn with
  | ind n ih =>
    intro i v hi hn h0
    by_cases h : n < 128
    · rw [uv_small h]
      show getA i v (UInt8.ofNat n :: rest) = _
      unfold getA
      rw [ofNat_toNat (by omega), if_neg, if_pos h, Nat.mod_eq_of_lt h]
      · rfl
      · rintro (⟨rfl, h1⟩ | ⟨rfl, h1⟩)
        · have : 2 * 128 ^ 9 ≤ n * 128 ^ 9 := Nat.mul_le_mul_right _ h1
          have h2 : 2 * 128 ^ 9 = 18446744073709551616 := by decide
          omega
        · exact absurd (h0 h1) (by omega)
    · rw [uv_big h, List.length_cons]
      show getA i v (UInt8.ofNat (n % 128 + 128) :: (uv (n / 128) ++ rest)) = _
      have hi8 : i ≤ 8 := by
        rcases Nat.lt_or_ge i 9 with h9 | h9
        · omega
        · obtain rfl : i = 9 := by omega
          have : 128 * 128 ^ 9 ≤ n * 128 ^ 9 := Nat.mul_le_mul_right _ (by omega)
          have h2 : 18446744073709551616 ≤ 128 * 128 ^ 9 := by decide
          omega
      have hd : n / 128 * 128 ^ (i + 1) ≤ n * 128 ^ i := by
        rw [Nat.pow_succ, Nat.mul_comm (128 ^ i), ← Nat.mul_assoc]
        exact Nat.mul_le_mul_right _ (Nat.div_mul_le_self n 128)
      unfold getA
      rw [ofNat_toNat (by omega), if_neg (by omega), if_neg (by omega), ih (n / 128) (by omega) (i + 1) _ (by omega) (by omega) (by omega)]
      congr 1
      · rw [Nat.add_assoc, show (n % 128 + 128) % 128 = n % 128 by omega, Nat.pow_succ, Nat.mul_comm (128 ^ i) 128, ← Nat.mul_assoc, ← Nat.add_mul]
        congr 2
        omega
      · omega
theorem getN_uv {n : Nat} (h : n < 18446744073709551616) (rest : List UInt8) : getN (uv n ++ rest) = ⟨n, (uv n).length, 0⟩ := by
  unfold getN
  rw [getA_uv rest n 0 0 (by omega) (by simpa using h) (by omega)]
  simp
/-- what is read lies within -/
theorem getA_le : ∀ (l : List UInt8) (i v : Nat), i ≤ 9 → v < 128 ^ i → (getA i v l).v < 18446744073709551616 ∧ (getA i v l).n ≤ i + l.length ∧ ((getA i v l).e = 0 ∧ i < (getA i v l).n ∨ (getA i v l).n = 0 ∧ (getA i v l).v = 0 ∧ ((getA i v l).e = 7 ∨ (getA i v l).e = 9))
  | [], i, v, _, _ => ⟨by show (0 : Nat) < _; decide, Nat.zero_le _, .inr ⟨rfl, rfl, .inl rfl⟩⟩
  | c :: l, i, v, hi, hv => by
    unfold getA
    have hc : c.toNat < 256 := c.toNat_lt
    have hm : v + c.toNat % 128 * 128 ^ i < 128 ^ (i + 1) := by
      have : c.toNat % 128 * 128 ^ i ≤ 127 * 128 ^ i := Nat.mul_le_mul_right _ (by omega)
      rw [Nat.pow_succ]
      omega
    split
    · exact ⟨by show (0 : Nat) < _; decide, Nat.zero_le _, .inr ⟨rfl, rfl, .inr rfl⟩⟩
    · rename_i h1
      split
      · refine ⟨?_, by show i + 1 ≤ i + (l.length + 1); omega, .inl ⟨rfl, Nat.lt_succ_self _⟩⟩
        show v + c.toNat % 128 * 128 ^ i < 18446744073709551616
        by_cases h9 : i = 9
        · subst h9
          have h2 : c.toNat ≤ 1 := by
            rcases Nat.lt_or_ge 1 c.toNat with h3 | h3
            · exact absurd (.inl ⟨rfl, h3⟩) h1
            · exact h3
          have h3 : c.toNat % 128 * 128 ^ 9 ≤ 1 * 128 ^ 9 := Nat.mul_le_mul_right _ (by omega)
          have h4 : 128 ^ 9 + 1 * 128 ^ 9 = 18446744073709551616 := by decide
          omega
        · have h2 : 128 ^ (i + 1) ≤ 128 ^ 9 := Nat.pow_le_pow_right (by decide) (by omega)
          have h3 : (128 : Nat) ^ 9 ≤ 18446744073709551616 := by decide
          omega
      · rename_i h2
        have h9 : i ≠ 9 := fun e => h1 (.inl ⟨e, by omega⟩)
        have := getA_le l (i + 1) _ (by omega) hm
        obtain ⟨a1, a2, a3⟩ := this
        refine ⟨a1, by rw [List.length_cons]; omega, ?_⟩
        rcases a3 with ⟨b1, b2⟩ | b
        · exact .inl ⟨b1, by omega⟩
        · exact .inr b
theorem getN_le (l : List UInt8) : (getN l).v < 18446744073709551616 ∧ (getN l).n ≤ l.length ∧ ((getN l).e = 0 ∧ 0 < (getN l).n ∨ (getN l).n = 0 ∧ (getN l).v = 0 ∧ ((getN l).e = 7 ∨ (getN l).e = 9)) := by
  have := getA_le l 0 0 (by omega) (by decide)
  rw [Nat.zero_add] at this
  exact this
/-- a text as bytes -/
def utx (s : ByteArray) : List UInt8 := uv s.size ++ s.data.toList
/-- what a reading of a text gives -/
structure GotT where
  s : ByteArray
  n : Nat
  e : Int
def getT (l : List UInt8) : GotT := if (getN l).e ≠ 0 then ⟨⟨#[]⟩, 0, (getN l).e⟩ else if l.length - (getN l).n < (getN l).v then ⟨⟨#[]⟩, 0, 7⟩ else ⟨⟨((l.drop (getN l).n).take (getN l).v).toArray⟩, (getN l).n + (getN l).v, 0⟩
theorem utx_len (s : ByteArray) : (utx s).length = (uv s.size).length + s.size := by unfold utx; rw [List.length_append, Lib.size_eq]
theorem getT_utx {s : ByteArray} (h : s.size < 18446744073709551616) (rest : List UInt8) : getT (utx s ++ rest) = ⟨s, (utx s).length, 0⟩ := by
  have e : getN (utx s ++ rest) = ⟨s.size, (uv s.size).length, 0⟩ := by
    unfold utx
    rw [List.append_assoc, getN_uv h]
  unfold getT
  rw [e, if_neg (by simp), if_neg (by rw [List.length_append, utx_len]; simp only; omega)]
  simp only [utx_len]
  congr 1
  apply bytes_ext
  unfold utx
  rw [List.append_assoc]
  simp only [List.drop_left]
  rw [Lib.size_eq, List.take_left]
theorem getT_le (l : List UInt8) : (getT l).s.size ≤ l.length ∧ (getT l).n ≤ l.length ∧ ((getT l).e = 0 ∧ 0 < (getT l).n ∨ (getT l).n = 0 ∧ (getT l).s = ⟨#[]⟩ ∧ ((getT l).e = 7 ∨ (getT l).e = 9)) := by
  obtain ⟨h1, h2, h3⟩ := getN_le l
  unfold getT
  split
  · rename_i h0
    refine ⟨Nat.zero_le _, Nat.zero_le _, .inr ⟨rfl, rfl, ?_⟩⟩
    rcases h3 with ⟨h, _⟩ | ⟨_, _, h⟩
    · exact absurd h h0
    · exact h
  · rename_i h0
    split
    · exact ⟨Nat.zero_le _, Nat.zero_le _, .inr ⟨rfl, rfl, .inl rfl⟩⟩
    · rename_i h4
      refine ⟨?_, by show (getN l).n + (getN l).v ≤ _; omega, .inl ⟨rfl, ?_⟩⟩
      · rw [Lib.size_eq]
        simp only [List.length_take, List.length_drop]
        omega
      · show 0 < (getN l).n + (getN l).v
        rcases h3 with ⟨_, h⟩ | ⟨_, _, h⟩
        · omega
        · exfalso; apply h0; intro e; omega
end Go.Proofs.YtabcdodjkfknlaaGreatDoor
namespace Go.Proofs.YtabcdodjkfknlaaGreatDoor
open Go.RowKit
/-- a table of a level -/
structure Tbl where
  (num level size : Int)
  (first last : ByteArray)
/-- how the set of files changes -/
structure Edt where
  add : List Tbl
  drop : List Int
  (floor head : Nat)
  (log next : Int)
/-- a set of files -/
structure Ver where
  tables : List Tbl
  (floor head : Nat)
  (log next : Int)
def Edt.zero : Edt := ⟨[], [], 0, 0, 0, 0⟩
def Ver.zero : Ver := ⟨[], 0, 0, 0, 0⟩
/-- a number that is not written -/
def oddI (n : Int) : Bool := decide (n < 0) || decide (4611686018427387904 ≤ n)
theorem oddI_no {n : Int} : oddI n = false ↔ 0 ≤ n ∧ n < 4611686018427387904 := by
  unfold oddI; simp
def Tbl.right (t : Tbl) : Bool := !oddI t.num && !oddI t.level && !oddI t.size
def Edt.right (e : Edt) : Bool := !oddI e.log && !oddI e.next && e.drop.all (fun n => !oddI n) && e.add.all Tbl.right
def uvI (n : Int) : List UInt8 := uv n.toNat
def Tbl.bytes (t : Tbl) : List UInt8 := uvI t.num ++ uvI t.level ++ uvI t.size ++ utx t.first ++ utx t.last
def Edt.bytes (e : Edt) : List UInt8 := uv e.add.length ++ e.add.flatMap Tbl.bytes ++ uv e.drop.length ++ e.drop.flatMap uvI ++ uv e.floor ++ uv e.head ++ uvI e.log ++ uvI e.next
/-- bytes that are left, and what was wrong first -/
structure Rdr where
  l : List UInt8
  e : Int
def Rdr.took (r : Rdr) (n : Nat) (e : Int) : Rdr := if r.e ≠ 0 then r else if e ≠ 0 then ⟨r.l, e⟩ else ⟨r.l.drop n, 0⟩
def Rdr.numR (r : Rdr) : Rdr := r.took (getN r.l).n (getN r.l).e
def Rdr.num (r : Rdr) : Nat := if r.numR.e ≠ 0 then 0 else (getN r.l).v
def Rdr.smallR (r : Rdr) : Rdr := if 4611686018427387904 ≤ r.num then r.numR.took 0 9 else r.numR
def Rdr.small (r : Rdr) : Int := if 4611686018427387904 ≤ r.num then 0 else r.num
def Rdr.textR (r : Rdr) : Rdr := r.took (getT r.l).n (getT r.l).e
def Rdr.text (r : Rdr) : ByteArray := if r.textR.e ≠ 0 then ⟨#[]⟩ else (getT r.l).s
def Rdr.tblR (r : Rdr) : Rdr := r.smallR.smallR.smallR.textR.textR
def Rdr.tbl (r : Rdr) : Tbl := ⟨r.small, r.smallR.small, r.smallR.smallR.small, r.smallR.smallR.smallR.text, r.smallR.smallR.smallR.textR.text⟩
/-- something is read as often as a number says, till something goes wrong -/
def Rdr.manyR (f : Rdr → Rdr) : Nat → Rdr → Rdr
  | 0, r => r
  | n + 1, r => if r.e ≠ 0 then r else Rdr.manyR f n (f r)
def Rdr.many {α : Type} (f : Rdr → Rdr) (g : Rdr → α) : Nat → Rdr → List α
  | 0, _ => []
  | n + 1, r => if r.e ≠ 0 then [] else g r :: Rdr.many f g n (f r)
def Rdr.timesR (f : Rdr → Rdr) (r : Rdr) : Rdr := Rdr.manyR f r.num r.numR
def Rdr.times {α : Type} (f : Rdr → Rdr) (g : Rdr → α) (r : Rdr) : List α := Rdr.many f g r.num r.numR
/-- what is read of an edit, and what is left then -/
def Rdr.edt (r : Rdr) : Edt × Rdr :=
  let r1 := r.timesR Rdr.tblR
  let r2 := r1.timesR Rdr.smallR
  let r6 := r2.numR.numR.smallR.smallR
  (⟨r.times Rdr.tblR Rdr.tbl, r1.times Rdr.smallR Rdr.small, r2.num, r2.numR.num, r2.numR.numR.small, r2.numR.numR.smallR.small⟩, if r6.l ≠ [] then r6.took 0 9 else r6)
/-- what bytes tell -/
def decodeE (l : List UInt8) : Edt × Int := let x := (Rdr.mk l 0).edt; if x.2.e ≠ 0 then (Edt.zero, x.2.e) else (x.1, 0)
section
variable {rest : List UInt8}
theorem took_ok {l : List UInt8} {n : Nat} : (Rdr.mk l 0).took n 0 = ⟨l.drop n, 0⟩ := by
  unfold Rdr.took
  simp
theorem num_uv {n : Nat} (h : n < 18446744073709551616) : (Rdr.mk (uv n ++ rest) 0).num = n ∧ (Rdr.mk (uv n ++ rest) 0).numR = ⟨rest, 0⟩ := by
  have e := getN_uv h rest
  have h1 : (Rdr.mk (uv n ++ rest) 0).numR = ⟨rest, 0⟩ := by
    show (Rdr.mk (uv n ++ rest) 0).took (getN (uv n ++ rest)).n (getN (uv n ++ rest)).e = _
    rw [e, took_ok]
    simp
  refine ⟨?_, h1⟩
  unfold Rdr.num
  rw [h1, if_neg (by simp)]
  show (getN (uv n ++ rest)).v = n
  rw [e]
theorem small_uv {n : Int} (h : oddI n = false) : (Rdr.mk (uvI n ++ rest) 0).small = n ∧ (Rdr.mk (uvI n ++ rest) 0).smallR = ⟨rest, 0⟩ := by
  rw [oddI_no] at h
  obtain ⟨h1, h2⟩ := num_uv (n := n.toNat) (rest := rest) (by omega)
  unfold Rdr.small Rdr.smallR uvI
  rw [h1, h2, if_neg (by omega), if_neg (by omega)]
  exact ⟨by omega, rfl⟩
theorem text_utx {s : ByteArray} (h : s.size < 18446744073709551616) : (Rdr.mk (utx s ++ rest) 0).text = s ∧ (Rdr.mk (utx s ++ rest) 0).textR = ⟨rest, 0⟩ := by
  have e := getT_utx h rest
  have h1 : (Rdr.mk (utx s ++ rest) 0).textR = ⟨rest, 0⟩ := by
    show (Rdr.mk (utx s ++ rest) 0).took (getT (utx s ++ rest)).n (getT (utx s ++ rest)).e = _
    rw [e, took_ok]
    simp
  refine ⟨?_, h1⟩
  unfold Rdr.text
  rw [h1, if_neg (by simp)]
  show (getT (utx s ++ rest)).s = s
  rw [e]
/-- a table that can be written and read -/
def Tbl.fits (t : Tbl) : Prop := t.right = true ∧ t.first.size < 18446744073709551616 ∧ t.last.size < 18446744073709551616
theorem tbl_bytes {t : Tbl} (h : t.fits) : (Rdr.mk (t.bytes ++ rest) 0).tbl = t ∧ (Rdr.mk (t.bytes ++ rest) 0).tblR = ⟨rest, 0⟩ := by
  obtain ⟨h1, h2, h3⟩ := h
  unfold Tbl.right at h1
  simp only [Bool.and_eq_true, Bool.not_eq_true'] at h1
  obtain ⟨⟨a1, a2⟩, a3⟩ := h1
  obtain ⟨x1, y1⟩ := small_uv (rest := uvI t.level ++ (uvI t.size ++ (utx t.first ++ (utx t.last ++ rest)))) a1
  obtain ⟨x2, y2⟩ := small_uv (rest := uvI t.size ++ (utx t.first ++ (utx t.last ++ rest))) a2
  obtain ⟨x3, y3⟩ := small_uv (rest := utx t.first ++ (utx t.last ++ rest)) a3
  obtain ⟨x4, y4⟩ := text_utx (rest := utx t.last ++ rest) h2
  obtain ⟨x5, y5⟩ := text_utx (rest := rest) h3
  unfold Rdr.tbl Rdr.tblR Tbl.bytes
  simp only [List.append_assoc]
  rw [x1, y1, x2, y2, x3, y3, x4, y4, x5, y5]
  exact ⟨rfl, rfl⟩
theorem many_bytes {α : Type} {f : Rdr → Rdr} {g : Rdr → α} {b : α → List UInt8} : ∀ (l : List α) (rest : List UInt8), (∀ x ∈ l, ∀ rest, g (Rdr.mk (b x ++ rest) 0) = x ∧ f (Rdr.mk (b x ++ rest) 0) = ⟨rest, 0⟩) →
    Rdr.many f g l.length (Rdr.mk (l.flatMap b ++ rest) 0) = l ∧ Rdr.manyR f l.length (Rdr.mk (l.flatMap b ++ rest) 0) = ⟨rest, 0⟩
  | [], rest, _ => ⟨rfl, rfl⟩
  | x :: l, rest, h => by
    obtain ⟨h1, h2⟩ := h x (by simp) (l.flatMap b ++ rest)
    obtain ⟨h3, h4⟩ := many_bytes l rest fun y hy => h y (by simp [hy])
    show Rdr.many f g (l.length + 1) _ = _ ∧ Rdr.manyR f (l.length + 1) _ = _
    unfold Rdr.many Rdr.manyR
    rw [if_neg (by simp), if_neg (by simp), List.flatMap_cons, List.append_assoc, h1, h2, h3, h4]
    exact ⟨rfl, rfl⟩
theorem times_bytes {α : Type} {f : Rdr → Rdr} {g : Rdr → α} {b : α → List UInt8} (l : List α) (hl : l.length < 18446744073709551616) (h : ∀ x ∈ l, ∀ rest, g (Rdr.mk (b x ++ rest) 0) = x ∧ f (Rdr.mk (b x ++ rest) 0) = ⟨rest, 0⟩) :
    (Rdr.mk (uv l.length ++ (l.flatMap b ++ rest)) 0).times f g = l ∧ (Rdr.mk (uv l.length ++ (l.flatMap b ++ rest)) 0).timesR f = ⟨rest, 0⟩ := by
  obtain ⟨h1, h2⟩ := num_uv (n := l.length) (rest := l.flatMap b ++ rest) hl
  unfold Rdr.times Rdr.timesR
  rw [h1, h2]
  exact many_bytes l rest h
end
/-- an edit that can be written and read -/
structure Edt.fits (e : Edt) : Prop where
  right : e.right = true
  floor : e.floor < 18446744073709551616
  head : e.head < 18446744073709551616
  add : e.add.length < 18446744073709551616
  drop : e.drop.length < 18446744073709551616
  text : ∀ t ∈ e.add, t.first.size < 18446744073709551616 ∧ t.last.size < 18446744073709551616
theorem decode_bytes {e : Edt} (h : e.fits) : decodeE e.bytes = (e, 0) := by
  obtain ⟨hr, hf, hh, ha, hd, ht⟩ := h
  unfold Edt.right at hr
  simp only [Bool.and_eq_true, Bool.not_eq_true', List.all_eq_true] at hr
  obtain ⟨⟨⟨r1, r2⟩, r3⟩, r4⟩ := hr
  obtain ⟨x1, y1⟩ := times_bytes (f := Rdr.tblR) (g := Rdr.tbl) (b := Tbl.bytes) (rest := uv e.drop.length ++ (e.drop.flatMap uvI ++ (uv e.floor ++ (uv e.head ++ (uvI e.log ++ (uvI e.next ++ [])))))) e.add ha fun t h rest => tbl_bytes ⟨r4 t h, ht t h⟩
  obtain ⟨x2, y2⟩ := times_bytes (f := Rdr.smallR) (g := Rdr.small) (b := uvI) (rest := uv e.floor ++ (uv e.head ++ (uvI e.log ++ (uvI e.next ++ [])))) e.drop hd fun n h rest => small_uv (by simpa using r3 n h)
  obtain ⟨x3, y3⟩ := num_uv (rest := uv e.head ++ (uvI e.log ++ (uvI e.next ++ []))) hf
  obtain ⟨x4, y4⟩ := num_uv (rest := uvI e.log ++ (uvI e.next ++ [])) hh
  obtain ⟨x5, y5⟩ := small_uv (rest := uvI e.next ++ []) r1
  obtain ⟨x6, y6⟩ := small_uv (rest := []) r2
  have hb : e.bytes = uv e.add.length ++ (e.add.flatMap Tbl.bytes ++ (uv e.drop.length ++ (e.drop.flatMap uvI ++ (uv e.floor ++ (uv e.head ++ (uvI e.log ++ (uvI e.next ++ []))))))) := by
    unfold Edt.bytes
    simp only [List.append_assoc, List.append_nil]
  have hx : (Rdr.mk e.bytes 0).edt = (e, ⟨[], 0⟩) := by
    unfold Rdr.edt
    rw [hb]
    simp only [x1, y1, x2, y2, x3, y3, x4, y4, x5, y5, x6, y6]
    rfl
  unfold decodeE
  rw [hx]
  rfl
/-- a version as an edit of nothing -/
def Ver.whole (v : Ver) : Edt := ⟨v.tables, [], v.floor, v.head, v.log, v.next⟩
end Go.Proofs.YtabcdodjkfknlaaGreatDoor
