/- Keys of the index, plainly. No program in sight. -/
import Derived.Test.YtnbalmnpcdnidaaDoorRParse
namespace Go.Proofs.YtnbalmnpcdnidaaDoor
open Go.RowKit
def Tup.turned (t : Tup) : Tup := ⟨t.d, t.e, t.f, t.a, t.b, t.c⟩
theorem turned_turned (t : Tup) : t.turned.turned = t := rfl
def fKey (t : Tup) : ByteArray := ⟨#[102]⟩ ++ t.key
def rKey (t : Tup) : ByteArray := ⟨#[114]⟩ ++ t.turned.key
/-- what is left behind the first byte -/
def rest1 (s : ByteArray) : ByteArray := ⟨(s.data.toList.drop 1).toArray⟩
/-- is c its first byte? -/
def begins1 (c : UInt8) (s : ByteArray) : Bool := s.data.toList.head? == some c
/-- the tuple of a key that is turned -/
def bT (k : ByteArray) : Tup := (six (splitB1 0 k)).turned
def bOk (k : ByteArray) : Bool := decide ((splitB1 0 k).length = 7) && ((splitB1 0 k).getD 6 nilB).toList.isEmpty && (bT k).ok
def iTup (s : ByteArray) : Tup := if begins1 102 s then uTup (rest1 s) else if begins1 114 s && bOk (rest1 s) then bT (rest1 s) else Tup.zero
def iFwd (s : ByteArray) : Bool := begins1 102 s && uOk (rest1 s)
def iErr (s : ByteArray) : Int := if begins1 102 s then uErr (rest1 s) else if begins1 114 s && bOk (rest1 s) then 0 else 9
def iV (s : ByteArray) : Value := .tuple #[(iTup s).v, .bool (iFwd s), .int .i64 (iErr s)]
theorem split1_noZero : ∀ (s : List UInt8), ∀ p ∈ split1 0 s, NoZero p
  | [], p, h => by simp [split1] at h; subst h; simp [NoZero]
  | b :: s, p, h => by
    have ih := split1_noZero s
    by_cases hb : (b == 0) = true
    · rw [split1, if_pos hb] at h
      rcases List.mem_cons.1 h with rfl | h
      · simp [NoZero]
      · exact ih p h
    · rw [split1, if_neg hb] at h
      cases hs : split1 0 s with
      | nil => exact absurd hs (split1_ne 0 s)
      | cons q ps =>
        rw [hs] at h ih
        rcases List.mem_cons.1 h with rfl | h
        · intro h0
          rcases List.mem_cons.1 h0 with h0 | h0
          · exact hb (by rw [← h0]; rfl)
          · exact ih q List.mem_cons_self h0
        · exact ih p (List.mem_cons_of_mem _ h)
theorem uT_key' {t : Tup} (nz : ∀ p ∈ t.ls, NoZero p) : uT t.key = t := by
  have step : ∀ (p : List UInt8) (l : List (List UInt8)) (x : ByteArray), NoZero p → x.data.toList = keyL (p :: l) → (cA 0 x).data.toList = p ∧ (cB 0 x).data.toList = keyL l := by
    intro p l x hp hx
    rw [cA_data, cB_data, hx, keyL, cut1_app 0 p _ hp]
    exact ⟨rfl, rfl⟩
  have n0 := nz _ (show t.a.data.toList ∈ t.ls by simp [Tup.ls, Tup.l])
  have n1 := nz _ (show t.b.data.toList ∈ t.ls by simp [Tup.ls, Tup.l])
  have n2 := nz _ (show t.c.data.toList ∈ t.ls by simp [Tup.ls, Tup.l])
  have n3 := nz _ (show t.d.data.toList ∈ t.ls by simp [Tup.ls, Tup.l])
  have n4 := nz _ (show t.e.data.toList ∈ t.ls by simp [Tup.ls, Tup.l])
  have n5 := nz _ (show t.f.data.toList ∈ t.ls by simp [Tup.ls, Tup.l])
  obtain ⟨a0, b0⟩ := step _ [t.b.data.toList, t.c.data.toList, t.d.data.toList, t.e.data.toList, t.f.data.toList] (uS t.key 0) n0 rfl
  obtain ⟨a1, b1⟩ := step _ [t.c.data.toList, t.d.data.toList, t.e.data.toList, t.f.data.toList] (uS t.key 1) n1 b0
  obtain ⟨a2, b2⟩ := step _ [t.d.data.toList, t.e.data.toList, t.f.data.toList] (uS t.key 2) n2 b1
  obtain ⟨a3, b3⟩ := step _ [t.e.data.toList, t.f.data.toList] (uS t.key 3) n3 b2
  obtain ⟨a4, b4⟩ := step _ [t.f.data.toList] (uS t.key 4) n4 b3
  obtain ⟨a5, _⟩ := step _ [] (uS t.key 5) n5 b4
  unfold uT
  rw [show uP t.key 0 = t.a from bytes_ext a0, show uP t.key 1 = t.b from bytes_ext a1, show uP t.key 2 = t.c from bytes_ext a2, show uP t.key 3 = t.d from bytes_ext a3, show uP t.key 4 = t.e from bytes_ext a4, show uP t.key 5 = t.f from bytes_ext a5]
theorem six_noZero {k : ByteArray} (h : (splitB1 0 k).length = 7) : ∀ p ∈ (six (splitB1 0 k)).ls, NoZero p := by
  have hz := split1_noZero k.data.toList
  unfold splitB1 at h ⊢
  generalize split1 0 k.data.toList = l at *
  match l, h with
  | [a, b, c, d, e, f, g], _ =>
    intro p hp
    simp [six, Tup.ls, Tup.l] at hp
    apply hz
    simp
    rcases hp with rfl | rfl | rfl | rfl | rfl | rfl <;> simp
theorem turned_ls {t : Tup} {P : List UInt8 → Prop} (h : ∀ p ∈ t.ls, P p) : ∀ p ∈ t.turned.ls, P p := by
  intro p hp
  apply h
  simp [Tup.turned, Tup.ls, Tup.l] at hp ⊢
  rcases hp with rfl | rfl | rfl | rfl | rfl | rfl <;> simp
/-- the key of the turned parts is told as they are -/
theorem uV_turned {k : ByteArray} (h : (splitB1 0 k).length = 7) : uTup (bT k).key = (if (bT k).ok then bT k else Tup.zero) ∧ uErr (bT k).key = (if (bT k).ok then 0 else 9) := by
  have hz := turned_ls (six_noZero h)
  have e := uT_key' (t := bT k) hz
  have e2 : uOk (bT k).key = (bT k).ok := by
    unfold uOk
    rw [e]
    simp
  unfold uTup uErr
  rw [e2, e]
  exact ⟨rfl, rfl⟩
theorem turned_sum (t : Tup) : (t.turned.ls.map List.length).sum = (t.ls.map List.length).sum := by
  simp [Tup.turned, Tup.ls, Tup.l]; omega
theorem key_size (t : Tup) : t.key.size = (t.ls.map List.length).sum + 6 := by
  rw [Lib.size_eq]
  show (keyL t.ls).length = _
  rw [keyL_length]; rfl
theorem six_sum {k : ByteArray} (h : (splitB1 0 k).length = 7) : ((six (splitB1 0 k)).ls.map List.length).sum + 6 ≤ k.size := by
  obtain ⟨l, z, h1, h2⟩ := split1_join k.data.toList
  have hl : l.length = 6 := by
    unfold splitB1 at h
    rw [h1] at h
    simpa using h
  rw [Lib.size_eq, h2, List.length_append, keyL_length]
  unfold splitB1
  rw [h1]
  match l, hl with
  | [a, b, c, d, e, f], _ =>
    simp [six, Tup.ls, Tup.l]
theorem bT_size {k : ByteArray} (h : (splitB1 0 k).length = 7) : (bT k).key.size ≤ k.size := by
  rw [key_size]
  unfold bT
  rw [turned_sum]
  exact six_sum h
theorem turned_ok {t : Tup} (h : t.ok = true) : (∀ p ∈ t.turned.ls, NoZero p) := turned_ls (Tup.ok_noZero h)
theorem splitB1_key {t : Tup} (h : ∀ p ∈ t.ls, NoZero p) : splitB1 0 t.key = [t.a, t.b, t.c, t.d, t.e, t.f, nilB] := by
  unfold splitB1
  rw [show t.key.data.toList = keyL t.ls from rfl, split1_key t.ls h]
  simp [Tup.ls, Tup.l, nilB]
theorem rest_f (t : Tup) : rest1 (fKey t) = t.key := by
  apply bytes_ext
  show ((⟨#[102]⟩ ++ t.key : ByteArray).data.toList.drop 1) = _
  simp
theorem rest_r (t : Tup) : rest1 (rKey t) = t.turned.key := by
  apply bytes_ext
  show ((⟨#[114]⟩ ++ t.turned.key : ByteArray).data.toList.drop 1) = _
  simp
theorem beg_ff (t : Tup) : begins1 102 (fKey t) = true := by
  unfold begins1 fKey; simp
theorem beg_fr (t : Tup) : begins1 102 (rKey t) = false := by
  unfold begins1 rKey; simp
theorem beg_rr (t : Tup) : begins1 114 (rKey t) = true := by
  unfold begins1 rKey; simp
theorem iV_f {t : Tup} (h : t.ok = true) : iV (fKey t) = .tuple #[t.v, .bool true, .int .i64 0] := by
  have h1 := uT_key h
  have h2 : uOk t.key = true := by
    simp only [uOk, Bool.and_eq_true]
    rw [h1]
    exact ⟨h, by simp⟩
  unfold iV iTup iFwd iErr
  rw [rest_f, beg_ff, if_pos rfl, if_pos rfl, h2]
  unfold uTup uErr
  rw [h2, if_pos rfl, if_pos rfl, h1]
  rfl
theorem iV_r {t : Tup} (h : t.ok = true) : iV (rKey t) = .tuple #[t.v, .bool false, .int .i64 0] := by
  have hs := splitB1_key (turned_ls (Tup.ok_noZero h))
  have hb : bT t.turned.key = t := by unfold bT; rw [hs]; rfl
  have ho : bOk t.turned.key = true := by
    unfold bOk; rw [hb, h, hs]; simp [nilB]
  unfold iV iTup iFwd iErr
  rw [rest_r, beg_fr, beg_rr, ho, hb]
  rfl
theorem trim1 (c : UInt8) (s : ByteArray) (h : begins1 c s = true) : (⟨(Lib.trimPrefix s.data.toList [c]).toArray⟩ : ByteArray) = rest1 s ∧ Lib.hasPrefix s.data.toList [c] = true := by
  unfold begins1 at h
  rw [beq_iff_eq] at h
  unfold rest1
  cases hl : s.data.toList with
  | nil => rw [hl] at h; simp at h
  | cons b l =>
    rw [hl] at h
    simp at h; subst h
    simp [Lib.trimPrefix, Lib.hasPrefix]
theorem trim0 (c : UInt8) (s : ByteArray) (h : begins1 c s = false) : (⟨(Lib.trimPrefix s.data.toList [c]).toArray⟩ : ByteArray) = s ∧ Lib.hasPrefix s.data.toList [c] = false := by
  unfold begins1 at h
  rw [beq_eq_false_iff_ne] at h
  have hp : Lib.hasPrefix s.data.toList [c] = false := by
    cases hl : s.data.toList with
    | nil => simp [Lib.hasPrefix]
    | cons b l =>
      rw [hl] at h
      simp at h
      have hcb : (c == b) = false := by rw [beq_eq_false_iff_ne]; intro e; exact h (Eq.symm e)
      simp [Lib.hasPrefix, List.isPrefixOf, hcb]
  refine ⟨?_, hp⟩
  unfold Lib.trimPrefix
  rw [hp]
  exact Lib.mk_data s
end Go.Proofs.YtnbalmnpcdnidaaDoor
