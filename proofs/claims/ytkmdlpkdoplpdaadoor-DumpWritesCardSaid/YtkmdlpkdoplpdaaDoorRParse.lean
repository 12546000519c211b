/- What a text tells by the document's way, plainly; it is what the program takes. -/
import Derived.Test.YtkmdlpkdoplpdaaDoorSplit
namespace Go.Proofs.YtkmdlpkdoplpdaaDoor
open Go.RowKit
/-- the bytes that part a tuple's text, in their order -/
def sepAt : Nat → UInt8
  | 0 => 58 | 1 => 35 | 2 => 64 | _ => 58
/-- what is left behind k cuts -/
def rS (s : ByteArray) : Nat → ByteArray
  | 0 => s
  | k + 1 => cB (sepAt k) (rS s k)
def rP (s : ByteArray) (k : Nat) : ByteArray := cA (sepAt k) (rS s k)
def rO (s : ByteArray) : Nat → Bool
  | 0 => true
  | k + 1 => rO s k && cH (sepAt k) (rS s k)
def rT (s : ByteArray) : Tup := ⟨rP s 0, rP s 1, rP s 2, rP s 3, cA 35 (rS s 4), cB 35 (rS s 4)⟩
def rOk (s : ByteArray) : Bool := rO s 4 && (rT s).ok && ((rT s).print.toList == s.toList)
def rV (s : ByteArray) : Value := if rOk s then .tuple #[(rT s).v, .int .i64 0] else .tuple #[Tup.zero.v, .int .i64 9]
theorem rS_le (s : ByteArray) : ∀ k, (rS s k).size ≤ s.size
  | 0 => Nat.le_refl _
  | k + 1 => Nat.le_trans (cB_le _ _) (rS_le s k)
theorem rT_fits (s : ByteArray) (hs : s.size ≤ maxLen) : (rT s).fits := by
  intro p hp
  have h := fun k => rS_le s k
  simp [Tup.l, rT] at hp
  rcases hp with rfl | rfl | rfl | rfl | rfl | rfl
  · exact Nat.le_trans (Nat.le_trans (cA_le _ _) (h 0)) hs
  · exact Nat.le_trans (Nat.le_trans (cA_le _ _) (h 1)) hs
  · exact Nat.le_trans (Nat.le_trans (cA_le _ _) (h 2)) hs
  · exact Nat.le_trans (Nat.le_trans (cA_le _ _) (h 3)) hs
  · exact Nat.le_trans (Nat.le_trans (cA_le _ _) (h 4)) hs
  · exact Nat.le_trans (Nat.le_trans (cB_le _ _) (h 4)) hs
theorem bytes_beq (a b : ByteArray) : (a.toList == b.toList) = true ↔ a = b := by
  rw [beq_iff_eq, Lib.toList_data, Lib.toList_data]
  exact ⟨bytes_ext, fun h => by rw [h]⟩
/-- a text that is printed is read, the document's way -/
theorem r_print {t : Tup} (h : t.ok = true) : rT t.print = t ∧ rO t.print 4 = true := by
  obtain ⟨ha, hb, hc, hd, he, hf⟩ := Tup.ok_names h
  have pa := name_plain ha
  have pb := name_plain hb
  have pc := name_plain hc
  have pd := name_plain hd
  have pe := name_plain he
  have e0 : cut1 58 (rS t.print 0).data.toList = (t.a.data.toList, t.b.data.toList ++ 35 :: (t.c.data.toList ++ 64 :: (t.d.data.toList ++ 58 :: (t.e.data.toList ++ if t.f.data.toList = [] then [] else 35 :: t.f.data.toList))), true) := by
    show cut1 58 t.print.data.toList = _
    rw [print_data, printL, cut1_app 58 _ _ pa.1]
  have l1 : (rS t.print 1).data.toList = (cut1 58 (rS t.print 0).data.toList).2.1 := rfl
  rw [e0] at l1
  have e1 : cut1 35 (rS t.print 1).data.toList = (t.b.data.toList, t.c.data.toList ++ 64 :: (t.d.data.toList ++ 58 :: (t.e.data.toList ++ if t.f.data.toList = [] then [] else 35 :: t.f.data.toList)), true) := by
    rw [l1, cut1_app 35 _ _ pb.2.1]
  have l2 : (rS t.print 2).data.toList = (cut1 35 (rS t.print 1).data.toList).2.1 := rfl
  rw [e1] at l2
  have e2 : cut1 64 (rS t.print 2).data.toList = (t.c.data.toList, t.d.data.toList ++ 58 :: (t.e.data.toList ++ if t.f.data.toList = [] then [] else 35 :: t.f.data.toList), true) := by
    rw [l2, cut1_app 64 _ _ pc.2.2]
  have l3 : (rS t.print 3).data.toList = (cut1 64 (rS t.print 2).data.toList).2.1 := rfl
  rw [e2] at l3
  have e3 : cut1 58 (rS t.print 3).data.toList = (t.d.data.toList, t.e.data.toList ++ (if t.f.data.toList = [] then [] else 35 :: t.f.data.toList), true) := by
    rw [l3, cut1_app 58 _ _ pd.1]
  have l4 : (rS t.print 4).data.toList = (cut1 58 (rS t.print 3).data.toList).2.1 := rfl
  rw [e3] at l4
  have e4 : cut1 35 (rS t.print 4).data.toList = (t.e.data.toList, t.f.data.toList, decide (t.f.data.toList ≠ [])) := by
    rw [l4]; exact tail_plain pe
  have r0 : rP t.print 0 = t.a := bytes_ext (show (cut1 58 (rS t.print 0).data.toList).1 = _ by rw [e0])
  have r1 : rP t.print 1 = t.b := bytes_ext (show (cut1 35 (rS t.print 1).data.toList).1 = _ by rw [e1])
  have r2 : rP t.print 2 = t.c := bytes_ext (show (cut1 64 (rS t.print 2).data.toList).1 = _ by rw [e2])
  have r3 : rP t.print 3 = t.d := bytes_ext (show (cut1 58 (rS t.print 3).data.toList).1 = _ by rw [e3])
  have r4 : cA 35 (rS t.print 4) = t.e := bytes_ext (show (cut1 35 (rS t.print 4).data.toList).1 = _ by rw [e4])
  have r5 : cB 35 (rS t.print 4) = t.f := bytes_ext (show (cut1 35 (rS t.print 4).data.toList).2.1 = _ by rw [e4])
  have h0 : cH 58 (rS t.print 0) = true := by rw [cH_data, e0]
  have h1 : cH 35 (rS t.print 1) = true := by rw [cH_data, e1]
  have h2 : cH 64 (rS t.print 2) = true := by rw [cH_data, e2]
  have h3 : cH 58 (rS t.print 3) = true := by rw [cH_data, e3]
  refine ⟨by unfold rT; rw [r0, r1, r2, r3, r4, r5], ?_⟩
  simp [rO, sepAt, h0, h1, h2, h3]
/-- both ways are one -/
theorem parse_eq (s : ByteArray) : parseV s = rV s := by
  unfold parseV rV
  cases hp : parseOk s
  · cases hr : rOk s
    · rfl
    · exfalso
      simp only [rOk, Bool.and_eq_true] at hr
      obtain ⟨⟨_, hok⟩, hs⟩ := hr
      rw [bytes_beq] at hs
      have := (parse_print hok).2
      rw [hs, hp] at this
      cases this
  · have hok : (parseT s).ok = true := by simp only [parseOk, Bool.and_eq_true] at hp; exact hp.1
    have hs := print_parse hp
    have h := r_print hok
    rw [hs] at h
    have hr : rOk s = true := by
      simp only [rOk, Bool.and_eq_true]
      refine ⟨⟨h.2, by rw [h.1]; exact hok⟩, ?_⟩
      rw [bytes_beq, h.1, hs]
    rw [hr, if_pos rfl, if_pos rfl, h.1]
/-! ### keys -/
def uS (s : ByteArray) : Nat → ByteArray
  | 0 => s
  | k + 1 => cB 0 (uS s k)
def uP (s : ByteArray) (k : Nat) : ByteArray := cA 0 (uS s k)
def uT (s : ByteArray) : Tup := ⟨uP s 0, uP s 1, uP s 2, uP s 3, uP s 4, uP s 5⟩
def uOk (s : ByteArray) : Bool := (uT s).ok && ((uT s).key.toList == s.toList)
def uV (s : ByteArray) : Value := if uOk s then .tuple #[(uT s).v, .int .i64 0] else .tuple #[Tup.zero.v, .int .i64 9]
theorem uS_le (s : ByteArray) : ∀ k, (uS s k).size ≤ s.size
  | 0 => Nat.le_refl _
  | k + 1 => Nat.le_trans (cB_le _ _) (uS_le s k)
theorem uT_fits (s : ByteArray) (hs : s.size ≤ maxLen) : (uT s).fits := by
  intro p hp
  have h : ∀ k, (uP s k).size ≤ maxLen := fun k => Nat.le_trans (Nat.le_trans (cA_le _ _) (uS_le s k)) hs
  simp [Tup.l, uT] at hp
  rcases hp with rfl | rfl | rfl | rfl | rfl | rfl <;> exact h _
theorem uT_key {t : Tup} (h : t.ok = true) : uT t.key = t := by
  have nz := Tup.ok_noZero h
  have step : ∀ (p : List UInt8) (l : List (List UInt8)) (x : ByteArray), NoZero p → x.data.toList = keyL (p :: l) → (cA 0 x).data.toList = p ∧ (cB 0 x).data.toList = keyL l := by
    intro p l x hp hx
    rw [cA_data, cB_data, hx, keyL, cut1_app 0 p _ hp]
    exact ⟨rfl, rfl⟩
  have n0 := nz _ (show t.a.data.toList ∈ t.ls by simp [Tup.ls, Tup.l])
  have n1 := nz _ (show t.b.data.toList ∈ t.ls by simp [Tup.ls, Tup.l])
  have n2 := nz _ (show t.c.data.toList ∈ t.ls by simp [Tup.ls, Tup.l])
  have n3 := nz _ (show t.d.data.toList ∈ t.ls by simp [Tup.ls, Tup.l])
  have n4 := nz _ (show t.e.data.toList ∈ t.ls by simp [Tup.ls, Tup.l])
  have n5 := nz _ (show t.f.data.toList ∈ t.ls by simp [Tup.ls, Tup.l])
  obtain ⟨a0, b0⟩ := step _ [t.b.data.toList, t.c.data.toList, t.d.data.toList, t.e.data.toList, t.f.data.toList] (uS t.key 0) n0 rfl
  obtain ⟨a1, b1⟩ := step _ [t.c.data.toList, t.d.data.toList, t.e.data.toList, t.f.data.toList] (uS t.key 1) n1 b0
  obtain ⟨a2, b2⟩ := step _ [t.d.data.toList, t.e.data.toList, t.f.data.toList] (uS t.key 2) n2 b1
  obtain ⟨a3, b3⟩ := step _ [t.e.data.toList, t.f.data.toList] (uS t.key 3) n3 b2
  obtain ⟨a4, b4⟩ := step _ [t.f.data.toList] (uS t.key 4) n4 b3
  obtain ⟨a5, _⟩ := step _ [] (uS t.key 5) n5 b4
  unfold uT
  rw [show uP t.key 0 = t.a from bytes_ext a0, show uP t.key 1 = t.b from bytes_ext a1, show uP t.key 2 = t.c from bytes_ext a2, show uP t.key 3 = t.d from bytes_ext a3, show uP t.key 4 = t.e from bytes_ext a4, show uP t.key 5 = t.f from bytes_ext a5]
/-- the program's way: seven pieces, the last one empty -/
def six (l : List ByteArray) : Tup := ⟨l.getD 0 nilB, l.getD 1 nilB, l.getD 2 nilB, l.getD 3 nilB, l.getD 4 nilB, l.getD 5 nilB⟩
def kOk (s : ByteArray) : Bool := decide ((splitB1 0 s).length = 7) && ((splitB1 0 s).getD 6 nilB).toList.isEmpty && (six (splitB1 0 s)).ok
def kV (s : ByteArray) : Value := if kOk s then .tuple #[(six (splitB1 0 s)).v, .int .i64 0] else .tuple #[Tup.zero.v, .int .i64 9]
theorem six_key {t : Tup} (h : t.ok = true) : splitB1 0 t.key = [t.a, t.b, t.c, t.d, t.e, t.f, nilB] := by
  unfold splitB1
  rw [show t.key.data.toList = keyL t.ls from rfl, split1_key t.ls (Tup.ok_noZero h)]
  simp [Tup.ls, Tup.l, nilB]
theorem key_six {s : ByteArray} (h : (splitB1 0 s).length = 7) (h6 : ((splitB1 0 s).getD 6 nilB).toList.isEmpty = true) : (six (splitB1 0 s)).key = s := by
  obtain ⟨l, z, h1, h2⟩ := split1_join s.data.toList
  have hl : l.length = 6 := by
    unfold splitB1 at h
    rw [h1] at h
    simpa using h
  match l, hl with
  | [a, b, c, d, e, f], _ =>
    have hz : z = [] := by
      unfold splitB1 at h6
      rw [h1] at h6
      rw [Lib.toList_data] at h6
      simpa using h6
    subst hz
    apply bytes_ext
    rw [h2]
    have hs : splitB1 0 s = [⟨a.toArray⟩, ⟨b.toArray⟩, ⟨c.toArray⟩, ⟨d.toArray⟩, ⟨e.toArray⟩, ⟨f.toArray⟩, ⟨#[]⟩] := by unfold splitB1; rw [h1]; rfl
    rw [hs]
    show keyL _ = _
    simp [six, Tup.ls, Tup.l]
theorem unkey_eq (s : ByteArray) : kV s = uV s := by
  unfold kV uV
  cases hk : kOk s
  · cases hu : uOk s
    · rfl
    · exfalso
      simp only [uOk, Bool.and_eq_true] at hu
      obtain ⟨hok, hs⟩ := hu
      rw [bytes_beq] at hs
      have h6 := six_key hok
      rw [hs] at h6
      have : kOk s = true := by
        unfold kOk
        rw [h6]
        have e : six [(uT s).a, (uT s).b, (uT s).c, (uT s).d, (uT s).e, (uT s).f, nilB] = uT s := rfl
        rw [e, hok]
        simp [nilB]
      rw [hk] at this
      cases this
  · simp only [kOk, Bool.and_eq_true, decide_eq_true_eq] at hk
    obtain ⟨⟨h7, h6⟩, hok⟩ := hk
    have hs := key_six h7 h6
    have hu := uT_key hok
    rw [hs] at hu
    have : uOk s = true := by
      simp only [uOk, Bool.and_eq_true]
      rw [hu]
      exact ⟨hok, by rw [bytes_beq]; exact hs⟩
    rw [this, if_pos rfl, if_pos rfl, hu]
def rTup (s : ByteArray) : Tup := if rOk s then rT s else Tup.zero
def rErr (s : ByteArray) : Int := if rOk s then 0 else 9
def uTup (s : ByteArray) : Tup := if uOk s then uT s else Tup.zero
def uErr (s : ByteArray) : Int := if uOk s then 0 else 9
theorem rV_eq (s : ByteArray) : rV s = .tuple #[(rTup s).v, .int .i64 (rErr s)] := by
  unfold rV rTup rErr; split <;> rfl
theorem uV_eq (s : ByteArray) : uV s = .tuple #[(uTup s).v, .int .i64 (uErr s)] := by
  unfold uV uTup uErr; split <;> rfl
end Go.Proofs.YtkmdlpkdoplpdaaDoor
