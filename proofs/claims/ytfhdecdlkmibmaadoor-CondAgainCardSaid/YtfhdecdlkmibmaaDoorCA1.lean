/- Walks: conditions: a byte's sort, a span. -/
import Derived.Test.YtfhdecdlkmibmaaDoorProg
import Derived.Test.YtfhdecdlkmibmaaDoorC16
import Derived.WalkLawsBesides
import Derived.Outline
namespace Go.Proofs.YtfhdecdlkmibmaaDoor
open Go.RowKit
theorem isDig_int (c : UInt8) : isDig c = (decide (48 ≤ (c.toNat : Int)) && decide ((c.toNat : Int) ≤ 57)) := by
  rw [Bool.eq_iff_iff, isDig_nat]; simp; omega
theorem isLet_int (c : UInt8) : isLet c = (decide ((c.toNat : Int) = 95) || (decide (97 ≤ (c.toNat : Int)) && decide ((c.toNat : Int) ≤ 122))) := by
  unfold isLet
  have e1 : (c == 95) = decide ((c.toNat : Int) = 95) := by
    rw [Bool.eq_iff_iff]; simp [← UInt8.toNat_inj]; omega
  rw [e1]
  simp only [UInt8.le_iff_toNat_le]
  rw [Bool.eq_iff_iff]
  simp
  omega
theorem isQuo_int (c : UInt8) : isQuo c = (decide (32 ≤ (c.toNat : Int)) && decide ((c.toNat : Int) ≤ 126) && !decide ((c.toNat : Int) = 39)) := by
  unfold isQuo
  have e1 : (c == 39) = decide ((c.toNat : Int) = 39) := by
    rw [Bool.eq_iff_iff]; simp [← UInt8.toNat_inj]; omega
  rw [e1]
  simp only [UInt8.le_iff_toNat_le]
  rw [Bool.eq_iff_iff]
  simp
  omega
/-- a byte as a value -/
def byteV (c : UInt8) : Value := .int .u8 (c.toNat : Int)
theorem digit_calls (c : UInt8) (w : World) :
    Calls Tryd.prog 17 #[byteV c] w fun e w' => e = .returned (.bool (isDig c)) ∧ w = w' := by
  unfold byteV
  have h8 := c.toNat_lt
  go_enter Tryd.func17, Tryd.ntmps17
  go_wp2
  all_goals (go_ret; refine ⟨ret_bool ?_, rfl⟩; rw [isDig_int]; simp; try omega)
theorem letter_calls (c : UInt8) (w : World) :
    Calls Tryd.prog 19 #[byteV c] w fun e w' => e = .returned (.bool (isLet c)) ∧ w = w' := by
  unfold byteV
  have h8 := c.toNat_lt
  go_enter Tryd.func19, Tryd.ntmps19
  go_wp2
  all_goals (go_ret; refine ⟨ret_bool ?_, rfl⟩; rw [isLet_int]; simp_all <;> (rw [Bool.eq_iff_iff]; simp; omega))
theorem quo_calls (c : UInt8) (w : World) :
    Calls Tryd.prog 21 #[byteV c] w fun e w' => e = .returned (.bool (isQuo c)) ∧ w = w' := by
  unfold byteV
  have h8 := c.toNat_lt
  go_enter Tryd.func21, Tryd.ntmps21
  go_wp2
  all_goals (go_ret; refine ⟨ret_bool ?_, rfl⟩; rw [isQuo_int]; simp_all <;> (try (rw [Bool.eq_iff_iff]; simp)) <;> (try (intros; omega)))
theorem wrd_calls (c : UInt8) (w : World) :
    Calls Tryd.prog 20 #[byteV c] w fun e w' => e = .returned (.bool (isWrd c)) ∧ w = w' := by
  have h1 := digit_calls c w
  have h2 := letter_calls c w
  have e : isWrd c = (isDig c || isLet c) := rfl
  rw [e]
  generalize isDig c = a at *
  generalize isLet c = b at *
  unfold byteV at h1 h2 ⊢
  go_enter Tryd.func20, Tryd.ntmps20
  go_wp2_with fail
  refine h1.mono ?_
  rintro e w' ⟨rfl, rfl⟩
  cases a
  · go_wp2_with fail
    refine h2.mono ?_
    rintro e w' ⟨rfl, rfl⟩
    go_wp2
    go_ret
    exact ⟨rfl, rfl⟩
  · go_wp2
    go_ret
    exact ⟨rfl, rfl⟩
theorem span_stop {p : UInt8 → Bool} {l : List UInt8} {k : Nat} (h : (l.take k).all p = true) (hk : k ≤ l.length) (hn : ∀ c, l[k]? = some c → p c = false) : spanN p l = k := by
  have := span_all (p := p) (l.take k) (l.drop k) h (fun c hc => hn c (by rw [List.head?_drop] at hc; exact hc))
  rw [List.take_append_drop, List.length_take] at this
  omega
theorem all_take (p : UInt8 → Bool) (s : ByteArray) (k : Nat) (h : k < s.size) (h0 : (s.data.toList.take k).all p = true) (h1 : p s[k] = true) : (s.data.toList.take (k + 1)).all p = true := by
  rw [take_snoc s k h]; simp only [List.all_append, h0, List.all_cons, List.all_nil, Bool.and_true, h1]
theorem span_calls (F : Nat) (hE : ∀ args w, (callFunc F args).run Tryd.prog w = .ok (.enter F args) w) (p : UInt8 → Bool) (hp : ∀ (c : UInt8) (w : World), Calls Tryd.prog F #[byteV c] w fun e w' => e = .returned (.bool (p c)) ∧ w = w') (s : ByteArray) (w : World) (hs : s.size ≤ maxLen) :
    Calls Tryd.prog 18 #[.string s, .func (.func F) #[] #[]] w fun e w' => e = .returned (.int .i64 (spanN p s.data.toList)) ∧ w = w' := by
  unfold maxLen at hs
  unfold byteV at hp
  have hp' := Lib.hid hp
  clear hp
  go_enter Tryd.func18, Tryd.ntmps18
  go_wp2_with fail
  go_loop [5] (fun i => ∃ k : Nat, k ≤ s.size ∧ i = .int .i64 k ∧ (s.data.toList.take k).all p = true) (fun i => s.size - (intOf i).toNat)
  case atStart => exact ⟨0, Nat.zero_le _, rfl, by simp⟩
  case round =>
    obtain ⟨k, hk, rfl, hall⟩ := hrel
    have hall' := Lib.hid hall
    clear hall
    by_cases hlt : k < s.size
    · go_wp2_with fail
      refine (hp'.out s[k] w).mono ?_
      rintro e w' ⟨rfl, rfl⟩
      cases hc : p s[k]
      · have hv : spanN p s.data.toList = k := span_stop hall'.out (by rw [← Lib.size_eq]; omega) (fun c hc' => by
          have : s.data.toList[k]? = some s[k] := by rw [ByteArray.getElem_eq_getElem_data]; simp
          rw [this] at hc'
          rw [← Option.some.inj hc']; exact hc)
        go_wp2_with fail
        all_goals (go_ret; exact ⟨by first | rfl | (rw [hv]; rfl), rfl⟩)
      · go_wp2_with fail
        go_round
        case rel => exact ⟨k + 1, by omega, by go_num, all_take p s k hlt hall'.out hc⟩
        case measure => simp [intOf]; omega
    · have hv : spanN p s.data.toList = k := span_stop hall'.out (by rw [← Lib.size_eq]; omega) (fun c hc' => by
        rw [List.getElem?_eq_none (by rw [← Lib.size_eq]; omega)] at hc'; cases hc')
      go_wp2_with fail
      all_goals (go_ret; exact ⟨by first | rfl | (rw [hv]; rfl), rfl⟩)
end Go.Proofs.YtfhdecdlkmibmaaDoor
