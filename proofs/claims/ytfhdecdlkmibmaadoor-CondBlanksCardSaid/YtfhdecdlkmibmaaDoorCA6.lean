/- Walk: conditions: a number. -/
import Derived.Test.YtfhdecdlkmibmaaDoorCA5
import Derived.Lib.ParseIntB
import Derived.Lib.AtoiErrMem
namespace Go.Proofs.YtfhdecdlkmibmaaDoor
open Go.RowKit
theorem dig_val (c : UInt8) (h : isDig c = true) : 48 ≤ c.toNat ∧ c.toNat ≤ 57 := (isDig_nat c).1 h
theorem fold_ge : ∀ (l : List UInt8) (a : Nat), a ≤ l.foldl (fun a c => a * 10 + (c.toNat - 48)) a
  | [], a => Nat.le_refl _
  | c :: l, a => by
    have := fold_ge l (a * 10 + (c.toNat - 48))
    rw [List.foldl_cons]; omega
theorem uintM_dig (M : Nat) (hM : M < 18446744073709551620) : ∀ (l : List UInt8) (a : Nat), l.all isDig = true → a ≤ M → Lib.parseUintM M a l = if l.foldl (fun a c => a * 10 + (c.toNat - 48)) a ≤ M then .ok (l.foldl (fun a c => a * 10 + (c.toNat - 48)) a) else .range
  | [], a, _, ha => by
    show Lib.NumEnd.ok a = _
    rw [List.foldl_nil, if_pos ha]
  | c :: l, a, h, ha => by
    rw [List.all_cons, Bool.and_eq_true] at h
    have hc := dig_val c h.1
    have hg := fold_ge l (a * 10 + (c.toNat - 48))
    rw [List.foldl_cons]
    unfold Lib.parseUintM
    rw [if_pos hc]
    by_cases h1 : 1844674407370955162 ≤ a
    · rw [if_pos h1, if_neg (by omega)]
    · rw [if_neg h1]
      by_cases h2 : M < a * 10 + (c.toNat - 48)
      · rw [if_pos h2, if_neg (by omega)]
      · rw [if_neg h2]
        exact uintM_dig M hM l _ h.2 (by omega)
theorem parse_dig (l : List UInt8) (h : l.all isDig = true) (hne : l ≠ []) : Lib.parseIntB 64 l = if decVal l < 9223372036854775808 then .ok (decVal l : Int) else .range := by
  cases l with
  | nil => exact absurd rfl hne
  | cons c r =>
    have hc := dig_val c (by rw [List.all_cons, Bool.and_eq_true] at h; exact h.1)
    unfold Lib.parseIntB
    simp only
    have e1 : ¬ (c.toNat = 43 ∨ c.toNat = 45) := by omega
    have e2 : ¬ c.toNat = 45 := by omega
    rw [if_neg e1]
    unfold Lib.parseUintB
    rw [if_neg (List.cons_ne_nil _ _), uintM_dig _ (by decide) _ 0 h (Nat.zero_le _)]
    rw [show (c :: r).foldl (fun a c => a * 10 + (c.toNat - 48)) 0 = decVal (c :: r) from rfl]
    by_cases h1 : decVal (c :: r) ≤ 2 ^ 64 - 1
    · rw [if_pos h1]
      show (if ¬ c.toNat = 45 ∧ 2 ^ (64 - 1) ≤ decVal (c :: r) then Lib.NumEnd.range else if c.toNat = 45 ∧ 2 ^ (64 - 1) < decVal (c :: r) then .range else .ok (if c.toNat = 45 then -(decVal (c :: r) : Int) else (decVal (c :: r) : Int))) = _
      rw [if_neg (fun e => e2 e.1) (c := c.toNat = 45 ∧ 2 ^ (64 - 1) < decVal (c :: r)), if_neg e2]
      by_cases h2 : decVal (c :: r) < 9223372036854775808
      · rw [if_pos h2, if_neg (by omega)]
      · rw [if_neg h2, if_pos ⟨e2, by omega⟩]
    · rw [if_neg h1, if_neg (by omega)]
def NumPost (w : World) (g : Nat) (s : ByteArray) (t : Tok) (l : Toks) (deep : Int) (least : Nat) (e : Ending) (w' : World) : Prop :=
  match numG t.text least with
  | some n => e = .returned (.tuple #[.int .i64 n, .bool true]) ∧ Rd w' g s l deep false ∧ Keeps (fun j => j = g) w w'
  | none => e = .returned (.tuple #[.int .i64 0, .bool false]) ∧ Rd w' g s (t :: l) deep true ∧ Keeps (fun j => j = g) w w'
theorem NumPost.none_ {w : World} {g : Nat} {s : ByteArray} {t : Tok} {l : Toks} {deep : Int} {least : Nat} {e : Ending} {w' : World} (h : numG t.text least = none) (h1 : e = .returned (.tuple #[.int .i64 0, .bool false])) (h2 : Rd w' g s (t :: l) deep true) (h3 : Keeps (fun j => j = g) w w') : NumPost w g s t l deep least e w' := by
  unfold NumPost; rw [h]; exact ⟨h1, h2, h3⟩
theorem NumPost.some_ {w : World} {g : Nat} {s : ByteArray} {t : Tok} {l : Toks} {deep : Int} {least n : Nat} {e : Ending} {w' : World} (h : numG t.text least = some n) (h1 : e = .returned (.tuple #[.int .i64 n, .bool true])) (h2 : Rd w' g s l deep false) (h3 : Keeps (fun j => j = g) w w') : NumPost w g s t l deep least e w' := by
  unfold NumPost; rw [h]; exact ⟨h1, h2, h3⟩
theorem numG_no {t : List UInt8} {least : Nat} (h : ¬ (least ≤ decVal t ∧ decVal t ≤ mostN ∧ (t.length = 1 ∨ t.head? ≠ some 48))) : numG t least = none := by unfold numG; rw [if_neg h]
theorem numG_yes {t : List UInt8} {least : Nat} (h : least ≤ decVal t ∧ decVal t ≤ mostN ∧ (t.length = 1 ∨ t.head? ≠ some 48)) : numG t least = some (decVal t) := by unfold numG; rw [if_pos h]
theorem Rd.lead {w : World} {g : Nat} {s : ByteArray} {t : Tok} {l : Toks} {deep : Int} {bad : Bool} (h : Rd w g s (t :: l) deep bad) : ∃ X : ByteArray, X.data.toList = t.text ∧ (∀ i, w.frozen? ⟨g, i, none⟩ = false) ∧ w.cell? ⟨g, 3, none⟩ = some (.string X) ∧ w.cell? ⟨g, 6, none⟩ = some (.bool bad) ∧ w.cell? ⟨g, 2, none⟩ = some (.int .i64 t.sort) ∧ w.cell? ⟨g, 5, none⟩ = some (.int .i64 deep) := by
  obtain ⟨q, _, hb, _⟩ := h.cells
  exact ⟨⟨t.text.toArray⟩, rfl, Blk.frozen hb, Blk.cell hb 3, Blk.cell hb 6, Blk.cell hb 2, Blk.cell hb 5⟩
theorem text_len {w : World} {g : Nat} {s : ByteArray} {t : Tok} {l : Toks} {deep : Int} {bad : Bool} (h : Rd w g s (t :: l) deep bad) : t.text.length ≤ 4096 := by
  obtain ⟨p, hp, _, hl⟩ := h.at_
  have e := (List.cons.inj hl).1
  have h1 := (lexF_facts _ p (s.data.toList.drop p) (Nat.lt_succ_self _)).2
  have h2 : W (lex p (s.data.toList.drop p)) ≤ (s.data.toList.drop p).length := h1
  rw [← hl, List.length_drop, ← Lib.size_eq] at h2
  have h3 : t.text.length ≤ wt t := by
    by_cases h5 : t.sort = 5
    · rw [wt_quo h5]; omega
    · rw [wt_text h5]; exact Nat.le_refl _
  have h4 : wt t ≤ W (t :: l) := Nat.le_add_right _ _
  have := h.size
  omega
set_option maxHeartbeats 4000000 in
theorem number_calls {w : World} {g : Nat} {s : ByteArray} {t : Tok} {l : Toks} {deep : Int} (least : Nat) (h : Rd w g s (t :: l) deep false) (ht : t.sort = 4) :
    Calls Tryd.prog 74 #[.pointer (some ⟨g, 0, none⟩), .int .i64 least] w (NumPost w g s t l deep least) := by
  have hgl := h.lt
  have hwf := h.wf.1.1 ht
  have htl := text_len h
  obtain ⟨X, hX, cf, c3, c6, _, _⟩ := h.lead
  have hXs : X.size = t.text.length := by rw [Lib.size_eq, hX]
  have hX1 : 1 ≤ X.size := by
    rw [hXs]
    cases ht : t.text with
    | nil => exact absurd ht hwf.1
    | cons _ _ => simp
  have hX2 : X.size ≤ 4096 := by omega
  have hXs' := Lib.hid hXs
  have hX0 : Hid (t.text.head? = some X[0]) := Lib.hid (by rw [← hX, drop_at X 0 (by omega) |> fun e => (List.drop_zero (l := X.data.toList)).symm.trans e]; rfl)
  clear hXs
  have hP := parse_dig t.text hwf.2 hwf.1
  have h' := Lib.hid h
  have hX' := Lib.hid hX
  obtain ⟨v, hv⟩ : ∃ v, v = decVal t.text := ⟨_, rfl⟩
  rw [← hv] at hP
  have hv' := Lib.hid hv
  have ht' := Lib.hid ht
  by_cases hr : v < 9223372036854775808
  · rw [if_pos hr] at hP
    have D := fun W => Tryd.strconv_ParseInt_10_at64_ok X (by omega) (v : Int) (by rw [hX]; exact hP) W
    have D' := Lib.hid D
    clear D hP hX hwf hv ht
    have hres : ∀ w', (w' = w ∨ ∃ t, w' = Lib.bytesWorld w 5 t) → Keeps (fun _ => False) w w' := by
      rintro w' (rfl | ⟨t, rfl⟩)
      · exact Keeps.refl _ _
      · exact .of_below (Lib.bytesWorld_below w 5 t)
    have hres' := Lib.hid hres
    clear hres h
    by_cases a1 : (least : Int) ≤ (v : Int)
    · by_cases a2 : (v : Int) ≤ 1000000000000000
      · have fin : Hid (X.size = 1 ∨ X[0] ≠ 48 → numG t.text least = some v) := Lib.hid fun hh => by
          rw [hv'.out]
          refine numG_yes ⟨by rw [← hv'.out]; omega, by rw [← hv'.out]; show v ≤ 1000000000000000; omega, ?_⟩
          rcases hh with h1 | h1
          · exact .inl (by rw [← hXs'.out]; exact h1)
          · exact .inr (by rw [hX0.out]; exact fun e => h1 (Option.some.inj e))
        by_cases a3 : X.size = 1
        · have fin' := Lib.hid (fin.out (.inl a3))
          go_enter Tryd.func74, Tryd.ntmps74
          go_wp2_with fail
          refine (D'.out w).mono ?_
          rintro e w1 ⟨rfl, hw1⟩
          have k1 := hres'.out w1 hw1
          have D3 := Lib.hid (step_rd (h'.out.same k1) (by rw [ht'.out]; decide))
          have k1' := Lib.hid k1
          clear hw1 k1
          go_wp2_with fail
          refine D3.out.mono ?_
          rintro e w2 ⟨rfl, h2, k2⟩
          have h2' := Lib.hid h2
          have k2' := Lib.hid k2
          clear h2 k2
          go_wp2_with fail
          go_ret2
          exact NumPost.some_ fin'.out rfl h2'.out ((k1'.out.mono fun _ _ e => e.elim).trans k2'.out)
        · have a3b : ((X.size : Int) == 1) = false := by apply beq_false_of_ne; omega
          by_cases a4 : X[0] = 48
          · have fin' : Hid (numG t.text least = none) := Lib.hid (numG_no fun hh => by
              rcases hh.2.2 with h1 | h1
              · exact a3 (by rw [hXs'.out]; exact h1)
              · exact h1 (by rw [hX0.out, a4]))
            have a4b : ((X[0].toNat : Int) != 48) = false := by rw [a4]; rfl
            have a4' := Lib.hid a4
            have a3' := Lib.hid a3
            clear a4 a3 fin
            go_enter Tryd.func74, Tryd.ntmps74
            go_wp2_with fail
            refine (D'.out w).mono ?_
            rintro e w1 ⟨rfl, hw1⟩
            have k1 := hres'.out w1 hw1
            have h1 := h'.out.same k1
            obtain ⟨_, _, cf1, _, c61, _, _⟩ := h1.lead
            have h1' := Lib.hid h1
            have k1' := Lib.hid k1
            clear hw1 k1 h1 c3 c6 cf
            go_wp2_with fail
            go_ret2
            exact NumPost.none_ fin'.out rfl h1'.out.worse (Keeps.setCell (S := fun j => j = g) (p := ⟨g, 6, none⟩) (k1'.out.mono fun _ _ e => e.elim) (.inl rfl) _)
          · have fin' := Lib.hid (fin.out (.inr a4))
            have a4b : ((X[0].toNat : Int) != 48) = true := by
              rw [bne_iff_ne]
              intro e
              apply a4
              apply UInt8.toNat_inj.1
              show X[0].toNat = 48
              omega
            have a4' := Lib.hid a4
            have a3' := Lib.hid a3
            clear a4 a3 fin
            go_enter Tryd.func74, Tryd.ntmps74
            go_wp2_with fail
            refine (D'.out w).mono ?_
            rintro e w1 ⟨rfl, hw1⟩
            have k1 := hres'.out w1 hw1
            have D3 := Lib.hid (step_rd (h'.out.same k1) (by rw [ht'.out]; decide))
            have k1' := Lib.hid k1
            clear hw1 k1
            go_wp2_with fail
            refine D3.out.mono ?_
            rintro e w2 ⟨rfl, h2, k2⟩
            have h2' := Lib.hid h2
            have k2' := Lib.hid k2
            clear h2 k2
            go_wp2_with fail
            go_ret2
            exact NumPost.some_ fin'.out rfl h2'.out ((k1'.out.mono fun _ _ e => e.elim).trans k2'.out)
      · have fin' : Hid (numG t.text least = none) := Lib.hid (numG_no fun hh => by
          have := hh.2.1
          rw [← hv'.out] at this
          have e : mostN = 1000000000000000 := rfl
          omega)
        go_enter Tryd.func74, Tryd.ntmps74
        go_wp2_with fail
        refine (D'.out w).mono ?_
        rintro e w1 ⟨rfl, hw1⟩
        have k1 := hres'.out w1 hw1
        have h1 := h'.out.same k1
        obtain ⟨_, _, cf1, _, c61, _, _⟩ := h1.lead
        have h1' := Lib.hid h1
        have k1' := Lib.hid k1
        clear hw1 k1 h1 c3 c6 cf
        go_wp2_with fail
        go_ret2
        exact NumPost.none_ fin'.out rfl h1'.out.worse (Keeps.setCell (S := fun j => j = g) (p := ⟨g, 6, none⟩) (k1'.out.mono fun _ _ e => e.elim) (.inl rfl) _)
    · have fin' : Hid (numG t.text least = none) := Lib.hid (numG_no fun hh => by
        have := hh.1
        rw [← hv'.out] at this
        omega)
      go_enter Tryd.func74, Tryd.ntmps74
      go_wp2_with fail
      refine (D'.out w).mono ?_
      rintro e w1 ⟨rfl, hw1⟩
      have k1 := hres'.out w1 hw1
      have h1 := h'.out.same k1
      obtain ⟨_, _, cf1, _, c61, _, _⟩ := h1.lead
      have h1' := Lib.hid h1
      have k1' := Lib.hid k1
      clear hw1 k1 h1 c3 c6 cf
      go_wp2_with fail
      go_ret2
      exact NumPost.none_ fin'.out rfl h1'.out.worse (Keeps.setCell (S := fun j => j = g) (p := ⟨g, 6, none⟩) (k1'.out.mono fun _ _ e => e.elim) (.inl rfl) _)
  · rw [if_neg hr] at hP
    obtain ⟨ev, he1, he2⟩ := h.err
    have D := Tryd.strconv_ParseInt_10_at64_range X (by omega) (by rw [hX]; exact hP) ev w he1 he2
    have D' := Lib.hid D
    have fin' : Hid (numG t.text least = none) := Lib.hid (numG_no fun hh => by
      have := hh.2.1
      rw [← hv] at this
      have e : mostN = 1000000000000000 := rfl
      omega)
    clear D hP hX hwf hv ht h he1 he2
    go_enter Tryd.func74, Tryd.ntmps74
    go_wp2_with fail
    refine D'.out.mono ?_
    rintro e w1 ⟨N, rfl, _, _, hB⟩
    have k1 := Keeps.of_below (S := fun _ => False) hB
    have h1 := h'.out.same k1
    obtain ⟨_, _, cf1, _, c61, _, _⟩ := h1.lead
    have h1' := Lib.hid h1
    have k1' := Lib.hid k1
    clear hB k1 h1 c3 c6 cf
    go_wp2_with fail
    go_ret2
    exact NumPost.none_ fin'.out rfl h1'.out.worse (Keeps.setCell (S := fun j => j = g) (p := ⟨g, 6, none⟩) (k1'.out.mono fun _ _ e => e.elim) (.inl rfl) _)
end Go.Proofs.YtfhdecdlkmibmaaDoor
