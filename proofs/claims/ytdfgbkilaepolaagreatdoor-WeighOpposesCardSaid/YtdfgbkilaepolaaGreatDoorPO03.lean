/- Walks: conditions: a reader at tokens; take, need. Walks: tuple.IsName. Walks: conditions: names. Walk: conditions: a number. -/
import Derived.Test.YtdfgbkilaepolaaGreatDoorPO02
import Derived.Test.YtdfgbkilaepolaaGreatDoorRows
import Derived.Test.YtdfgbkilaepolaaGreatDoorPW01
import Derived.WalkLawsBesides
import Derived.Lib.Hide
import Derived.Outline
import Derived.BigQuiet
import Derived.Deep.QuietTactic
import Derived.Lib.ParseIntB
import Derived.Lib.AtoiErrMem
namespace Go.Proofs.YtdfgbkilaepolaaGreatDoor
open Go.RowKit
/-- the variable of errors of range holds an error, or none -/
def ErrAt (w : World) : Prop := ∃ ev, w.cell? ⟨5, 0, none⟩ = some ev ∧ (ev = .nilIface ∨ ∃ te pe, ev = .iface te pe)
section
variable {w w' : World} {S : Nat → Prop}
theorem ErrAt.keeps (h : ErrAt w) (hk : Keeps S w w') (hs : ¬ S 5) : ErrAt w' := by
  obtain ⟨ev, h1, h2⟩ := h
  have hlt : 5 < w.heap.size := World.block_lt_of_cell? w _ h1
  exact ⟨ev, (World.cell?_of_block (hk.block 5 hlt hs)).trans h1, h2⟩
end
/-- a reader: what tokens are left, how deep it is, is it bad? -/
structure Rd (w : World) (g : Nat) (s : ByteArray) (l : Toks) (deep : Int) (bad : Bool) : Prop where
  size : s.size ≤ 4096
  g5 : g ≠ 5
  err : ErrAt w
  at_ : ∃ p, p ≤ s.size ∧ RdAt w g s (p + tokN (s.data.toList.drop p)) (tokAt p (s.data.toList.drop p)) deep bad ∧ l = lex p (s.data.toList.drop p)
section
variable {w w' : World} {g : Nat} {s : ByteArray} {l : Toks} {deep : Int} {bad : Bool} {S : Nat → Prop}
theorem Rd.lt (h : Rd w g s l deep bad) : g < w.heap.size := by obtain ⟨p, _, h, _⟩ := h.at_; exact Blk.lt h
theorem Rd.keeps (h : Rd w g s l deep bad) (hk : Keeps S w w') (hg : ¬ S g) (hs : ¬ S 5) : Rd w' g s l deep bad := by
  obtain ⟨p, hp, h1, hl⟩ := h.at_
  exact ⟨h.size, h.g5, h.err.keeps hk hs, p, hp, Blk.keeps h1 hk hg, hl⟩
theorem Rd.same (h : Rd w g s l deep bad) (hk : Keeps (fun _ => False) w w') : Rd w' g s l deep bad := h.keeps hk id id
theorem Rd.alloc (h : Rd w g s l deep bad) (o : Obj) : Rd (w.alloc o) g s l deep bad := h.same ((Keeps.refl _ _).alloc o)
theorem Rd.len (h : Rd w g s l deep bad) : l.length ≤ 4097 := by
  obtain ⟨p, hp, _, rfl⟩ := h.at_
  have := lex_len p (s.data.toList.drop p)
  rw [List.length_drop, ← Lib.size_eq] at this
  have := h.size
  omega
theorem Rd.wf (h : Rd w g s l deep bad) : WF l := by
  obtain ⟨p, hp, _, rfl⟩ := h.at_
  exact lex_wf _ _
theorem Rd.ex (h : Rd w g s l deep bad) : ∃ t r, l = t :: r := by
  obtain ⟨p, hp, _, rfl⟩ := h.at_
  exact ⟨_, _, rfl⟩
/-- the block of a reader whose next token is known -/
theorem Rd.cells {t : Tok} {r : Toks} (h : Rd w g s (t :: r) deep bad) : ∃ q : Nat, q ≤ s.size ∧ Blk w g 132 #[.string s, .int .i64 q, .int .i64 t.sort, strV t.text, .int .i64 t.pos, .int .i64 deep, .bool bad] ∧ (t.dig = (t.sort == 2 && t.text == minusL && digAt (s.data.toList.drop q))) := by
  obtain ⟨p, hp, h1, hl⟩ := h.at_
  obtain ⟨rfl, _⟩ := List.cons.inj hl
  have := tokN_le (s.data.toList.drop p)
  rw [List.length_drop, ← Lib.size_eq] at this
  refine ⟨_, by omega, h1, ?_⟩
  have e : s.data.toList.drop (p + tokN (s.data.toList.drop p)) = ((s.data.toList.drop p).drop (blankN (s.data.toList.drop p))).drop (tokH ((s.data.toList.drop p).drop (blankN (s.data.toList.drop p)))).2.2 := by
    rw [← List.drop_drop (i := tokN (s.data.toList.drop p)) (j := p)]
    unfold tokN
    rw [← List.drop_drop]
  rw [e]; rfl
theorem Rd.at_deep (h : Rd w g s l deep bad) (d : Int) : Rd (w.setCell ⟨g, 5, none⟩ (.int .i64 d)) g s l d bad := by
  obtain ⟨p, hp, h1, hl⟩ := h.at_
  exact ⟨h.size, h.g5, h.err.keeps ((Keeps.refl (fun j => j = g) w).setCell (.inl rfl) _) (fun e => h.g5 e.symm), p, hp, Blk.set_ h1 5 _, hl⟩
theorem Rd.worse (h : Rd w g s l deep bad) : Rd (w.setCell ⟨g, 6, none⟩ (.bool true)) g s l deep true := by
  obtain ⟨p, hp, h1, hl⟩ := h.at_
  exact ⟨h.size, h.g5, h.err.keeps ((Keeps.refl (fun j => j = g) w).setCell (.inl rfl) _) (fun e => h.g5 e.symm), p, hp, Blk.set_ h1 6 _, hl⟩
end
theorem step_rd {w : World} {g : Nat} {s : ByteArray} {t : Tok} {l : Toks} {deep : Int} {bad : Bool} (h : Rd w g s (t :: l) deep bad) (ht : 2 ≤ t.sort) :
    Calls Tryz.prog 91 #[.pointer (some ⟨g, 0, none⟩)] w fun e w' => e = .returned (.tuple #[]) ∧ Rd w' g s l deep bad ∧ Keeps (fun j => j = g) w w' := by
  obtain ⟨p, hp, h1, hl⟩ := h.at_
  have hN := tokN_le (s.data.toList.drop p)
  rw [List.length_drop, ← Lib.size_eq] at hN
  have e := (List.cons.inj hl).1
  rw [lex_next (by rw [← e]; exact ht)] at hl
  refine (step_calls s _ _ deep bad g w h.size (by omega) h1).mono ?_
  rintro _ w' ⟨rfl, h2, hk⟩
  refine ⟨rfl, ⟨h.size, h.g5, h.err.keeps hk fun e => h.g5 e.symm, _, by omega, h2, ?_⟩, hk⟩
  rw [(List.cons.inj hl).2, List.drop_drop]
theorem isT_cons (t : Tok) (r : Toks) (s : List UInt8) : isT (t :: r) s = ((t.sort == 2 || t.sort == 3) && t.text == s) := rfl
set_option maxHeartbeats 1000000 in
theorem take_no {w : World} {g : Nat} {s : ByteArray} {l : Toks} {deep : Int} {bad : Bool} (x : ByteArray) (h : Rd w g s l deep bad) (hx : bad = true ∨ isT l x.data.toList = false) :
    Calls Tryz.prog 135 #[.pointer (some ⟨g, 0, none⟩), .string x] w fun e w' => e = .returned (.bool false) ∧ w = w' := by
  obtain ⟨t, r, rfl⟩ := h.ex
  obtain ⟨q, hq, hb, _⟩ := h.cells
  have hgl := hb.lt
  obtain ⟨sort, text, pos, dig⟩ := t
  have c := Blk.cell hb
  have cf := Blk.frozen hb
  have hx' := Lib.hid hx
  clear hb h hx
  unfold strV at c
  cases bad with
  | true =>
    go_enter Tryz.func135, Tryz.ntmps135
    go_wp2_with fail
    go_ret
    exact ⟨rfl, rfl⟩
  | false =>
    have hT : Hid (((sort == 2 || sort == 3) && text == x.data.toList) = false) := by
      rcases hx'.out with h | h
      · cases h
      · exact Lib.hid h
    by_cases he : text = x.data.toList
    · have e1 : (text == x.toList) = true := by rw [he, Lib.toList_data]; exact beq_self_eq_true _
      have e2 : (text != x.toList) = false := by rw [he, Lib.toList_data]; exact bne_self_eq_false _
      have hs : Hid (sort ≠ 2 ∧ sort ≠ 3) := by
        have := hT.out
        rw [he] at this
        simp at this
        exact Lib.hid this
      have hs2 : ((sort : Int) != 2) = true := by have := hs.out; simp; omega
      have hs3 : ((sort : Int) != 3) = true := by have := hs.out; simp; omega
      have hs2' : ((sort : Int) == 2) = false := by have := hs.out; simp; omega
      have hs3' : ((sort : Int) == 3) = false := by have := hs.out; simp; omega
      have he' := Lib.hid he
      clear he
      go_enter Tryz.func135, Tryz.ntmps135
      go_wp2_with fail
      go_ret
      exact ⟨rfl, rfl⟩
    · have e1 : (text == x.toList) = false := by rw [Lib.toList_data]; exact beq_false_of_ne he
      have e2 : (text != x.toList) = true := by rw [Lib.toList_data]; exact bne_iff_ne.2 he
      go_enter Tryz.func135, Tryz.ntmps135
      go_wp2_with fail
      go_ret
      exact ⟨rfl, rfl⟩
set_option maxHeartbeats 1000000 in
theorem take_yes {w : World} {g : Nat} {s : ByteArray} {l : Toks} {deep : Int} (x : ByteArray) (h : Rd w g s l deep false) (hx : isT l x.data.toList = true) :
    Calls Tryz.prog 135 #[.pointer (some ⟨g, 0, none⟩), .string x] w fun e w' => e = .returned (.bool true) ∧ Rd w' g s l.tail deep false ∧ Keeps (fun j => j = g) w w' := by
  obtain ⟨t, r, rfl, ht, he⟩ := isT_text hx
  obtain ⟨q, hq, hb, _⟩ := h.cells
  have hgl := hb.lt
  have D := step_rd h (by rcases ht with e | e <;> omega)
  obtain ⟨sort, text, pos, dig⟩ := t
  have c := Blk.cell hb
  have cf := Blk.frozen hb
  have he : text = x.data.toList := he
  have ht : sort = 2 ∨ sort = 3 := ht
  clear hb h hx
  unfold strV at c
  have e1 : (text == x.toList) = true := by rw [he, Lib.toList_data]; exact beq_self_eq_true _
  have e2 : (text != x.toList) = false := by rw [he, Lib.toList_data]; exact bne_self_eq_false _
  have he' := Lib.hid he
  clear he
  have D' := Lib.hid D
  clear D
  rcases ht with rfl | rfl
  · go_enter Tryz.func135, Tryz.ntmps135
    go_wp2_with fail
    refine D'.out.mono ?_
    rintro e w' ⟨rfl, h1, k1⟩
    have h1' := Lib.hid h1
    have k1' := Lib.hid k1
    clear h1 k1
    go_wp2_with fail
    go_ret
    exact ⟨rfl, h1'.out, k1'.out⟩
  · go_enter Tryz.func135, Tryz.ntmps135
    go_wp2_with fail
    refine D'.out.mono ?_
    rintro e w' ⟨rfl, h1, k1⟩
    have h1' := Lib.hid h1
    have k1' := Lib.hid k1
    clear h1 k1
    go_wp2_with fail
    go_ret
    exact ⟨rfl, h1'.out, k1'.out⟩
theorem need_yes {w : World} {g : Nat} {s : ByteArray} {l : Toks} {deep : Int} (x : ByteArray) (h : Rd w g s l deep false) (hx : isT l x.data.toList = true) :
    Calls Tryz.prog 163 #[.pointer (some ⟨g, 0, none⟩), .string x] w fun e w' => e = .returned (.tuple #[]) ∧ Rd w' g s l.tail deep false ∧ Keeps (fun j => j = g) w w' := by
  have D' := Lib.hid (take_yes x h hx)
  clear h hx
  go_enter Tryz.func163, Tryz.ntmps163
  go_wp2_with fail
  refine D'.out.mono ?_
  rintro e w' ⟨rfl, h1, k1⟩
  have h1' := Lib.hid h1
  have k1' := Lib.hid k1
  clear h1 k1
  go_wp2_with fail
  go_end0
  exact ⟨rfl, h1'.out, k1'.out⟩
theorem need_no {w : World} {g : Nat} {s : ByteArray} {l : Toks} {deep : Int} {bad : Bool} (x : ByteArray) (h : Rd w g s l deep bad) (hx : bad = true ∨ isT l x.data.toList = false) :
    Calls Tryz.prog 163 #[.pointer (some ⟨g, 0, none⟩), .string x] w fun e w' => e = .returned (.tuple #[]) ∧ Rd w' g s l deep true ∧ Keeps (fun j => j = g) w w' := by
  have D' := Lib.hid (take_no x h hx)
  have hgl := h.lt
  have h0 := Lib.hid h
  have cf : ∀ i, w.frozen? ⟨g, i, none⟩ = false := by
    obtain ⟨p, hp, h1, hl⟩ := h.at_
    exact Blk.frozen h1
  have c6 : w.cell? ⟨g, 6, none⟩ = some (.bool bad) := by
    obtain ⟨p, hp, h1, hl⟩ := h.at_
    exact Blk.cell h1 6
  clear h hx
  go_enter Tryz.func163, Tryz.ntmps163
  go_wp2_with fail
  refine D'.out.mono ?_
  rintro e w' ⟨rfl, rfl⟩
  go_wp2_with fail
  go_end0
  exact ⟨rfl, h0.out.worse, (Keeps.refl (fun j => j = g) w).setCell (.inl rfl) _⟩
end Go.Proofs.YtdfgbkilaepolaaGreatDoor
namespace Go.Proofs.YtdfgbkilaepolaaGreatDoor
open Go.RowKit
set_option maxHeartbeats 400000 in
theorem isName_calls (s : ByteArray) (w : World) (hs : s.size ≤ maxLen) :
    Calls Tryz.prog 137 #[.string s] w fun e w' => e = .returned (.bool (isName s.data.toList)) ∧ w = w' := by
  unfold maxLen at hs
  go_enter Tryz.func137, Tryz.ntmps137
  go_wp2
  go_loop [7] (fun i => ∃ k : Nat, k ≤ s.size ∧ i = .int .i64 k ∧ (s.data.toList.take k).all nameByte = true) (fun i => s.size - (intOf i).toNat)
  case atStart => exact ⟨0, Nat.zero_le _, rfl, by simp⟩
  case round =>
    obtain ⟨k, hk, rfl, hall⟩ := hrel
    have hall' := Lib.hid hall
    clear hall
    by_cases hlt : k < s.size
    · go_wp2
      all_goals first
        | (go_round
           case rel => exact ⟨k + 1, by omega, by go_num, all_step s k hlt hall'.out (by first | exact nbT1 _ (by assumption) (by assumption) | exact nbT2 _ (by assumption) (by assumption) | exact nbT3 _ (by assumption) | exact nbT4 _ (by assumption))⟩
           case measure => simp [intOf]; omega)
        | (go_ret
           exact ⟨ret_bool (not_all s k hlt (nbF _ (by omega) (by omega) (by assumption) (by assumption))).symm, rfl⟩)
    · have hn := isName_all s (by have h := hall'.out; rwa [List.take_of_length_le (by rw [← Lib.size_eq]; omega)] at h)
      have hn' := Lib.hid hn
      clear hn
      go_wp2
      all_goals (go_ret; refine ⟨ret_bool ?_, rfl⟩; rw [hn'.out]; try simp_all)
end Go.Proofs.YtdfgbkilaepolaaGreatDoor
namespace Go.Proofs.YtdfgbkilaepolaaGreatDoor
open Go.RowKit
def wordsB : List ByteArray := [⟨#[97, 110, 100]⟩, ⟨#[111, 114]⟩, ⟨#[110, 111, 116]⟩, ⟨#[105, 110]⟩, ⟨#[116, 114, 117, 101]⟩, ⟨#[102, 97, 108, 115, 101]⟩]
def wordsO : Obj := .cells #[.string ⟨#[97, 110, 100]⟩, .string ⟨#[111, 114]⟩, .string ⟨#[110, 111, 116]⟩, .string ⟨#[105, 110]⟩, .string ⟨#[116, 114, 117, 101]⟩, .string ⟨#[102, 97, 108, 115, 101]⟩] 9
theorem words_calls (w : World) : Calls Tryz.prog 140 #[] w fun e w' => e = .returned (.slice (some ⟨w.heap.size, 0, none⟩) 6 6) ∧ w' = w.alloc wordsO := by
  unfold wordsO
  go_enter Tryz.func140, Tryz.ntmps140
  go_wp2
  go_ret
  exact ⟨rfl, rfl⟩
theorem words_cells (w : World) : ∀ j, j < wordsB.length → (w.alloc wordsO).cell? ⟨w.heap.size, 0 + j, none⟩ = some (.string (wordsB.getD j ByteArray.empty)) := by
  intro j hj
  have h := Blk.cell (Blk.new w 9 #[.string ⟨#[97, 110, 100]⟩, .string ⟨#[111, 114]⟩, .string ⟨#[110, 111, 116]⟩, .string ⟨#[105, 110]⟩, .string ⟨#[116, 114, 117, 101]⟩, .string ⟨#[102, 97, 108, 115, 101]⟩]) (0 + j)
  refine h.trans ?_
  match j, hj with
  | 0, _ => rfl
  | 1, _ => rfl
  | 2, _ => rfl
  | 3, _ => rfl
  | 4, _ => rfl
  | 5, _ => rfl
  | j + 6, hj => exact absurd hj (by show ¬ j + 6 < 6; omega)
theorem ba_eq (s a : ByteArray) : s = a ↔ s.data.toList = a.data.toList := by
  refine ⟨fun h => by rw [h], fun h => ?_⟩
  obtain ⟨⟨a⟩⟩ := a
  obtain ⟨⟨b⟩⟩ := s
  exact congrArg (fun l => (⟨⟨l⟩⟩ : ByteArray)) h
theorem words_has (s : ByteArray) : Lib.containsS (wordsB.take 6) s = wordsL.contains s.data.toList := by
  rw [Bool.eq_iff_iff, Lib.containsS_iff, List.contains_iff_mem]
  show s ∈ wordsB ↔ _
  unfold wordsB wordsL
  simp only [List.mem_cons, ba_eq s, List.not_mem_nil]
theorem has_45 (l : List UInt8) : decide (0 ≤ Lib.indexByte l 45) = l.contains 45 := (Lib.contains_iff_indexByte l 45).symm
set_option maxHeartbeats 2000000 in
theorem condName_calls (s : ByteArray) (w : World) (hs : s.size ≤ 4096) :
    Calls Tryz.prog 116 #[.string s] w fun e w' => e = .returned (.bool (isNameC s.data.toList)) ∧ Below w.heap.size w w' := by
  have D1 := isName_calls s w (by unfold maxLen; omega)
  have D2 := Tryz.strings_Contains_one s 45 w
  rw [has_45] at D2
  have D3 := words_calls w
  have D4 := Tryz.slices_Contains_string w.heap.size 0 6 6 wordsB s (w.alloc wordsO) (by decide) (by decide) (words_cells w)
  rw [words_has] at D4
  have hB := (Below.refl w.heap.size w).alloc (Nat.le_refl _) wordsO
  obtain ⟨W, eW⟩ : ∃ W, w.alloc wordsO = W := ⟨_, rfl⟩
  rw [eW] at D3 D4 hB
  cases hN : isName s.data.toList with
  | false =>
    have he : Hid (isNameC s.data.toList = false) := Lib.hid (by unfold isNameC; rw [hN]; rfl)
    rw [hN] at D1
    have D1' := Lib.hid D1
    clear D1 D2 D3 D4 hN
    go_enter Tryz.func116, Tryz.ntmps116
    go_wp2_with fail
    refine D1'.out.mono ?_
    rintro e w' ⟨rfl, rfl⟩
    go_wp2_with fail
    go_ret
    exact ⟨ret_bool he.out.symm, Below.refl _ _⟩
  | true =>
    have hn : 1 ≤ s.size := by
      have := hN
      unfold isName at this
      simp at this
      rw [Lib.size_eq]
      have := this.1.2
      simpa using this
    have hc0 : Hid (s.data.toList = s[0] :: s.data.toList.drop 1) := Lib.hid (drop_at s 0 (by omega))
    have hd : Hid (digAt s.data.toList = isDig s[0]) := Lib.hid (by rw [hc0.out]; rfl)
    have he : Hid (isNameC s.data.toList = (!isDig s[0] && !s.data.toList.contains 45 && !wordsL.contains s.data.toList)) := Lib.hid (by unfold isNameC; rw [hN, hd.out]; rfl)
    rw [hN] at D1
    have D1' := Lib.hid D1
    have D2' := Lib.hid D2
    have D3' := Lib.hid D3
    have D4' := Lib.hid D4
    have hdi := isDig_int s[0]
    clear D1 D2 D3 D4 hN
    cases hg : isDig s[0] with
    | true =>
      rw [hg] at hdi he
      have hx := Lib.hid hdi.symm
      have h1 : (48 : Int) ≤ (s[0].toNat : Int) := by have := hx.out; simp at this; omega
      have h2 : (s[0].toNat : Int) ≤ 57 := by have := hx.out; simp at this; omega
      clear hdi hg
      go_enter Tryz.func116, Tryz.ntmps116
      go_wp2_with fail
      refine D1'.out.mono ?_
      rintro e w' ⟨rfl, rfl⟩
      go_wp2_with fail
      go_ret
      exact ⟨ret_bool he.out.symm, Below.refl _ _⟩
    | false =>
      rw [hg] at hdi he
      have hx := Lib.hid hdi.symm
      have h1 : (s[0].toNat : Int) < 48 ∨ (57 : Int) < (s[0].toNat : Int) := by have := hx.out; simp at this; omega
      clear hdi hg
      rcases h1 with h1 | h1
      all_goals
        go_enter Tryz.func116, Tryz.ntmps116
        go_wp2_with fail
        refine D1'.out.mono ?_
        rintro e w' ⟨rfl, rfl⟩
        go_wp2_with fail
        refine D2'.out.mono ?_
        rintro e w' ⟨rfl, hw⟩
        obtain rfl := hw.symm
        cases hc : s.data.toList.contains 45
        · rw [hc] at he
          clear D2' hc
          go_wp2_with fail
          refine D3'.out.mono ?_
          rintro e w' ⟨rfl, hw⟩
          obtain rfl := hw.symm
          go_wp2_with fail
          refine D4'.out.mono ?_
          rintro e w' ⟨rfl, hw⟩
          obtain rfl := hw.symm
          go_wp2_with fail
          go_ret
          exact ⟨ret_bool (by rw [he.out]; simp), hB⟩
        · rw [hc] at he
          clear D2' hc
          go_wp2_with fail
          go_ret
          exact ⟨ret_bool he.out.symm, Below.refl _ _⟩
end Go.Proofs.YtdfgbkilaepolaaGreatDoor
namespace Go.Proofs.YtdfgbkilaepolaaGreatDoor
open Go.RowKit
theorem dig_val (c : UInt8) (h : isDig c = true) : 48 ≤ c.toNat ∧ c.toNat ≤ 57 := (isDig_nat c).1 h
theorem fold_ge : ∀ (l : List UInt8) (a : Nat), a ≤ l.foldl (fun a c => a * 10 + (c.toNat - 48)) a
  | [], a => Nat.le_refl _
  | c :: l, a => by
    have := fold_ge l (a * 10 + (c.toNat - 48))
    rw [List.foldl_cons]; omega
theorem uintM_dig (M : Nat) (hM : M < 18446744073709551620) : ∀ (l : List UInt8) (a : Nat), l.all isDig = true → a ≤ M → Lib.parseUintM M a l = if l.foldl (fun a c => a * 10 + (c.toNat - 48)) a ≤ M then .ok (l.foldl (fun a c => a * 10 + (c.toNat - 48)) a) else .range
  | [], a, _, ha => by
    show Lib.NumEnd.ok a = _
    rw [List.foldl_nil, if_pos ha]
  | c :: l, a, h, ha => by
    rw [List.all_cons, Bool.and_eq_true] at h
    have hc := dig_val c h.1
    have hg := fold_ge l (a * 10 + (c.toNat - 48))
    rw [List.foldl_cons]
    unfold Lib.parseUintM
    rw [if_pos hc]
    by_cases h1 : 1844674407370955162 ≤ a
    · rw [if_pos h1, if_neg (by omega)]
    · rw [if_neg h1]
      by_cases h2 : M < a * 10 + (c.toNat - 48)
      · rw [if_pos h2, if_neg (by omega)]
      · rw [if_neg h2]
        exact uintM_dig M hM l _ h.2 (by omega)
theorem parse_dig (l : List UInt8) (h : l.all isDig = true) (hne : l ≠ []) : Lib.parseIntB 64 l = if decVal l < 9223372036854775808 then .ok (decVal l : Int) else .range := by
  cases l with
  | nil => exact absurd rfl hne
  | cons c r =>
    have hc := dig_val c (by rw [List.all_cons, Bool.and_eq_true] at h; exact h.1)
    unfold Lib.parseIntB
    simp only
    have e1 : ¬ (c.toNat = 43 ∨ c.toNat = 45) := by omega
    have e2 : ¬ c.toNat = 45 := by omega
    rw [if_neg e1]
    unfold Lib.parseUintB
    rw [if_neg (List.cons_ne_nil _ _), uintM_dig _ (by decide) _ 0 h (Nat.zero_le _)]
    rw [show (c :: r).foldl (fun a c => a * 10 + (c.toNat - 48)) 0 = decVal (c :: r) from rfl]
    by_cases h1 : decVal (c :: r) ≤ 2 ^ 64 - 1
    · rw [if_pos h1]
      show (if ¬ c.toNat = 45 ∧ 2 ^ (64 - 1) ≤ decVal (c :: r) then Lib.NumEnd.range else if c.toNat = 45 ∧ 2 ^ (64 - 1) < decVal (c :: r) then .range else .ok (if c.toNat = 45 then -(decVal (c :: r) : Int) else (decVal (c :: r) : Int))) = _
      rw [if_neg (fun e => e2 e.1) (c := c.toNat = 45 ∧ 2 ^ (64 - 1) < decVal (c :: r)), if_neg e2]
      by_cases h2 : decVal (c :: r) < 9223372036854775808
      · rw [if_pos h2, if_neg (by omega)]
      · rw [if_neg h2, if_pos ⟨e2, by omega⟩]
    · rw [if_neg h1, if_neg (by omega)]
def NumPost (w : World) (g : Nat) (s : ByteArray) (t : Tok) (l : Toks) (deep : Int) (least : Nat) (e : Ending) (w' : World) : Prop :=
  match numG t.text least with
  | some n => e = .returned (.tuple #[.int .i64 n, .bool true]) ∧ Rd w' g s l deep false ∧ Keeps (fun j => j = g) w w'
  | none => e = .returned (.tuple #[.int .i64 0, .bool false]) ∧ Rd w' g s (t :: l) deep true ∧ Keeps (fun j => j = g) w w'
theorem NumPost.none_ {w : World} {g : Nat} {s : ByteArray} {t : Tok} {l : Toks} {deep : Int} {least : Nat} {e : Ending} {w' : World} (h : numG t.text least = none) (h1 : e = .returned (.tuple #[.int .i64 0, .bool false])) (h2 : Rd w' g s (t :: l) deep true) (h3 : Keeps (fun j => j = g) w w') : NumPost w g s t l deep least e w' := by
  unfold NumPost; rw [h]; exact ⟨h1, h2, h3⟩
theorem NumPost.some_ {w : World} {g : Nat} {s : ByteArray} {t : Tok} {l : Toks} {deep : Int} {least n : Nat} {e : Ending} {w' : World} (h : numG t.text least = some n) (h1 : e = .returned (.tuple #[.int .i64 n, .bool true])) (h2 : Rd w' g s l deep false) (h3 : Keeps (fun j => j = g) w w') : NumPost w g s t l deep least e w' := by
  unfold NumPost; rw [h]; exact ⟨h1, h2, h3⟩
theorem numG_no {t : List UInt8} {least : Nat} (h : ¬ (least ≤ decVal t ∧ decVal t ≤ mostN ∧ (t.length = 1 ∨ t.head? ≠ some 48))) : numG t least = none := by unfold numG; rw [if_neg h]
theorem numG_yes {t : List UInt8} {least : Nat} (h : least ≤ decVal t ∧ decVal t ≤ mostN ∧ (t.length = 1 ∨ t.head? ≠ some 48)) : numG t least = some (decVal t) := by unfold numG; rw [if_pos h]
theorem Rd.lead {w : World} {g : Nat} {s : ByteArray} {t : Tok} {l : Toks} {deep : Int} {bad : Bool} (h : Rd w g s (t :: l) deep bad) : ∃ X : ByteArray, X.data.toList = t.text ∧ (∀ i, w.frozen? ⟨g, i, none⟩ = false) ∧ w.cell? ⟨g, 3, none⟩ = some (.string X) ∧ w.cell? ⟨g, 6, none⟩ = some (.bool bad) ∧ w.cell? ⟨g, 2, none⟩ = some (.int .i64 t.sort) ∧ w.cell? ⟨g, 5, none⟩ = some (.int .i64 deep) := by
  obtain ⟨q, _, hb, _⟩ := h.cells
  exact ⟨⟨t.text.toArray⟩, rfl, Blk.frozen hb, Blk.cell hb 3, Blk.cell hb 6, Blk.cell hb 2, Blk.cell hb 5⟩
theorem text_len {w : World} {g : Nat} {s : ByteArray} {t : Tok} {l : Toks} {deep : Int} {bad : Bool} (h : Rd w g s (t :: l) deep bad) : t.text.length ≤ 4096 := by
  obtain ⟨p, hp, _, hl⟩ := h.at_
  have e := (List.cons.inj hl).1
  have h1 := (lexF_facts _ p (s.data.toList.drop p) (Nat.lt_succ_self _)).2
  have h2 : W (lex p (s.data.toList.drop p)) ≤ (s.data.toList.drop p).length := h1
  rw [← hl, List.length_drop, ← Lib.size_eq] at h2
  have h3 : t.text.length ≤ wt t := by
    by_cases h5 : t.sort = 5
    · rw [wt_quo h5]; omega
    · rw [wt_text h5]; exact Nat.le_refl _
  have h4 : wt t ≤ W (t :: l) := Nat.le_add_right _ _
  have := h.size
  omega
set_option maxHeartbeats 4000000 in
theorem number_calls {w : World} {g : Nat} {s : ByteArray} {t : Tok} {l : Toks} {deep : Int} (least : Nat) (h : Rd w g s (t :: l) deep false) (ht : t.sort = 4) :
    Calls Tryz.prog 173 #[.pointer (some ⟨g, 0, none⟩), .int .i64 least] w (NumPost w g s t l deep least) := by
  have hgl := h.lt
  have hwf := h.wf.1.1 ht
  have htl := text_len h
  obtain ⟨X, hX, cf, c3, c6, _, _⟩ := h.lead
  have hXs : X.size = t.text.length := by rw [Lib.size_eq, hX]
  have hX1 : 1 ≤ X.size := by
    rw [hXs]
    cases ht : t.text with
    | nil => exact absurd ht hwf.1
    | cons _ _ => simp
  have hX2 : X.size ≤ 4096 := by omega
  have hXs' := Lib.hid hXs
  have hX0 : Hid (t.text.head? = some X[0]) := Lib.hid (by rw [← hX, drop_at X 0 (by omega) |> fun e => (List.drop_zero (l := X.data.toList)).symm.trans e]; rfl)
  clear hXs
  have hP := parse_dig t.text hwf.2 hwf.1
  have h' := Lib.hid h
  have hX' := Lib.hid hX
  obtain ⟨v, hv⟩ : ∃ v, v = decVal t.text := ⟨_, rfl⟩
  rw [← hv] at hP
  have hv' := Lib.hid hv
  have ht' := Lib.hid ht
  by_cases hr : v < 9223372036854775808
  · rw [if_pos hr] at hP
    have D := fun W => Tryz.strconv_ParseInt_10_at64_ok X (by omega) (v : Int) (by rw [hX]; exact hP) W
    have D' := Lib.hid D
    clear D hP hX hwf hv ht
    have hres : ∀ w', (w' = w ∨ ∃ t, w' = Lib.bytesWorld w 5 t) → Keeps (fun _ => False) w w' := by
      rintro w' (rfl | ⟨t, rfl⟩)
      · exact Keeps.refl _ _
      · exact .of_below (Lib.bytesWorld_below w 5 t)
    have hres' := Lib.hid hres
    clear hres h
    by_cases a1 : (least : Int) ≤ (v : Int)
    · by_cases a2 : (v : Int) ≤ 1000000000000000
      · have fin : Hid (X.size = 1 ∨ X[0] ≠ 48 → numG t.text least = some v) := Lib.hid fun hh => by
          rw [hv'.out]
          refine numG_yes ⟨by rw [← hv'.out]; omega, by rw [← hv'.out]; show v ≤ 1000000000000000; omega, ?_⟩
          rcases hh with h1 | h1
          · exact .inl (by rw [← hXs'.out]; exact h1)
          · exact .inr (by rw [hX0.out]; exact fun e => h1 (Option.some.inj e))
        by_cases a3 : X.size = 1
        · have fin' := Lib.hid (fin.out (.inl a3))
          go_enter Tryz.func173, Tryz.ntmps173
          go_wp2_with fail
          refine (D'.out w).mono ?_
          rintro e w1 ⟨rfl, hw1⟩
          have k1 := hres'.out w1 hw1
          have D3 := Lib.hid (step_rd (h'.out.same k1) (by rw [ht'.out]; decide))
          have k1' := Lib.hid k1
          clear hw1 k1
          go_wp2_with fail
          refine D3.out.mono ?_
          rintro e w2 ⟨rfl, h2, k2⟩
          have h2' := Lib.hid h2
          have k2' := Lib.hid k2
          clear h2 k2
          go_wp2_with fail
          go_ret2
          exact NumPost.some_ fin'.out rfl h2'.out ((k1'.out.mono fun _ _ e => e.elim).trans k2'.out)
        · have a3b : ((X.size : Int) == 1) = false := by apply beq_false_of_ne; omega
          by_cases a4 : X[0] = 48
          · have fin' : Hid (numG t.text least = none) := Lib.hid (numG_no fun hh => by
              rcases hh.2.2 with h1 | h1
              · exact a3 (by rw [hXs'.out]; exact h1)
              · exact h1 (by rw [hX0.out, a4]))
            have a4b : ((X[0].toNat : Int) != 48) = false := by rw [a4]; rfl
            have a4' := Lib.hid a4
            have a3' := Lib.hid a3
            clear a4 a3 fin
            go_enter Tryz.func173, Tryz.ntmps173
            go_wp2_with fail
            refine (D'.out w).mono ?_
            rintro e w1 ⟨rfl, hw1⟩
            have k1 := hres'.out w1 hw1
            have h1 := h'.out.same k1
            obtain ⟨_, _, cf1, _, c61, _, _⟩ := h1.lead
            have h1' := Lib.hid h1
            have k1' := Lib.hid k1
            clear hw1 k1 h1 c3 c6 cf
            go_wp2_with fail
            go_ret2
            exact NumPost.none_ fin'.out rfl h1'.out.worse (Keeps.setCell (S := fun j => j = g) (p := ⟨g, 6, none⟩) (k1'.out.mono fun _ _ e => e.elim) (.inl rfl) _)
          · have fin' := Lib.hid (fin.out (.inr a4))
            have a4b : ((X[0].toNat : Int) != 48) = true := by
              rw [bne_iff_ne]
              intro e
              apply a4
              apply UInt8.toNat_inj.1
              show X[0].toNat = 48
              omega
            have a4' := Lib.hid a4
            have a3' := Lib.hid a3
            clear a4 a3 fin
            go_enter Tryz.func173, Tryz.ntmps173
            go_wp2_with fail
            refine (D'.out w).mono ?_
            rintro e w1 ⟨rfl, hw1⟩
            have k1 := hres'.out w1 hw1
            have D3 := Lib.hid (step_rd (h'.out.same k1) (by rw [ht'.out]; decide))
            have k1' := Lib.hid k1
            clear hw1 k1
            go_wp2_with fail
            refine D3.out.mono ?_
            rintro e w2 ⟨rfl, h2, k2⟩
            have h2' := Lib.hid h2
            have k2' := Lib.hid k2
            clear h2 k2
            go_wp2_with fail
            go_ret2
            exact NumPost.some_ fin'.out rfl h2'.out ((k1'.out.mono fun _ _ e => e.elim).trans k2'.out)
      · have fin' : Hid (numG t.text least = none) := Lib.hid (numG_no fun hh => by
          have := hh.2.1
          rw [← hv'.out] at this
          have e : mostN = 1000000000000000 := rfl
          omega)
        go_enter Tryz.func173, Tryz.ntmps173
        go_wp2_with fail
        refine (D'.out w).mono ?_
        rintro e w1 ⟨rfl, hw1⟩
        have k1 := hres'.out w1 hw1
        have h1 := h'.out.same k1
        obtain ⟨_, _, cf1, _, c61, _, _⟩ := h1.lead
        have h1' := Lib.hid h1
        have k1' := Lib.hid k1
        clear hw1 k1 h1 c3 c6 cf
        go_wp2_with fail
        go_ret2
        exact NumPost.none_ fin'.out rfl h1'.out.worse (Keeps.setCell (S := fun j => j = g) (p := ⟨g, 6, none⟩) (k1'.out.mono fun _ _ e => e.elim) (.inl rfl) _)
    · have fin' : Hid (numG t.text least = none) := Lib.hid (numG_no fun hh => by
        have := hh.1
        rw [← hv'.out] at this
        omega)
      go_enter Tryz.func173, Tryz.ntmps173
      go_wp2_with fail
      refine (D'.out w).mono ?_
      rintro e w1 ⟨rfl, hw1⟩
      have k1 := hres'.out w1 hw1
      have h1 := h'.out.same k1
      obtain ⟨_, _, cf1, _, c61, _, _⟩ := h1.lead
      have h1' := Lib.hid h1
      have k1' := Lib.hid k1
      clear hw1 k1 h1 c3 c6 cf
      go_wp2_with fail
      go_ret2
      exact NumPost.none_ fin'.out rfl h1'.out.worse (Keeps.setCell (S := fun j => j = g) (p := ⟨g, 6, none⟩) (k1'.out.mono fun _ _ e => e.elim) (.inl rfl) _)
  · rw [if_neg hr] at hP
    obtain ⟨ev, he1, he2⟩ := h.err
    have D := Tryz.strconv_ParseInt_10_at64_range X (by omega) (by rw [hX]; exact hP) ev w he1 he2
    have D' := Lib.hid D
    have fin' : Hid (numG t.text least = none) := Lib.hid (numG_no fun hh => by
      have := hh.2.1
      rw [← hv] at this
      have e : mostN = 1000000000000000 := rfl
      omega)
    clear D hP hX hwf hv ht h he1 he2
    go_enter Tryz.func173, Tryz.ntmps173
    go_wp2_with fail
    refine D'.out.mono ?_
    rintro e w1 ⟨N, rfl, _, _, hB⟩
    have k1 := Keeps.of_below (S := fun _ => False) hB
    have h1 := h'.out.same k1
    obtain ⟨_, _, cf1, _, c61, _, _⟩ := h1.lead
    have h1' := Lib.hid h1
    have k1' := Lib.hid k1
    clear hB k1 h1 c3 c6 cf
    go_wp2_with fail
    go_ret2
    exact NumPost.none_ fin'.out rfl h1'.out.worse (Keeps.setCell (S := fun j => j = g) (p := ⟨g, 6, none⟩) (k1'.out.mono fun _ _ e => e.elim) (.inl rfl) _)
end Go.Proofs.YtdfgbkilaepolaaGreatDoor
