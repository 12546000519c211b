/- Walks: conditions: a reader at tokens; take, need. -/
import Derived.Test.YtfhdecdlkmibmaaDoorCA3
namespace Go.Proofs.YtfhdecdlkmibmaaDoor
open Go.RowKit
/-- the variable of errors of range holds an error, or none -/
def ErrAt (w : World) : Prop := ∃ ev, w.cell? ⟨5, 0, none⟩ = some ev ∧ (ev = .nilIface ∨ ∃ te pe, ev = .iface te pe)
section
variable {w w' : World} {S : Nat → Prop}
theorem ErrAt.keeps (h : ErrAt w) (hk : Keeps S w w') (hs : ¬ S 5) : ErrAt w' := by
  obtain ⟨ev, h1, h2⟩ := h
  have hlt : 5 < w.heap.size := World.block_lt_of_cell? w _ h1
  exact ⟨ev, (World.cell?_of_block (hk.block 5 hlt hs)).trans h1, h2⟩
end
/-- a reader: what tokens are left, how deep it is, is it bad? -/
structure Rd (w : World) (g : Nat) (s : ByteArray) (l : Toks) (deep : Int) (bad : Bool) : Prop where
  size : s.size ≤ 4096
  g5 : g ≠ 5
  err : ErrAt w
  at_ : ∃ p, p ≤ s.size ∧ RdAt w g s (p + tokN (s.data.toList.drop p)) (tokAt p (s.data.toList.drop p)) deep bad ∧ l = lex p (s.data.toList.drop p)
section
variable {w w' : World} {g : Nat} {s : ByteArray} {l : Toks} {deep : Int} {bad : Bool} {S : Nat → Prop}
theorem Rd.lt (h : Rd w g s l deep bad) : g < w.heap.size := by obtain ⟨p, _, h, _⟩ := h.at_; exact Blk.lt h
theorem Rd.keeps (h : Rd w g s l deep bad) (hk : Keeps S w w') (hg : ¬ S g) (hs : ¬ S 5) : Rd w' g s l deep bad := by
  obtain ⟨p, hp, h1, hl⟩ := h.at_
  exact ⟨h.size, h.g5, h.err.keeps hk hs, p, hp, Blk.keeps h1 hk hg, hl⟩
theorem Rd.same (h : Rd w g s l deep bad) (hk : Keeps (fun _ => False) w w') : Rd w' g s l deep bad := h.keeps hk id id
theorem Rd.alloc (h : Rd w g s l deep bad) (o : Obj) : Rd (w.alloc o) g s l deep bad := h.same ((Keeps.refl _ _).alloc o)
theorem Rd.len (h : Rd w g s l deep bad) : l.length ≤ 4097 := by
  obtain ⟨p, hp, _, rfl⟩ := h.at_
  have := lex_len p (s.data.toList.drop p)
  rw [List.length_drop, ← Lib.size_eq] at this
  have := h.size
  omega
theorem Rd.wf (h : Rd w g s l deep bad) : WF l := by
  obtain ⟨p, hp, _, rfl⟩ := h.at_
  exact lex_wf _ _
theorem Rd.ex (h : Rd w g s l deep bad) : ∃ t r, l = t :: r := by
  obtain ⟨p, hp, _, rfl⟩ := h.at_
  exact ⟨_, _, rfl⟩
/-- the block of a reader whose next token is known -/
theorem Rd.cells {t : Tok} {r : Toks} (h : Rd w g s (t :: r) deep bad) : ∃ q : Nat, q ≤ s.size ∧ Blk w g 41 #[.string s, .int .i64 q, .int .i64 t.sort, strV t.text, .int .i64 t.pos, .int .i64 deep, .bool bad] ∧ (t.dig = (t.sort == 2 && t.text == minusL && digAt (s.data.toList.drop q))) := by
  obtain ⟨p, hp, h1, hl⟩ := h.at_
  obtain ⟨rfl, _⟩ := List.cons.inj hl
  have := tokN_le (s.data.toList.drop p)
  rw [List.length_drop, ← Lib.size_eq] at this
  refine ⟨_, by omega, h1, ?_⟩
  have e : s.data.toList.drop (p + tokN (s.data.toList.drop p)) = ((s.data.toList.drop p).drop (blankN (s.data.toList.drop p))).drop (tokH ((s.data.toList.drop p).drop (blankN (s.data.toList.drop p)))).2.2 := by
    rw [← List.drop_drop (i := tokN (s.data.toList.drop p)) (j := p)]
    unfold tokN
    rw [← List.drop_drop]
  rw [e]; rfl
theorem Rd.at_deep (h : Rd w g s l deep bad) (d : Int) : Rd (w.setCell ⟨g, 5, none⟩ (.int .i64 d)) g s l d bad := by
  obtain ⟨p, hp, h1, hl⟩ := h.at_
  exact ⟨h.size, h.g5, h.err.keeps ((Keeps.refl (fun j => j = g) w).setCell (.inl rfl) _) (fun e => h.g5 e.symm), p, hp, Blk.set_ h1 5 _, hl⟩
theorem Rd.worse (h : Rd w g s l deep bad) : Rd (w.setCell ⟨g, 6, none⟩ (.bool true)) g s l deep true := by
  obtain ⟨p, hp, h1, hl⟩ := h.at_
  exact ⟨h.size, h.g5, h.err.keeps ((Keeps.refl (fun j => j = g) w).setCell (.inl rfl) _) (fun e => h.g5 e.symm), p, hp, Blk.set_ h1 6 _, hl⟩
end
theorem step_rd {w : World} {g : Nat} {s : ByteArray} {t : Tok} {l : Toks} {deep : Int} {bad : Bool} (h : Rd w g s (t :: l) deep bad) (ht : 2 ≤ t.sort) :
    Calls Tryd.prog 12 #[.pointer (some ⟨g, 0, none⟩)] w fun e w' => e = .returned (.tuple #[]) ∧ Rd w' g s l deep bad ∧ Keeps (fun j => j = g) w w' := by
  obtain ⟨p, hp, h1, hl⟩ := h.at_
  have hN := tokN_le (s.data.toList.drop p)
  rw [List.length_drop, ← Lib.size_eq] at hN
  have e := (List.cons.inj hl).1
  rw [lex_next (by rw [← e]; exact ht)] at hl
  refine (step_calls s _ _ deep bad g w h.size (by omega) h1).mono ?_
  rintro _ w' ⟨rfl, h2, hk⟩
  refine ⟨rfl, ⟨h.size, h.g5, h.err.keeps hk fun e => h.g5 e.symm, _, by omega, h2, ?_⟩, hk⟩
  rw [(List.cons.inj hl).2, List.drop_drop]
theorem bne_str (a b : ByteArray) : (a.toList != b.toList) = (a.data.toList != b.data.toList) := by rw [Lib.toList_data, Lib.toList_data]
theorem beq_str (a b : ByteArray) : (a.toList == b.toList) = (a.data.toList == b.data.toList) := by rw [Lib.toList_data, Lib.toList_data]
theorem isT_cons (t : Tok) (r : Toks) (s : List UInt8) : isT (t :: r) s = ((t.sort == 2 || t.sort == 3) && t.text == s) := rfl
set_option maxHeartbeats 1000000 in
theorem take_no {w : World} {g : Nat} {s : ByteArray} {l : Toks} {deep : Int} {bad : Bool} (x : ByteArray) (h : Rd w g s l deep bad) (hx : bad = true ∨ isT l x.data.toList = false) :
    Calls Tryd.prog 32 #[.pointer (some ⟨g, 0, none⟩), .string x] w fun e w' => e = .returned (.bool false) ∧ w = w' := by
  obtain ⟨t, r, rfl⟩ := h.ex
  obtain ⟨q, hq, hb, _⟩ := h.cells
  have hgl := hb.lt
  obtain ⟨sort, text, pos, dig⟩ := t
  have c := Blk.cell hb
  have cf := Blk.frozen hb
  have hx' := Lib.hid hx
  clear hb h hx
  unfold strV at c
  cases bad with
  | true =>
    go_enter Tryd.func32, Tryd.ntmps32
    go_wp2_with fail
    go_ret
    exact ⟨rfl, rfl⟩
  | false =>
    have hT : Hid (((sort == 2 || sort == 3) && text == x.data.toList) = false) := by
      rcases hx'.out with h | h
      · cases h
      · exact Lib.hid h
    by_cases he : text = x.data.toList
    · have e1 : (text == x.toList) = true := by rw [he, Lib.toList_data]; exact beq_self_eq_true _
      have e2 : (text != x.toList) = false := by rw [he, Lib.toList_data]; exact bne_self_eq_false _
      have hs : Hid (sort ≠ 2 ∧ sort ≠ 3) := by
        have := hT.out
        rw [he] at this
        simp at this
        exact Lib.hid this
      have hs2 : ((sort : Int) != 2) = true := by have := hs.out; simp; omega
      have hs3 : ((sort : Int) != 3) = true := by have := hs.out; simp; omega
      have hs2' : ((sort : Int) == 2) = false := by have := hs.out; simp; omega
      have hs3' : ((sort : Int) == 3) = false := by have := hs.out; simp; omega
      have he' := Lib.hid he
      clear he
      go_enter Tryd.func32, Tryd.ntmps32
      go_wp2_with fail
      go_ret
      exact ⟨rfl, rfl⟩
    · have e1 : (text == x.toList) = false := by rw [Lib.toList_data]; exact beq_false_of_ne he
      have e2 : (text != x.toList) = true := by rw [Lib.toList_data]; exact bne_iff_ne.2 he
      go_enter Tryd.func32, Tryd.ntmps32
      go_wp2_with fail
      go_ret
      exact ⟨rfl, rfl⟩
set_option maxHeartbeats 1000000 in
theorem take_yes {w : World} {g : Nat} {s : ByteArray} {l : Toks} {deep : Int} (x : ByteArray) (h : Rd w g s l deep false) (hx : isT l x.data.toList = true) :
    Calls Tryd.prog 32 #[.pointer (some ⟨g, 0, none⟩), .string x] w fun e w' => e = .returned (.bool true) ∧ Rd w' g s l.tail deep false ∧ Keeps (fun j => j = g) w w' := by
  obtain ⟨t, r, rfl, ht, he⟩ := isT_text hx
  obtain ⟨q, hq, hb, _⟩ := h.cells
  have hgl := hb.lt
  have D := step_rd h (by rcases ht with e | e <;> omega)
  obtain ⟨sort, text, pos, dig⟩ := t
  have c := Blk.cell hb
  have cf := Blk.frozen hb
  have he : text = x.data.toList := he
  have ht : sort = 2 ∨ sort = 3 := ht
  clear hb h hx
  unfold strV at c
  have e1 : (text == x.toList) = true := by rw [he, Lib.toList_data]; exact beq_self_eq_true _
  have e2 : (text != x.toList) = false := by rw [he, Lib.toList_data]; exact bne_self_eq_false _
  have he' := Lib.hid he
  clear he
  have D' := Lib.hid D
  clear D
  rcases ht with rfl | rfl
  · go_enter Tryd.func32, Tryd.ntmps32
    go_wp2_with fail
    refine D'.out.mono ?_
    rintro e w' ⟨rfl, h1, k1⟩
    have h1' := Lib.hid h1
    have k1' := Lib.hid k1
    clear h1 k1
    go_wp2_with fail
    go_ret
    exact ⟨rfl, h1'.out, k1'.out⟩
  · go_enter Tryd.func32, Tryd.ntmps32
    go_wp2_with fail
    refine D'.out.mono ?_
    rintro e w' ⟨rfl, h1, k1⟩
    have h1' := Lib.hid h1
    have k1' := Lib.hid k1
    clear h1 k1
    go_wp2_with fail
    go_ret
    exact ⟨rfl, h1'.out, k1'.out⟩
theorem need_yes {w : World} {g : Nat} {s : ByteArray} {l : Toks} {deep : Int} (x : ByteArray) (h : Rd w g s l deep false) (hx : isT l x.data.toList = true) :
    Calls Tryd.prog 52 #[.pointer (some ⟨g, 0, none⟩), .string x] w fun e w' => e = .returned (.tuple #[]) ∧ Rd w' g s l.tail deep false ∧ Keeps (fun j => j = g) w w' := by
  have D' := Lib.hid (take_yes x h hx)
  clear h hx
  go_enter Tryd.func52, Tryd.ntmps52
  go_wp2_with fail
  refine D'.out.mono ?_
  rintro e w' ⟨rfl, h1, k1⟩
  have h1' := Lib.hid h1
  have k1' := Lib.hid k1
  clear h1 k1
  go_wp2_with fail
  go_end0
  exact ⟨rfl, h1'.out, k1'.out⟩
theorem need_no {w : World} {g : Nat} {s : ByteArray} {l : Toks} {deep : Int} {bad : Bool} (x : ByteArray) (h : Rd w g s l deep bad) (hx : bad = true ∨ isT l x.data.toList = false) :
    Calls Tryd.prog 52 #[.pointer (some ⟨g, 0, none⟩), .string x] w fun e w' => e = .returned (.tuple #[]) ∧ Rd w' g s l deep true ∧ Keeps (fun j => j = g) w w' := by
  have D' := Lib.hid (take_no x h hx)
  have hgl := h.lt
  have h0 := Lib.hid h
  have cf : ∀ i, w.frozen? ⟨g, i, none⟩ = false := by
    obtain ⟨p, hp, h1, hl⟩ := h.at_
    exact Blk.frozen h1
  have c6 : w.cell? ⟨g, 6, none⟩ = some (.bool bad) := by
    obtain ⟨p, hp, h1, hl⟩ := h.at_
    exact Blk.cell h1 6
  clear h hx
  go_enter Tryd.func52, Tryd.ntmps52
  go_wp2_with fail
  refine D'.out.mono ?_
  rintro e w' ⟨rfl, rfl⟩
  go_wp2_with fail
  go_end0
  exact ⟨rfl, h0.out.worse, (Keeps.refl (fun j => j = g) w).setCell (.inl rfl) _⟩
end Go.Proofs.YtfhdecdlkmibmaaDoor
