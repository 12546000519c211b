/- Walks: conditions: a byte's sort, a span. Walks: conditions: a pair, a not. Tokens: what is left behind a token. No program in sight. -/
import Derived.Test.YtdfgbkilaepolaaGreatDoorProg
import Derived.Test.YtdfgbkilaepolaaGreatDoorPW02
import Derived.WalkLawsBesides
import Derived.Outline
namespace Go.Proofs.YtdfgbkilaepolaaGreatDoor
open Go.RowKit
theorem isDig_int (c : UInt8) : isDig c = (decide (48 ≤ (c.toNat : Int)) && decide ((c.toNat : Int) ≤ 57)) := by
  rw [Bool.eq_iff_iff, isDig_nat]; simp; omega
theorem isLet_int (c : UInt8) : isLet c = (decide ((c.toNat : Int) = 95) || (decide (97 ≤ (c.toNat : Int)) && decide ((c.toNat : Int) ≤ 122))) := by
  unfold isLet
  have e1 : (c == 95) = decide ((c.toNat : Int) = 95) := by
    rw [Bool.eq_iff_iff]; simp [← UInt8.toNat_inj]; omega
  rw [e1]
  simp only [UInt8.le_iff_toNat_le]
  rw [Bool.eq_iff_iff]
  simp
  omega
theorem isQuo_int (c : UInt8) : isQuo c = (decide (32 ≤ (c.toNat : Int)) && decide ((c.toNat : Int) ≤ 126) && !decide ((c.toNat : Int) = 39)) := by
  unfold isQuo
  have e1 : (c == 39) = decide ((c.toNat : Int) = 39) := by
    rw [Bool.eq_iff_iff]; simp [← UInt8.toNat_inj]; omega
  rw [e1]
  simp only [UInt8.le_iff_toNat_le]
  rw [Bool.eq_iff_iff]
  simp
  omega
/-- a byte as a value -/
def byteV (c : UInt8) : Value := .int .u8 (c.toNat : Int)
theorem digit_calls (c : UInt8) (w : World) :
    Calls Tryz.prog 106 #[byteV c] w fun e w' => e = .returned (.bool (isDig c)) ∧ w = w' := by
  unfold byteV
  have h8 := c.toNat_lt
  go_enter Tryz.func106, Tryz.ntmps106
  go_wp2
  all_goals (go_ret; refine ⟨ret_bool ?_, rfl⟩; rw [isDig_int]; simp; try omega)
theorem letter_calls (c : UInt8) (w : World) :
    Calls Tryz.prog 108 #[byteV c] w fun e w' => e = .returned (.bool (isLet c)) ∧ w = w' := by
  unfold byteV
  have h8 := c.toNat_lt
  go_enter Tryz.func108, Tryz.ntmps108
  go_wp2
  all_goals (go_ret; refine ⟨ret_bool ?_, rfl⟩; rw [isLet_int]; simp_all <;> (rw [Bool.eq_iff_iff]; simp; omega))
theorem quo_calls (c : UInt8) (w : World) :
    Calls Tryz.prog 110 #[byteV c] w fun e w' => e = .returned (.bool (isQuo c)) ∧ w = w' := by
  unfold byteV
  have h8 := c.toNat_lt
  go_enter Tryz.func110, Tryz.ntmps110
  go_wp2
  all_goals (go_ret; refine ⟨ret_bool ?_, rfl⟩; rw [isQuo_int]; simp_all <;> (try (rw [Bool.eq_iff_iff]; simp)) <;> (try (intros; omega)))
theorem wrd_calls (c : UInt8) (w : World) :
    Calls Tryz.prog 109 #[byteV c] w fun e w' => e = .returned (.bool (isWrd c)) ∧ w = w' := by
  have h1 := digit_calls c w
  have h2 := letter_calls c w
  have e : isWrd c = (isDig c || isLet c) := rfl
  rw [e]
  generalize isDig c = a at *
  generalize isLet c = b at *
  unfold byteV at h1 h2 ⊢
  go_enter Tryz.func109, Tryz.ntmps109
  go_wp2_with fail
  refine h1.mono ?_
  rintro e w' ⟨rfl, rfl⟩
  cases a
  · go_wp2_with fail
    refine h2.mono ?_
    rintro e w' ⟨rfl, rfl⟩
    go_wp2
    go_ret
    exact ⟨rfl, rfl⟩
  · go_wp2
    go_ret
    exact ⟨rfl, rfl⟩
theorem span_stop {p : UInt8 → Bool} {l : List UInt8} {k : Nat} (h : (l.take k).all p = true) (hk : k ≤ l.length) (hn : ∀ c, l[k]? = some c → p c = false) : spanN p l = k := by
  have := span_all (p := p) (l.take k) (l.drop k) h (fun c hc => hn c (by rw [List.head?_drop] at hc; exact hc))
  rw [List.take_append_drop, List.length_take] at this
  omega
theorem all_take (p : UInt8 → Bool) (s : ByteArray) (k : Nat) (h : k < s.size) (h0 : (s.data.toList.take k).all p = true) (h1 : p s[k] = true) : (s.data.toList.take (k + 1)).all p = true := by
  rw [take_snoc s k h]; simp only [List.all_append, h0, List.all_cons, List.all_nil, Bool.and_true, h1]
theorem span_calls (F : Nat) (hE : ∀ args w, (callFunc F args).run Tryz.prog w = .ok (.enter F args) w) (p : UInt8 → Bool) (hp : ∀ (c : UInt8) (w : World), Calls Tryz.prog F #[byteV c] w fun e w' => e = .returned (.bool (p c)) ∧ w = w') (s : ByteArray) (w : World) (hs : s.size ≤ maxLen) :
    Calls Tryz.prog 107 #[.string s, .func (.func F) #[] #[]] w fun e w' => e = .returned (.int .i64 (spanN p s.data.toList)) ∧ w = w' := by
  unfold maxLen at hs
  unfold byteV at hp
  have hp' := Lib.hid hp
  clear hp
  go_enter Tryz.func107, Tryz.ntmps107
  go_wp2_with fail
  go_loop [5] (fun i => ∃ k : Nat, k ≤ s.size ∧ i = .int .i64 k ∧ (s.data.toList.take k).all p = true) (fun i => s.size - (intOf i).toNat)
  case atStart => exact ⟨0, Nat.zero_le _, rfl, by simp⟩
  case round =>
    obtain ⟨k, hk, rfl, hall⟩ := hrel
    have hall' := Lib.hid hall
    clear hall
    by_cases hlt : k < s.size
    · go_wp2_with fail
      refine (hp'.out s[k] w).mono ?_
      rintro e w' ⟨rfl, rfl⟩
      cases hc : p s[k]
      · have hv : spanN p s.data.toList = k := span_stop hall'.out (by rw [← Lib.size_eq]; omega) (fun c hc' => by
          have : s.data.toList[k]? = some s[k] := by rw [ByteArray.getElem_eq_getElem_data]; simp
          rw [this] at hc'
          rw [← Option.some.inj hc']; exact hc)
        go_wp2_with fail
        all_goals (go_ret; exact ⟨by first | rfl | (rw [hv]; rfl), rfl⟩)
      · go_wp2_with fail
        go_round
        case rel => exact ⟨k + 1, by omega, by go_num, all_take p s k hlt hall'.out hc⟩
        case measure => simp [intOf]; omega
    · have hv : spanN p s.data.toList = k := span_stop hall'.out (by rw [← Lib.size_eq]; omega) (fun c hc' => by
        rw [List.getElem?_eq_none (by rw [← Lib.size_eq]; omega)] at hc'; cases hc')
      go_wp2_with fail
      all_goals (go_ret; exact ⟨by first | rfl | (rw [hv]; rfl), rfl⟩)
end Go.Proofs.YtdfgbkilaepolaaGreatDoor
namespace Go.Proofs.YtdfgbkilaepolaaGreatDoor
open Go.RowKit
theorem alloc_size (w : World) (o : Obj) : (w.alloc o).heap.size = w.heap.size + 1 := by unfold World.alloc; simp
/-- parts that have just been laid behind one another -/
theorem CAt.row {P : Nat → Prop} {w W : World} {q : Nat} {cs : List Value} {ps : List CT} (hb : Blk W q 28 cs.toArray) (hq : w.heap.size ≤ q) (hps : PartsAt P w cs ps) (hk : Keeps (fun _ => False) w W) (k n : Int) (s : List UInt8) : CAt (fun j => P j ∨ w.heap.size ≤ j) W [.int .i64 k, .int .i64 n, strV s, .slice (some ⟨q, 0, none⟩) ps.length ps.length] (.node k n s ps) := by
  refine .mk (cs := cs) (.inr ⟨q, ps.length, cs.toArray, rfl, Nat.le_refl _, hb, ?_⟩) (fun g hg => ?_) hps.len fun i p hi => ?_
  · intro i u h; simpa using h
  · right
    have : q = g := by simpa [Value.ownBlock] using hg
    omega
  · exact ((hps.part i p hi).keeps hk fun _ _ _ => id).mono fun j hj _ => .inl hj
theorem pair_calls (P : Nat → Prop) (k : Int) (a b : CT) (ca cb : List Value) (w : World) (ha : CAt P w ca a) (hb : CAt P w cb b) :
    Calls Tryz.prog 162 #[.int .i64 k, .agg ca.toArray, .agg cb.toArray] w fun e w' => ∃ cs, e = .returned (.agg cs.toArray) ∧ CAt (fun j => P j ∨ w.heap.size ≤ j) w' cs (pairC k a b) ∧ Below w.heap.size w w' := by
  have hps : PartsAt P w (ca ++ cb) [a, b] := PartsAt.app ha.one hb.one
  have hps' := Lib.hid hps
  clear hps
  obtain ⟨pa, na, xa, rfl, hna⟩ := ha.form
  obtain ⟨pb, nb, xb, rfl, hnb⟩ := hb.form
  clear ha hb
  unfold strV at *
  go_enter Tryz.func162, Tryz.ntmps162
  go_wp2_with fail
  subst hna hnb
  generalize hA : Obj.cells #[Value.int .i64 a.kind, .int .i64 a.num, .string ⟨a.str.toArray⟩, .slice pa a.parts.length xa] 28 = A
  generalize hB : Obj.cells #[Value.int .i64 b.kind, .int .i64 b.num, .string ⟨b.str.toArray⟩, .slice pb b.parts.length xb] 28 = B
  have hk : Keeps (fun _ => False) w ((w.alloc A).alloc B) := ((Keeps.refl _ w).alloc A).alloc B
  have hsz : ((w.alloc A).alloc B).heap.size = w.heap.size + 1 + 1 := by rw [alloc_size, alloc_size]
  generalize (w.alloc A).alloc B = W2 at *
  have hr := Blk.new W2 28 #[.int .i64 k, .int .i64 0, .string ⟨#[]⟩, .slice (some ⟨w.heap.size + 1 + 1 + 1, 0, none⟩) 2 2]
  have hk3 := hk.alloc (.cells #[.int .i64 k, .int .i64 0, .string ⟨#[]⟩, .slice (some ⟨w.heap.size + 1 + 1 + 1, 0, none⟩) 2 2] 28)
  have hsz3 := alloc_size W2 (.cells #[.int .i64 k, .int .i64 0, .string ⟨#[]⟩, .slice (some ⟨w.heap.size + 1 + 1 + 1, 0, none⟩) 2 2] 28)
  rw [hsz] at hr hsz3
  generalize W2.alloc (.cells #[.int .i64 k, .int .i64 0, .string ⟨#[]⟩, .slice (some ⟨w.heap.size + 1 + 1 + 1, 0, none⟩) 2 2] 28) = W3 at *
  have hD := Blk.new W3 28 #[Value.int .i64 a.kind, .int .i64 a.num, .string ⟨a.str.toArray⟩, .slice pa a.parts.length xa, .int .i64 b.kind, .int .i64 b.num, .string ⟨b.str.toArray⟩, .slice pb b.parts.length xb]
  have hr4 := hr.alloc (.cells #[Value.int .i64 a.kind, .int .i64 a.num, .string ⟨a.str.toArray⟩, .slice pa a.parts.length xa, .int .i64 b.kind, .int .i64 b.num, .string ⟨b.str.toArray⟩, .slice pb b.parts.length xb] 28)
  have hk4 := hk3.alloc (.cells #[Value.int .i64 a.kind, .int .i64 a.num, .string ⟨a.str.toArray⟩, .slice pa a.parts.length xa, .int .i64 b.kind, .int .i64 b.num, .string ⟨b.str.toArray⟩, .slice pb b.parts.length xb] 28)
  rw [hsz3] at hD
  generalize W3.alloc (.cells #[Value.int .i64 a.kind, .int .i64 a.num, .string ⟨a.str.toArray⟩, .slice pa a.parts.length xa, .int .i64 b.kind, .int .i64 b.num, .string ⟨b.str.toArray⟩, .slice pb b.parts.length xb] 28) = W4 at *
  have c5 := hr4.cell
  refine bodyPost_ret (v := .agg #[.int .i64 k, .int .i64 0, .string ⟨#[]⟩, .slice (some ⟨w.heap.size + 1 + 1 + 1, 0, none⟩) 2 2]) (by simp [results, Tryz.results162, go_sem, c5]) rfl ?_
  exact ⟨_, rfl, CAt.row (ps := [a, b]) hD (by omega) hps'.out hk4 k 0 [], hk4.below (fun _ _ e => e.elim) (Nat.le_refl _)⟩
theorem not_calls (P : Nat → Prop) (a : CT) (ca : List Value) (w : World) (ha : CAt P w ca a) :
    Calls Tryz.prog 152 #[.agg ca.toArray] w fun e w' => ∃ cs, e = .returned (.agg cs.toArray) ∧ CAt (fun j => P j ∨ w.heap.size ≤ j) w' cs (notC a) ∧ Below w.heap.size w w' := by
  have hps' := Lib.hid ha.one
  obtain ⟨pa, na, xa, rfl, hna⟩ := ha.form
  clear ha
  unfold strV at *
  go_enter Tryz.func152, Tryz.ntmps152
  go_wp2_with fail
  subst hna
  generalize hA : Obj.cells #[Value.int .i64 a.kind, .int .i64 a.num, .string ⟨a.str.toArray⟩, .slice pa a.parts.length xa] 28 = A
  have hk : Keeps (fun _ => False) w (w.alloc A) := (Keeps.refl _ w).alloc A
  have hsz : (w.alloc A).heap.size = w.heap.size + 1 := by rw [alloc_size]
  generalize hW : w.alloc A = W2 at *
  have hr := Blk.new W2 28 #[.int .i64 6, .int .i64 0, .string ⟨#[]⟩, .slice (some ⟨w.heap.size + 1 + 1, 0, none⟩) 1 1]
  have hk3 := hk.alloc (.cells #[.int .i64 6, .int .i64 0, .string ⟨#[]⟩, .slice (some ⟨w.heap.size + 1 + 1, 0, none⟩) 1 1] 28)
  have hsz3 := alloc_size W2 (.cells #[.int .i64 6, .int .i64 0, .string ⟨#[]⟩, .slice (some ⟨w.heap.size + 1 + 1, 0, none⟩) 1 1] 28)
  rw [hsz] at hr hsz3
  generalize W2.alloc (.cells #[.int .i64 6, .int .i64 0, .string ⟨#[]⟩, .slice (some ⟨w.heap.size + 1 + 1, 0, none⟩) 1 1] 28) = W3 at *
  have hD := Blk.new W3 28 #[Value.int .i64 a.kind, .int .i64 a.num, .string ⟨a.str.toArray⟩, .slice pa a.parts.length xa]
  rw [hA] at *
  have hr4 := hr.alloc A
  have hk4 := hk3.alloc A
  rw [hsz3] at hD
  generalize W3.alloc A = W4 at *
  have c5 := hr4.cell
  refine bodyPost_ret (v := .agg #[.int .i64 6, .int .i64 0, .string ⟨#[]⟩, .slice (some ⟨w.heap.size + 1 + 1, 0, none⟩) 1 1]) (by simp [results, Tryz.results152, go_sem, c5]) rfl ?_
  exact ⟨_, rfl, CAt.row (ps := [a]) hD (by omega) hps'.out hk4 6 0 [], hk4.below (fun _ _ e => e.elim) (Nat.le_refl _)⟩
end Go.Proofs.YtdfgbkilaepolaaGreatDoor
namespace Go.Proofs.YtdfgbkilaepolaaGreatDoor
theorem tokN_pos {p : Nat} {t : List UInt8} (h : 2 ≤ (tokAt p t).sort) : 1 ≤ tokN t := by
  have := (tokH_facts (t.drop (blankN t))).2.2.2.2 h
  unfold tokN; omega
theorem lexF_more : ∀ (f g p : Nat) (t : List UInt8), t.length < f → t.length < g → lexF f p t = lexF g p t
  | 0, _, _, _, h, _ => by omega
  | _ + 1, 0, _, _, _, h => by omega
  | f + 1, g + 1, p, t, hf, hg => by
    show (tokAt p t :: if (tokAt p t).sort ≤ 1 then [] else lexF f (p + tokN t) (t.drop (tokN t))) = (tokAt p t :: if (tokAt p t).sort ≤ 1 then [] else lexF g (p + tokN t) (t.drop (tokN t)))
    by_cases h : (tokAt p t).sort ≤ 1
    · rw [if_pos h, if_pos h]
    · have hpos := tokN_pos (p := p) (t := t) (by omega)
      have := tokN_le t
      rw [if_neg h, if_neg h, lexF_more f g _ _ (by rw [List.length_drop]; omega) (by rw [List.length_drop]; omega)]
theorem lex_next {p : Nat} {t : List UInt8} (h : 2 ≤ (tokAt p t).sort) : lex p t = tokAt p t :: lex (p + tokN t) (t.drop (tokN t)) := by
  have hpos := tokN_pos h
  have := tokN_le t
  show (tokAt p t :: if (tokAt p t).sort ≤ 1 then [] else lexF t.length (p + tokN t) (t.drop (tokN t))) = _
  rw [if_neg (by omega), lexF_more t.length _ _ _ (by rw [List.length_drop]; omega) (Nat.lt_succ_self _)]; rfl
theorem lex_end {p : Nat} {t : List UInt8} (h : (tokAt p t).sort ≤ 1) : lex p t = [tokAt p t] := by
  show (tokAt p t :: if (tokAt p t).sort ≤ 1 then [] else lexF t.length (p + tokN t) (t.drop (tokN t))) = _
  rw [if_pos h]
theorem lexF_len : ∀ (f p : Nat) (t : List UInt8), t.length < f → (lexF f p t).length ≤ t.length + 1
  | 0, _, _, h => by omega
  | f + 1, p, t, hf => by
    show (tokAt p t :: if (tokAt p t).sort ≤ 1 then [] else lexF f (p + tokN t) (t.drop (tokN t))).length ≤ _
    by_cases h : (tokAt p t).sort ≤ 1
    · rw [if_pos h]; simp
    · have hpos := tokN_pos (p := p) (t := t) (by omega)
      have := tokN_le t
      have := lexF_len f (p + tokN t) (t.drop (tokN t)) (by rw [List.length_drop]; omega)
      rw [if_neg h, List.length_cons]
      rw [List.length_drop] at this; omega
theorem lex_len (p : Nat) (t : List UInt8) : (lex p t).length ≤ t.length + 1 := lexF_len _ _ _ (Nat.lt_succ_self _)
theorem lex_wf (p : Nat) (t : List UInt8) : WF (lex p t) := (lexF_facts _ _ _ (Nat.lt_succ_self _)).1
theorem tokH_dig {c : UInt8} {r : List UInt8} (h : isDig c = true) : tokH (c :: r) = (4, (c :: r).take (spanN isDig (c :: r)), spanN isDig (c :: r)) := by
  unfold tokH; simp only; rw [if_pos h]
theorem tokH_let {c : UInt8} {r : List UInt8} (h0 : isDig c = false) (h : isLet c = true) : tokH (c :: r) = (3, (c :: r).take (spanN isWrd (c :: r)), spanN isWrd (c :: r)) := by
  unfold tokH; simp only; rw [if_neg (by rw [h0]; decide), if_pos h]
theorem tokH_quo {r : List UInt8} (h : r[spanN isQuo r]? = some 39) : tokH (39 :: r) = (5, r.take (spanN isQuo r), spanN isQuo r + 2) := by
  unfold tokH; simp only; rw [if_neg (by decide), if_neg (by decide), if_pos (by decide), if_pos h]
theorem tokH_odd {r : List UInt8} (h : r[spanN isQuo r]? ≠ some 39) : tokH (39 :: r) = (0, [], 1) := by
  unfold tokH; simp only; rw [if_neg (by decide), if_neg (by decide), if_pos (by decide), if_neg h]
theorem tokH_two {c : UInt8} {r : List UInt8} (h0 : isDig c = false) (h1 : isLet c = false) (h2 : c ≠ 39) (h : two (c :: r) = true) : tokH (c :: r) = (2, (c :: r).take 2, 2) := by
  unfold tokH; simp only; rw [if_neg (by rw [h0]; decide), if_neg (by rw [h1]; decide), if_neg (by simpa using h2), if_pos h]
theorem tokH_mark {c : UInt8} {r : List UInt8} (h0 : isDig c = false) (h1 : isLet c = false) (h2 : c ≠ 39) (h3 : two (c :: r) = false) (h : marks1.contains c = true) : tokH (c :: r) = (2, [c], 1) := by
  unfold tokH; simp only; rw [if_neg (by rw [h0]; decide), if_neg (by rw [h1]; decide), if_neg (by simpa using h2), if_neg (by rw [h3]; decide), if_pos h]
theorem tokH_none {c : UInt8} {r : List UInt8} (h0 : isDig c = false) (h1 : isLet c = false) (h2 : c ≠ 39) (h3 : two (c :: r) = false) (h : marks1.contains c = false) : tokH (c :: r) = (0, [], 1) := by
  unfold tokH; simp only; rw [if_neg (by rw [h0]; decide), if_neg (by rw [h1]; decide), if_neg (by simpa using h2), if_neg (by rw [h3]; decide), if_neg (by rw [h]; decide)]
end Go.Proofs.YtdfgbkilaepolaaGreatDoor
