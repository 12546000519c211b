/- What is decoded and what it makes of a version keeps its bounds. No program in sight. Walks: files' names. Walks: what a name tells. A disk that lies behind a world, told in the document's words: the calls on it. Which version a disk's files tell. Files laid on a disk, and those that don't count taken away. No program in sight. -/
import Derived.Test.YtabcdodjkfknlaaGreatDoorPL13
import Derived.Test.YtabcdodjkfknlaaGreatDoorPL14
import Derived.Test.YtabcdodjkfknlaaGreatDoorShelfB
import Derived.Test.YtabcdodjkfknlaaGreatDoorPL06
import Derived.Test.YtabcdodjkfknlaaGreatDoorPL01
import Derived.Lib.AppendIntMem
import Derived.Lib.AtoiErrMem
import Derived.Test.YtabcdodjkfknlaaGreatDoorPL05
import Derived.Test.YtabcdodjkfknlaaGreatDoorPL07
namespace Go.Proofs.YtabcdodjkfknlaaGreatDoor
open Go.RowKit
/-- an edit's numbers are the language's; no more tables, no more drops than n -/
structure Edt.good (e : Edt) (n : Nat) : Prop where
  add : e.add.length ≤ n
  drop : e.drop.length ≤ n
  lang : ∀ t ∈ e.add, t.lang
  langI : ∀ t ∈ e.drop, -9223372036854775808 ≤ t ∧ t < 9223372036854775808
  nums : e.floor < 18446744073709551616 ∧ e.head < 18446744073709551616 ∧ -9223372036854775808 ≤ e.log ∧ e.log < 9223372036854775808 ∧ -9223372036854775808 ≤ e.next ∧ e.next < 9223372036854775808
structure Ver.good (v : Ver) (n : Nat) : Prop where
  tables : v.tables.length ≤ n
  lang : ∀ t ∈ v.tables, t.lang
  nums : v.floor < 18446744073709551616 ∧ v.head < 18446744073709551616 ∧ -9223372036854775808 ≤ v.log ∧ v.log < 9223372036854775808 ∧ -9223372036854775808 ≤ v.next ∧ v.next < 9223372036854775808
theorem small_bd (r : Rdr) : 0 ≤ r.small ∧ r.small < 4611686018427387904 := by
  unfold Rdr.small
  split <;> omega
theorem tbl_lang (r : Rdr) : r.tbl.lang := by
  have h1 := small_bd r
  have h2 := small_bd r.smallR
  have h3 := small_bd r.smallR.smallR
  unfold Tbl.lang Rdr.tbl
  simp only
  omega
theorem many_mem {α : Type} {f : Rdr → Rdr} {g : Rdr → α} : ∀ {n : Nat} {r : Rdr} {x : α}, x ∈ Rdr.many f g n r → ∃ r', x = g r'
  | 0, r, x, h => by cases h
  | n + 1, r, x, h => by
    unfold Rdr.many at h
    split at h
    · cases h
    · rcases List.mem_cons.1 h with e | e
      · exact ⟨r, e⟩
      · exact many_mem e
theorem manyR_bad {f : Rdr → Rdr} {n : Nat} {r : Rdr} (h : r.e ≠ 0) : Rdr.manyR f n r = r := by
  cases n with
  | zero => rfl
  | succ n => unfold Rdr.manyR; rw [if_pos h]
theorem many_len {α : Type} {f : Rdr → Rdr} {g : Rdr → α} (hf : ∀ r, (f r).e = 0 → (f r).l.length < r.l.length) : ∀ {n : Nat} {r : Rdr}, (Rdr.manyR f n r).e = 0 → (Rdr.many f g n r).length + (Rdr.manyR f n r).l.length ≤ r.l.length ∧ r.e = 0
  | 0, r, h => ⟨by simp [Rdr.many, Rdr.manyR], h⟩
  | n + 1, r, h => by
    by_cases h0 : r.e ≠ 0
    · rw [manyR_bad h0] at h; exact absurd h h0
    · have h1 : Rdr.manyR f (n + 1) r = Rdr.manyR f n (f r) := by show (if r.e ≠ 0 then r else _) = _; rw [if_neg h0]
      have h2 : Rdr.many f g (n + 1) r = g r :: Rdr.many f g n (f r) := by show (if r.e ≠ 0 then [] else _) = _; rw [if_neg h0]
      rw [h1] at h ⊢
      rw [h2]
      obtain ⟨h3, h4⟩ := many_len (g := g) hf h
      have h5 := hf r h4
      refine ⟨by rw [List.length_cons]; omega, by simpa using h0⟩
theorem Edt.zero_good (n : Nat) : Edt.zero.good n := ⟨Nat.zero_le _, Nat.zero_le _, fun _ h => (by cases h), fun _ h => (by cases h), by decide⟩
theorem Ver.zero_good (n : Nat) : Ver.zero.good n := ⟨Nat.zero_le _, fun _ h => (by cases h), by decide⟩
theorem decodeE_good (l : List UInt8) : (decodeE l).1.good l.length := by
  obtain ⟨r0, h0⟩ : ∃ r0, Rdr.mk l 0 = r0 := ⟨_, rfl⟩
  obtain ⟨r1, h1⟩ : ∃ r1, r0.timesR Rdr.tblR = r1 := ⟨_, rfl⟩
  obtain ⟨r2, h2⟩ : ∃ r2, r1.timesR Rdr.smallR = r2 := ⟨_, rfl⟩
  have hl : r0.l.length = l.length := by rw [← h0]
  have hd : decodeE l = if (if r2.numR.numR.smallR.smallR.l ≠ [] then r2.numR.numR.smallR.smallR.took 0 9 else r2.numR.numR.smallR.smallR).e ≠ 0 then (Edt.zero, (if r2.numR.numR.smallR.smallR.l ≠ [] then r2.numR.numR.smallR.smallR.took 0 9 else r2.numR.numR.smallR.smallR).e) else (⟨r0.times Rdr.tblR Rdr.tbl, r1.times Rdr.smallR Rdr.small, r2.num, r2.numR.num, r2.numR.numR.small, r2.numR.numR.smallR.small⟩, 0) := by
    rw [← h2, ← h1, ← h0]; rfl
  rw [hd]
  obtain ⟨q, hq⟩ : ∃ q, (if r2.numR.numR.smallR.smallR.l ≠ [] then r2.numR.numR.smallR.smallR.took 0 9 else r2.numR.numR.smallR.smallR) = q := ⟨_, rfl⟩
  rw [hq]
  by_cases he : q.e ≠ 0
  · rw [if_pos he]; exact Edt.zero_good _
  · rw [if_neg he]
    rw [← hq] at he
    have he2 : r2.numR.numR.smallR.smallR.e = 0 := by
      by_cases hb : r2.numR.numR.smallR.smallR.l ≠ []
      · rw [if_pos hb] at he
        have he' : (r2.numR.numR.smallR.smallR.took 0 9).e = 0 := by simpa using he
        obtain ⟨_, h, _⟩ := took_e he'
        exact absurd h (by decide)
      · rw [if_neg hb] at he; simpa using he
    have e2 : r2.e = 0 := (numR_lt (numR_lt (smallR_lt (smallR_lt he2).1).1).1).1
    have e3 : (Rdr.manyR Rdr.smallR r1.num r1.numR).e = 0 := by rw [← h2] at e2; exact e2
    obtain ⟨a1, a2⟩ := many_len (f := Rdr.smallR) (g := Rdr.small) (fun r h => (smallR_lt h).2) e3
    have e1 : r1.e = 0 := (numR_lt a2).1
    have e4 : (Rdr.manyR Rdr.tblR r0.num r0.numR).e = 0 := by rw [← h1] at e1; exact e1
    obtain ⟨b1, b2⟩ := many_len (f := Rdr.tblR) (g := Rdr.tbl) (fun r h => tblR_lt h) e4
    have c1 := numR_le r0
    have c2 := numR_le r1
    have c3 : (Rdr.manyR Rdr.tblR r0.num r0.numR).l.length = r1.l.length := by rw [← h1]; rfl
    refine ⟨?_, ?_, ?_, ?_, ?_⟩
    · show (Rdr.many Rdr.tblR Rdr.tbl r0.num r0.numR).length ≤ _; omega
    · show (Rdr.many Rdr.smallR Rdr.small r1.num r1.numR).length ≤ _; omega
    · intro t ht
      obtain ⟨r', rfl⟩ := many_mem ht
      exact tbl_lang r'
    · intro t ht
      obtain ⟨r', rfl⟩ := many_mem ht
      have := small_bd r'
      omega
    · have f1 := num_lt r2
      have f2 := num_lt r2.numR
      have f3 := small_bd r2.numR.numR
      have f4 := small_bd r2.numR.numR.smallR
      show r2.num < _ ∧ r2.numR.num < _ ∧ _ ≤ r2.numR.numR.small ∧ r2.numR.numR.small < _ ∧ _ ≤ r2.numR.numR.smallR.small ∧ r2.numR.numR.smallR.small < _
      omega
theorem insT_perm : ∀ (s : List Tbl) (t : Tbl), (insT s t).Perm (t :: s)
  | [], t => List.Perm.refl _
  | u :: s, t => by
    unfold insT
    split
    · exact (List.Perm.cons u (insT_perm s t)).trans (List.Perm.swap _ _ _)
    · exact List.Perm.refl _
theorem foldT_perm : ∀ (l s : List Tbl), (l.foldl insT s).Perm (s ++ l)
  | [], s => by simp
  | t :: l, s => (foldT_perm l (insT s t)).trans (((insT_perm s t).append_right l).trans List.perm_middle.symm)
theorem sortT_perm (l : List Tbl) : (sortT l).Perm l := foldT_perm l []
theorem dropT_sub : ∀ {ns : List Int} {l l' : List Tbl}, dropT l ns = some l' → l'.length ≤ l.length ∧ ∀ t ∈ l', t ∈ l
  | [], l, l', h => by obtain rfl := Option.some.inj h; exact ⟨Nat.le_refl _, fun _ h => h⟩
  | n :: ns, l, l', h => by
    unfold dropT at h
    split at h
    · obtain ⟨h1, h2⟩ := dropT_sub h
      exact ⟨Nat.le_trans h1 (List.length_filter_le _ _), fun t ht => (List.mem_filter.1 (h2 t ht)).1⟩
    · cases h
theorem addT_eq : ∀ {ts l l' : List Tbl}, addT l ts = some l' → l' = l ++ ts
  | [], l, l', h => by obtain rfl := Option.some.inj h; simp
  | t :: ts, l, l', h => by
    unfold addT at h
    split at h
    · cases h
    · rw [addT_eq h, List.append_assoc]; rfl
theorem applyV_good {v : Ver} {e : Edt} {n m : Nat} (hv : v.good n) (he : e.good m) : (applyV v e).1.good (n + m) := by
  unfold applyV
  split
  · exact Ver.zero_good _
  · split
    · exact Ver.zero_good _
    · split
      · exact Ver.zero_good _
      · rename_i l hd
        split
        · exact Ver.zero_good _
        · rename_i l' ha
          split
          · exact Ver.zero_good _
          · obtain ⟨d1, d2⟩ := dropT_sub hd
            obtain rfl := addT_eq ha
            have hp := sortT_perm (l ++ e.add)
            obtain ⟨a1, a2, a3, a4, a5, a6⟩ := hv.nums
            obtain ⟨b1, b2, b3, b4, b5, b6⟩ := he.nums
            refine ⟨?_, ?_, ?_⟩
            · show (sortT (l ++ e.add)).length ≤ _
              rw [hp.length_eq, List.length_append]
              have := hv.tables
              have := he.add
              omega
            · intro t ht
              rcases List.mem_append.1 (hp.mem_iff.1 ht) with h | h
              · exact hv.lang t (d2 t h)
              · exact he.lang t h
            · show max v.floor e.floor < _ ∧ max v.head e.head < _ ∧ _ ≤ max v.log e.log ∧ max v.log e.log < _ ∧ _ ≤ max v.next e.next ∧ max v.next e.next < _
              omega
theorem nextL_len {b : List UInt8} (h : (nextL b).1 = 0) : 8 + (nextL b).2.length ≤ b.length := by
  unfold nextL at h ⊢
  split at h
  · cases h
  · rename_i h1
    rw [if_neg h1]
    split at h
    · cases h
    · rename_i h2
      rw [if_neg h2]
      show 8 + ((b.drop 8).take (rd32 b)).length ≤ _
      rw [List.length_take, List.length_drop]
      omega
end Go.Proofs.YtabcdodjkfknlaaGreatDoor
namespace Go.Proofs.YtabcdodjkfknlaaGreatDoor
open Go.RowKit
/-- a library's error stands in a block -/
def ErrIn (g : Nat) (w : World) : Prop := ∃ ev, w.cell? ⟨g, 0, none⟩ = some ev ∧ (ev = .nilIface ∨ ∃ te pe, ev = .iface te pe)
/-- a world in which the library's variables stand -/
structure StdF (w : World) : Prop where
  tb : Lib.TabBelow Tryz.prog w.heap.size w "internal/strconv.uint64pow10" .u64 Lib.pow10Tab
  mx : ∃ m, w.cell? ⟨0, 0, none⟩ = some (.int .i64 m)
  er : ErrIn 2 w
  sy : ErrIn 1 w
theorem cellF_lt {w : World} {g i : Nat} {v : Value} (h : w.cell? ⟨g, i, none⟩ = some v) : g < w.heap.size := by
  rcases Nat.lt_or_ge g w.heap.size with hl | hl
  · exact hl
  · have : w.heap[g]? = none := Array.getElem?_eq_none hl
    simp [World.cell?, this] at h
theorem StdF.next {w w' : World} (h : StdF w) (hb : Below w.heap.size w w') : StdF w' := by
  obtain ⟨h1, ⟨m, h2⟩, ⟨e1, h3, h4⟩, ⟨e2, h5, h6⟩⟩ := h
  exact ⟨fun w2 h => h1 w2 (hb.trans (h.mono hb.size)), ⟨m, (hb.cell (cellF_lt h2)).trans h2⟩, ⟨e1, (hb.cell (cellF_lt h3)).trans h3, h4⟩, ⟨e2, (hb.cell (cellF_lt h5)).trans h5, h6⟩⟩
theorem StdF.tab {w : World} (h : StdF w) : Lib.TabIs Tryz.prog w "internal/strconv.uint64pow10" .u64 Lib.pow10Tab := h.tb w (Below.refl _ _)
theorem itoa_nat (n : Nat) : Lib.itoa (n : Int) = Lib.decDigits n := by
  unfold Lib.itoa
  rw [if_neg (by omega)]
  rfl
theorem dec_len (b : Nat) : ∀ m : Nat, m < 10 ^ (b + 1) → (Lib.decDigits m).length ≤ b + 1 := by
  induction b with
  | zero => intro m hm; rw [Lib.decDigits, dif_pos (by omega)]; simp
  | succ b ih =>
    intro m hm
    rw [Lib.decDigits]
    by_cases h : m < 10
    · rw [dif_pos h]; simp
    · rw [dif_neg h, List.length_append]
      have := ih (m / 10) (by omega)
      simp; omega
theorem itoa_calls (n : Nat) (w : World) (hn : n ≤ 999999999) (hs : StdF w) :
    Calls Tryz.prog 37 #[.int .i64 n] w fun e w' => e = .returned (.string ⟨(Lib.decDigits n).toArray⟩) ∧ Below w.heap.size w w' := by
  have P := Tryz.strconv_Itoa n (by omega) (by omega) w hs.tab
  rw [itoa_nat] at P
  refine P.mono ?_
  rintro e w1 ⟨rfl, k, os, rfl⟩
  exact ⟨rfl, Lib.below_grow w.heap.size w (Nat.le_refl _) k os⟩
theorem idx_kind (k : UInt8) : Lib.indexByte [116, 119, 109] k < 0 ↔ fkind k = false := by
  unfold fkind
  by_cases h1 : k = 116
  · subst h1; decide
  · by_cases h2 : k = 119
    · subst h2; decide
    · by_cases h3 : k = 109
      · subst h3; decide
      · have e1 : ((116 : UInt8) == k) = false := by simpa using fun h : (116 : UInt8) = k => h1 h.symm
        have e2 : ((119 : UInt8) == k) = false := by simpa using fun h : (119 : UInt8) = k => h2 h.symm
        have e3 : ((109 : UInt8) == k) = false := by simpa using fun h : (109 : UInt8) = k => h3 h.symm
        simp [Lib.indexByte, e1, e2, e3, h1, h2, h3]
theorem idx_calls (k : UInt8) (w : World) : Calls Tryz.prog 36 #[.string ⟨#[116, 119, 109]⟩, .int .u8 k.toNat] w fun e w' => e = .returned (.int .i64 (Lib.indexByte [116, 119, 109] k)) ∧ w = w' := by
  refine (Tryz.strings_IndexByte ⟨#[116, 119, 109]⟩ k.toNat w).mono ?_
  rintro e w' ⟨rfl, rfl⟩
  have : ((k.toNat : Int).toNat.toUInt8) = k := by simp
  rw [this]
  exact ⟨rfl, rfl⟩
set_option maxHeartbeats 1000000 in
set_option maxRecDepth 100000 in
theorem name116 (j : Int) (m : Nat) (D E : ByteArray) (w : World) (hI : Calls Tryz.prog 36 #[.string ⟨#[116, 119, 109]⟩, .int .u8 116] w fun e w' => e = .returned (.int .i64 j) ∧ w = w')
    (hT : Hid (Calls Tryz.prog 37 #[.int .i64 m] w fun e w' => e = .returned (.string D) ∧ Below w.heap.size w w')) (hsz : D.size ≤ 9) (t1 : ¬ j < 0) (t2 : ¬ (m : Int) < 1) (t3 : ¬ 999999999 < (m : Int)) (hcat : (⟨#[116]⟩ : ByteArray) ++ ⟨#[45]⟩ ++ D = E) :
    Calls Tryz.prog 11 #[.int .u8 116, .int .i64 m] w fun e w' => e = .returned (.string E) ∧ Below w.heap.size w w' := by
  have hI3 := Lib.hid hI
  have hcat' := Lib.hid hcat
  have he : Utf8.encode 116 = ⟨#[116]⟩ := by kernel_rfl
  clear hI hcat
  go_enter Tryz.func11, Tryz.ntmps11
  go_wp2_with (first
    | (go_at_call 36; ((with_reducible refine hI3.out.mono ?_); rintro e w1 ⟨rfl, rfl⟩))
    | (go_at_call 37; ((with_reducible refine hT.out.mono ?_); rintro e w2 ⟨rfl, hb2⟩; have hb2' := Lib.hid hb2; clear hb2)))
  go_ret
  exact ⟨by rw [← hcat'.out]; rfl, hb2'.out⟩
set_option maxHeartbeats 1000000 in
set_option maxRecDepth 100000 in
theorem name119 (j : Int) (m : Nat) (D E : ByteArray) (w : World) (hI : Calls Tryz.prog 36 #[.string ⟨#[116, 119, 109]⟩, .int .u8 119] w fun e w' => e = .returned (.int .i64 j) ∧ w = w')
    (hT : Hid (Calls Tryz.prog 37 #[.int .i64 m] w fun e w' => e = .returned (.string D) ∧ Below w.heap.size w w')) (hsz : D.size ≤ 9) (t1 : ¬ j < 0) (t2 : ¬ (m : Int) < 1) (t3 : ¬ 999999999 < (m : Int)) (hcat : (⟨#[119]⟩ : ByteArray) ++ ⟨#[45]⟩ ++ D = E) :
    Calls Tryz.prog 11 #[.int .u8 119, .int .i64 m] w fun e w' => e = .returned (.string E) ∧ Below w.heap.size w w' := by
  have hI3 := Lib.hid hI
  have hcat' := Lib.hid hcat
  have he : Utf8.encode 119 = ⟨#[119]⟩ := by kernel_rfl
  clear hI hcat
  go_enter Tryz.func11, Tryz.ntmps11
  go_wp2_with (first
    | (go_at_call 36; ((with_reducible refine hI3.out.mono ?_); rintro e w1 ⟨rfl, rfl⟩))
    | (go_at_call 37; ((with_reducible refine hT.out.mono ?_); rintro e w2 ⟨rfl, hb2⟩; have hb2' := Lib.hid hb2; clear hb2)))
  go_ret
  exact ⟨by rw [← hcat'.out]; rfl, hb2'.out⟩
set_option maxHeartbeats 1000000 in
set_option maxRecDepth 100000 in
theorem name109 (j : Int) (m : Nat) (D E : ByteArray) (w : World) (hI : Calls Tryz.prog 36 #[.string ⟨#[116, 119, 109]⟩, .int .u8 109] w fun e w' => e = .returned (.int .i64 j) ∧ w = w')
    (hT : Hid (Calls Tryz.prog 37 #[.int .i64 m] w fun e w' => e = .returned (.string D) ∧ Below w.heap.size w w')) (hsz : D.size ≤ 9) (t1 : ¬ j < 0) (t2 : ¬ (m : Int) < 1) (t3 : ¬ 999999999 < (m : Int)) (hcat : (⟨#[109]⟩ : ByteArray) ++ ⟨#[45]⟩ ++ D = E) :
    Calls Tryz.prog 11 #[.int .u8 109, .int .i64 m] w fun e w' => e = .returned (.string E) ∧ Below w.heap.size w w' := by
  have hI3 := Lib.hid hI
  have hcat' := Lib.hid hcat
  have he : Utf8.encode 109 = ⟨#[109]⟩ := by kernel_rfl
  clear hI hcat
  go_enter Tryz.func11, Tryz.ntmps11
  go_wp2_with (first
    | (go_at_call 36; ((with_reducible refine hI3.out.mono ?_); rintro e w1 ⟨rfl, rfl⟩))
    | (go_at_call 37; ((with_reducible refine hT.out.mono ?_); rintro e w2 ⟨rfl, hb2⟩; have hb2' := Lib.hid hb2; clear hb2)))
  go_ret
  exact ⟨by rw [← hcat'.out]; rfl, hb2'.out⟩
set_option maxHeartbeats 1000000 in
set_option maxRecDepth 100000 in
theorem name_calls (k : UInt8) (n : Int) (w : World) (h1 : -9223372036854775808 ≤ n) (h2 : n < 9223372036854775808) (hs : StdF w) :
    Calls Tryz.prog 11 #[.int .u8 k.toNat, .int .i64 n] w fun e w' => e = .returned (.string ⟨(fname k n.toNat).toArray⟩) ∧ Below w.heap.size w w' := by
  have hI := idx_calls k w
  have hk := idx_kind k
  obtain ⟨j, hj⟩ : ∃ j, Lib.indexByte [116, 119, 109] k = j := ⟨_, rfl⟩
  rw [hj] at hI hk
  have hI' := Lib.hid hI
  clear hI
  by_cases hbad : fkind k = false ∨ n < 1 ∨ 999999999 < n
  · have hf : fname k n.toNat = [] := by
      unfold fname
      rw [if_neg]
      rintro ⟨a, b, c⟩
      rw [a] at hbad
      rcases hbad with h | h | h
      · cases h
      · omega
      · omega
    rw [hf]
    clear hf hj
    by_cases ha : fkind k = false
    · have t1 : j < 0 := hk.2 ha
      clear hbad hk ha
      go_enter Tryz.func11, Tryz.ntmps11
      go_wp2_with (go_at_call 36; ((with_reducible refine hI'.out.mono ?_); rintro e w1 ⟨rfl, rfl⟩))
      go_ret
      exact ⟨rfl, Below.refl _ _⟩
    · have t1 : ¬ j < 0 := fun h => ha (hk.1 h)
      clear hk
      by_cases hb : n < 1
      · clear hbad ha
        go_enter Tryz.func11, Tryz.ntmps11
        go_wp2_with (go_at_call 36; ((with_reducible refine hI'.out.mono ?_); rintro e w1 ⟨rfl, rfl⟩))
        go_ret
        exact ⟨rfl, Below.refl _ _⟩
      · have t2 : 999999999 < n := by
          rcases hbad with h | h | h
          · exact absurd h ha
          · exact absurd h hb
          · exact h
        clear hbad ha
        go_enter Tryz.func11, Tryz.ntmps11
        go_wp2_with (go_at_call 36; ((with_reducible refine hI'.out.mono ?_); rintro e w1 ⟨rfl, rfl⟩))
        go_ret
        exact ⟨rfl, Below.refl _ _⟩
  · have ha : fkind k = true := by cases h : fkind k with | true => rfl | false => exact absurd (.inl h) hbad
    have hb : 1 ≤ n ∧ n ≤ 999999999 := by omega
    obtain ⟨m, rfl⟩ : ∃ m : Nat, n = (m : Int) := ⟨n.toNat, by omega⟩
    have t1 : ¬ j < 0 := fun h => by have := hk.1 h; rw [ha] at this; cases this
    have t2 : ¬ (m : Int) < 1 := by omega
    have t3 : ¬ 999999999 < (m : Int) := by omega
    have hf : fname k (m : Int).toNat = k :: 45 :: Lib.decDigits m := by
      unfold fname; rw [if_pos ⟨ha, by omega, by omega⟩]; rfl
    have hlen := dec_len 8 m (by omega)
    have hT := Lib.hid (itoa_calls m w (by omega) hs)
    have hsz : (⟨(Lib.decDigits m).toArray⟩ : ByteArray).size ≤ 9 := by rw [Lib.size_eq]; exact hlen
    rw [hf]
    have hcat : (⟨#[k]⟩ : ByteArray) ++ ⟨#[45]⟩ ++ ⟨(Lib.decDigits m).toArray⟩ = ⟨(k :: 45 :: Lib.decDigits m).toArray⟩ := by
      apply bytes_ext; simp
    generalize (⟨(Lib.decDigits m).toArray⟩ : ByteArray) = D at *
    have hcat' := Lib.hid hcat
    have hk3 : k = 116 ∨ k = 119 ∨ k = 109 := by
      unfold fkind at ha
      simp only [Bool.or_eq_true, beq_iff_eq] at ha
      rcases ha with (h | h) | h
      · exact .inl h
      · exact .inr (.inl h)
      · exact .inr (.inr h)
    clear hcat hf hlen hj hk ha hbad
    rcases hk3 with rfl | rfl | rfl
    · exact name116 j m D _ w hI'.out hT hsz t1 t2 t3 hcat'.out
    · exact name119 j m D _ w hI'.out hT hsz t1 t2 t3 hcat'.out
    · exact name109 j m D _ w hI'.out hT hsz t1 t2 t3 hcat'.out
end Go.Proofs.YtabcdodjkfknlaaGreatDoor
namespace Go.Proofs.YtabcdodjkfknlaaGreatDoor
open Go.RowKit
theorem atoi_calls (s : ByteArray) (w : World) (hs : s.size ≤ 10000000) (hw : StdF w) :
    Calls Tryz.prog 35 #[.string s] w fun e w' => Below w.heap.size w w' ∧ ((∃ v, Lib.atoiAll s.data.toList = .ok v ∧ e = .returned (.tuple #[.int .i64 v, .nilIface])) ∨ ((∀ v, Lib.atoiAll s.data.toList ≠ .ok v) ∧ ∃ n N, e = .returned (.tuple #[.int .i64 n, .iface 171 (.pointer (some ⟨N, 0, none⟩))]))) := by
  cases h : Lib.atoiAll s.data.toList with
  | ok v =>
    refine (Tryz.strconv_Atoi_ok s (by omega) v h w).mono ?_
    rintro e w' ⟨rfl, rfl | ⟨t, rfl⟩⟩
    · exact ⟨Below.refl _ _, .inl ⟨v, rfl, rfl⟩⟩
    · exact ⟨Lib.bytesWorld_below _ _ _, .inl ⟨v, rfl, rfl⟩⟩
  | range =>
    obtain ⟨ev, h1, h2⟩ := hw.er
    refine (Tryz.strconv_Atoi_range s (by omega) h ev w h1 h2).mono ?_
    rintro e w' ⟨N, rfl, _, _, hb⟩
    exact ⟨hb, .inr ⟨fun _ h => (nomatch h), _, N, rfl⟩⟩
  | _ =>
    obtain ⟨ev, h1, h2⟩ := hw.sy
    refine (Tryz.strconv_Atoi_bad s (by omega) (fun v e => by rw [h] at e; cases e) (fun e => by rw [h] at e; cases e) ev w h1 h2).mono ?_
    rintro e w' ⟨N, rfl, _, _, hb⟩
    exact ⟨hb, .inr ⟨fun _ e => (by cases e), _, N, rfl⟩⟩
theorem cut_calls (s : ByteArray) (w : World) (hs : s.size ≤ 10000000) (hw : StdF w) :
    Calls Tryz.prog 34 #[.string s, .string ⟨#[45]⟩] w fun e w' => e = .returned (.tuple #[.string ⟨(Lib.cut s.data.toList [45]).1.toArray⟩, .string ⟨(Lib.cut s.data.toList [45]).2.1.toArray⟩, .bool (Lib.cut s.data.toList [45]).2.2]) ∧ Below w.heap.size w w' := by
  obtain ⟨m, hm⟩ := hw.mx
  refine (Tryz.strings_Cut s ⟨#[45]⟩ m w (by omega) hm).mono ?_
  rintro e w' ⟨rfl, n, rfl⟩
  exact ⟨rfl, bdrewN (Below.refl _ _) n⟩
def numV (r : Option (UInt8 × Nat)) : Array Value := match r with | some (k, n) => #[.int .u8 k.toNat, .int .i64 n, .bool true] | none => #[.int .u8 0, .int .i64 0, .bool false]
theorem cut_len (l : List UInt8) : (Lib.cut l [45]).2.1.length ≤ l.length := by
  unfold Lib.cut
  split
  · simp only [List.length_drop]; omega
  · simp
theorem numP_parts (l a d : List UInt8) (o : Bool) (h1 : (Lib.cut l [45]).1 = a) (h2 : (Lib.cut l [45]).2.1 = d) (h3 : (Lib.cut l [45]).2.2 = o) : fnum l = numQ l a d o := by
  rw [← numP_eq]; unfold numP; rw [h1, h2, h3]
def NumPost_ (w : World) (l : List UInt8) (e : Ending) (w' : World) : Prop := e = .returned (.tuple (numV (fnum l))) ∧ Below w.heap.size w w'
set_option maxHeartbeats 1000000 in
set_option maxRecDepth 100000 in
theorem number_name_calls (s : ByteArray) (w : World) (hs : s.size ≤ 10000000) (hw : StdF w) :
    Calls Tryz.prog 9 #[.string s] w (NumPost_ w s.data.toList) := by
  have hC := cut_calls s w hs hw
  obtain ⟨a, ha⟩ : ∃ a, (Lib.cut s.data.toList [45]).1 = a := ⟨_, rfl⟩
  obtain ⟨d, hd⟩ : ∃ d, (Lib.cut s.data.toList [45]).2.1 = d := ⟨_, rfl⟩
  obtain ⟨o, ho⟩ : ∃ o, (Lib.cut s.data.toList [45]).2.2 = o := ⟨_, rfl⟩
  have hP := numP_parts _ a d o ha hd ho
  have hdl : d.length ≤ s.size := by rw [← hd, Lib.size_eq]; exact cut_len _
  rw [ha, hd, ho] at hC
  have hA := fun W hb => atoi_calls ⟨d.toArray⟩ W (by rw [Lib.size_eq]; exact Nat.le_trans hdl hs) (hw.next hb)
  have hdt : (⟨d.toArray⟩ : ByteArray).data.toList = d := by simp
  rw [hdt] at hA
  unfold NumPost_
  obtain ⟨R, hR⟩ : ∃ R, fnum s.data.toList = R := ⟨_, rfl⟩
  rw [hR] at hP ⊢
  have hC' := Lib.hid hC
  have hA' := Lib.hid hA
  have hw' := Lib.hid hw
  clear ha hd ho hdl hdt hC hA hw
  cases o with
  | false =>
    obtain rfl : R = none := hP.trans (numQ_no _ _ _)
    show Calls _ _ _ _ fun e w' => e = .returned (.tuple #[.int .u8 0, .int .i64 0, .bool false]) ∧ Below w.heap.size w w'
    clear hR hP
    go_enter Tryz.func9, Tryz.ntmps9
    go_wp2_with (first
      | (go_at_call 34; ((with_reducible refine hC'.out.mono ?_); rintro e w1 ⟨rfl, hb1⟩; have hb1' := Lib.hid hb1; clear hb1))
      | (go_at_call 35; ((with_reducible refine (hA'.out _ hb1'.out).mono ?_); rintro e w2 ⟨hb2, ⟨v, _, rfl⟩ | ⟨_, n, N, rfl⟩⟩ <;> have hb2' := Lib.hid (hb1'.out.trans (hb2.mono hb1'.out.size)) <;> clear hb2)))
    all_goals
      go_ret3
      exact ⟨rfl, hb2'.out⟩
  | true =>
    by_cases hl1 : a.length = 1
    · obtain ⟨k, rfl⟩ : ∃ k, a = [k] := List.length_eq_one_iff.1 hl1
      clear hl1
      go_enter Tryz.func9, Tryz.ntmps9
      go_wp2_with (first
        | (go_at_call 34; ((with_reducible refine hC'.out.mono ?_); rintro e w1 ⟨rfl, hb1⟩; have hb1' := Lib.hid hb1; clear hb1)))
      (with_reducible refine (hA'.out _ hb1'.out).mono ?_)
      rintro e w2 ⟨hb2, ⟨v, hv, rfl⟩ | ⟨hv, n, N, rfl⟩⟩
      · have hbd := Lib.atoiAll_bounds hv
        rw [numQ_ok _ _ hv] at hP
        have hb3 := hb1'.out.trans (hb2.mono hb1'.out.size)
        have hN := Lib.hid (name_calls k v w2 hbd.1 (by omega) (hw'.out.next hb3))
        have hb3' := Lib.hid hb3
        obtain ⟨F, hF⟩ : ∃ F, (⟨(fname k v.toNat).toArray⟩ : ByteArray) = F := ⟨_, rfl⟩
        rw [hF] at hN
        by_cases he : fname k v.toNat = s.data.toList
        · rw [if_pos he] at hP
          subst hP
          have hFs : F = s := by rw [← hF, he]
          subst hFs
          obtain ⟨n, rfl⟩ : ∃ n : Nat, v = (n : Int) := by
            refine ⟨v.toNat, ?_⟩
            have h1 : F.data.toList ≠ [] := by
              intro h0
              have : fname k v.toNat = [] := he.trans h0
              have hR2 := fnum_back hR
              exact hR2.2 h0
            have := (fname_form he h1).2.1
            omega
          clear hF he hv hA' hC' hb3 hb2 hR
          go_wp2_with (go_at_call 11; (refine hN.out.mono ?_; rintro e w4 ⟨rfl, hb4⟩; have hb4' := Lib.hid (hb3'.out.trans (hb4.mono hb3'.out.size)); clear hb4))
          go_ret3
          exact ⟨rfl, hb4'.out⟩
        · rw [if_neg he] at hP
          subst hP
          have hne : (F.toList == s.toList) = false := by
            rw [beq_eq_false_iff_ne]
            intro h
            rw [Lib.toList_data, Lib.toList_data, ← hF] at h
            exact he h
          clear hF he hv hA' hC' hb3 hb2 hR
          go_wp2_with (go_at_call 11; (refine hN.out.mono ?_; rintro e w4 ⟨rfl, hb4⟩; have hb4' := Lib.hid (hb3'.out.trans (hb4.mono hb3'.out.size)); clear hb4))
          go_ret3
          exact ⟨rfl, hb4'.out⟩
      · obtain rfl : R = none := hP.trans (numQ_err _ _ _ hv)
        have hb2' := Lib.hid (hb1'.out.trans (hb2.mono hb1'.out.size))
        clear hb2 hv hR hP hA' hC'
        go_wp2_with fail
        go_ret3
        exact ⟨rfl, hb2'.out⟩
    · obtain rfl : R = none := hP.trans (numQ_len _ _ _ hl1)
      have hA1 : (⟨a.toArray⟩ : ByteArray).size = a.length := by rw [Lib.size_eq]
      have t1 : ((a.length : Int) == 1) = false := by simp; omega
      show Calls _ _ _ _ fun e w' => e = .returned (.tuple #[.int .u8 0, .int .i64 0, .bool false]) ∧ Below w.heap.size w w'
      clear hR hP
      go_enter Tryz.func9, Tryz.ntmps9
      go_wp2_with (first
        | (go_at_call 34; ((with_reducible refine hC'.out.mono ?_); rintro e w1 ⟨rfl, hb1⟩; have hb1' := Lib.hid hb1; clear hb1))
        | (go_at_call 35; ((with_reducible refine (hA'.out _ hb1'.out).mono ?_); rintro e w2 ⟨hb2, ⟨v, _, rfl⟩ | ⟨_, n, N, rfl⟩⟩ <;> have hb2' := Lib.hid (hb1'.out.trans (hb2.mono hb1'.out.size)) <;> clear hb2)))
      all_goals
        go_ret3
        exact ⟨rfl, hb2'.out⟩
end Go.Proofs.YtabcdodjkfknlaaGreatDoor
namespace Go.Proofs.YtabcdodjkfknlaaGreatDoor
open Go.RowKit Go.Maps Go.Shelf
theorem burn_room (k : Dk) : k.burn.room = k.room := (Go.Proofs.YtabcdodjkfknlaaGreatDoor.burn_same k).2.2.2.2.1
theorem created_room (k : Dk) (f : Nat) (s : ByteArray) : (k.created f s).room ≤ k.room + 1 := by
  unfold Dk.created
  split
  · split
    · show (k.upd f ⟨[], 0⟩).burn.room + 1 ≤ _
      rw [burn_room]; exact Nat.le_refl _
    · rw [burn_room]; exact Nat.le_succ _
  · exact Nat.le_succ _
theorem apped_room (k : Dk) (s b : List UInt8) : (k.apped s b).room ≤ k.room + 1 := by
  unfold Dk.apped
  split
  · split
    · exact Nat.le_succ _
    · split
      · show k.burn.room + 1 ≤ _
        rw [burn_room]; exact Nat.le_refl _
      · rw [burn_room]; exact Nat.le_succ _
  · exact Nat.le_succ _
theorem synced_room (k : Dk) (s : List UInt8) : (k.synced s).room ≤ k.room := by
  unfold Dk.synced
  split
  · split
    · show k.burn.room ≤ _
      rw [burn_room]; exact Nat.le_refl _
    · rw [burn_room]; exact Nat.le_refl _
  · exact Nat.le_refl _
theorem syncedDir_room (k : Dk) : k.syncedDir.room ≤ k.room := by
  unfold Dk.syncedDir
  split
  · exact Nat.le_refl _
  · split
    · show k.burn.room ≤ _
      rw [burn_room]; exact Nat.le_refl _
    · rw [burn_room]; exact Nat.le_refl _
theorem did_room (k : Dk) (a : DAct) : (k.did a).room = k.room + 1 := by
  show k.burn.room + 1 = _
  rw [burn_room]
theorem renamed_room (k : Dk) (a b : ByteArray) : (k.renamed a b).room ≤ k.room + 1 := by
  unfold Dk.renamed
  split
  · split
    · split
      · rw [did_room]; exact Nat.le_refl _
      · rw [burn_room]; exact Nat.le_succ _
    · exact Nat.le_succ _
  · exact Nat.le_succ _
theorem removed_room (k : Dk) (a : ByteArray) : (k.removed a).room ≤ k.room + 1 := by
  unfold Dk.removed
  split
  · split
    · show (k.did ⟨a, ⟨#[]⟩, none⟩).room ≤ _
      rw [did_room]; exact Nat.le_refl _
    · rw [burn_room]; exact Nat.le_succ _
  · exact Nat.le_succ _
/-- the disk at block D is the document's r; at most m things were done to it -/
def At (w0 w : World) (D : Nat) (r : RD) (m : Nat) : Prop := ∃ k bl, Has w0 w D k ∧ Sim k r bl ∧ k.room ≤ m
section
variable {w0 w w1 w' : World} {D m : Nat} {r : RD}
theorem At.below (h : At w0 w D r m) : Below w0.heap.size w0 w := by obtain ⟨k, bl, h1, h2, h3⟩ := h; exact h1.below
theorem At.later (h : At w0 w D r m) (hb : Below w.heap.size w w1) : At w0 w1 D r m := by obtain ⟨k, bl, h1, h2, h3⟩ := h; exact ⟨k, bl, h1.later hb, h2, h3⟩
theorem new_at (cap : Int) (w : World) : Calls Tryz.prog 17 #[.int .i64 cap] w fun e w' => e = .returned (.pointer (some ⟨w.heap.size + 2, 0, none⟩)) ∧ At w w' (w.heap.size + 2) (RD.new cap) 0 :=
  (new_has cap w).mono fun _ _ ⟨h1, h2⟩ => ⟨h1, _, _, h2, Sim.new cap, Nat.le_refl _⟩
def NamesPost (w : World) (l : List (List UInt8)) (e : Ending) (w' : World) : Prop := ∃ v, e = .returned v ∧ w'.ownsRow w.heap.size 9 1 v l.length (l.map encStr) ∧ l.length ≤ 100000 ∧ Below w.heap.size w w'
theorem read_at (h : At w0 w D r m) (s : ByteArray) (hm : m ≤ 4000) (hs : s.size ≤ maxLen) : Calls Tryz.prog 59 #[.pointer (some ⟨D, 0, none⟩), .string s] w (ReadPost w (r.findE s.data.toList) (r.readB s.data.toList)) := by
  obtain ⟨k, bl, h1, h2, h3⟩ := h
  have := read_has h1 s (by omega) hs
  rw [h2.findE, h2.readB] at this
  exact this
end
end Go.Proofs.YtabcdodjkfknlaaGreatDoor
namespace Go.Proofs.YtabcdodjkfknlaaGreatDoor
open Go.RowKit
/-- what a manifest's bytes make of a version; whether any frame was read -/
def loadB (v : Ver) (s : Bool) (b : List UInt8) : Option (Ver × Bool) :=
  if h : (nextL b).1 = 0 then
    if (decodeE (nextL b).2).2 ≠ 0 then none else
    if (applyV v (decodeE (nextL b).2).1).2 ≠ 0 then none else
      loadB (applyV v (decodeE (nextL b).2).1).1 true (b.drop (8 + (nextL b).2.length))
  else some (v, s)
termination_by b.length
decreasing_by
  have := nextL_len h
  rw [List.length_drop]
  omega
theorem loadB_end {v : Ver} {s : Bool} {b : List UInt8} (h : (nextL b).1 ≠ 0) : loadB v s b = some (v, s) := by rw [loadB, dif_neg h]
theorem loadB_dec {v : Ver} {s : Bool} {b : List UInt8} (h : (nextL b).1 = 0) (hd : (decodeE (nextL b).2).2 ≠ 0) : loadB v s b = none := by rw [loadB, dif_pos h, if_pos hd]
theorem loadB_app {v : Ver} {s : Bool} {b : List UInt8} (h : (nextL b).1 = 0) (hd : (decodeE (nextL b).2).2 = 0) (ha : (applyV v (decodeE (nextL b).2).1).2 ≠ 0) : loadB v s b = none := by
  rw [loadB, dif_pos h, if_neg (by simpa using hd), if_pos ha]
theorem loadB_next {v : Ver} {s : Bool} {b : List UInt8} (h : (nextL b).1 = 0) (hd : (decodeE (nextL b).2).2 = 0) (ha : (applyV v (decodeE (nextL b).2).1).2 = 0) :
    loadB v s b = loadB (applyV v (decodeE (nextL b).2).1).1 true (b.drop (8 + (nextL b).2.length)) := by
  rw [loadB, dif_pos h, if_neg (by simpa using hd), if_neg (by simpa using ha)]
abbrev currentL : List UInt8 := [99, 117, 114, 114, 101, 110, 116]
abbrev freshL : List UInt8 := [99, 117, 114, 114, 101, 110, 116, 46, 110, 101, 119]
/-- what a manifest tells: its version and number, or an error -/
def loadM (n : Nat) (b : List UInt8) : Ver × Int × Int :=
  match loadB Ver.first false b with
  | some (v, true) => (v, (n : Int), 0)
  | _ => (Ver.zero, 0, 9)
/-- the version that counts -/
def loadR (r : RD) : Ver × Int × Int :=
  if r.findE currentL ≠ 0 then (Ver.zero, 0, r.findE currentL) else
  match fnum (r.readB currentL) with
  | some (k, n) => if k ≠ 109 then (Ver.zero, 0, 9) else if r.findE (r.readB currentL) ≠ 0 then (Ver.zero, 0, r.findE (r.readB currentL)) else loadM n (r.readB (r.readB currentL))
  | none => (Ver.zero, 0, 9)
/-- behind a seal of a whole version that version counts -/
theorem loadB_whole {v : Ver} (h : v.ok = true) (hf : v.whole.fits) (hl : v.whole.bytes.length < 4294967296) : loadB Ver.first false (sealL v.whole.bytes) = some (v, true) := by
  have hn : nextL (sealL v.whole.bytes) = (0, v.whole.bytes) := by have := next_seal hl []; rwa [List.append_nil] at this
  have h1 : (nextL (sealL v.whole.bytes)).1 = 0 := by rw [hn]
  have h2 : (nextL (sealL v.whole.bytes)).2 = v.whole.bytes := by rw [hn]
  have hd := decode_bytes hf
  have ha := apply_whole h
  rw [loadB_next h1 (by rw [h2, hd]) (by rw [h2, hd, ha]), h2, hd, ha]
  have hdr : (sealL v.whole.bytes).drop (8 + v.whole.bytes.length) = [] := List.drop_eq_nil_of_le (by rw [sealL_len]; exact Nat.le_refl _)
  rw [hdr, loadB_end]
  decide
def LoadPost (w : World) (x : Ver × Int × Int) (e : Ending) (w' : World) : Prop := ∃ v, e = .returned (.tuple #[v, .int .i64 x.2.1, .int .i64 x.2.2]) ∧ VerOwn w.heap.size w' v x.1 ∧ Below w.heap.size w w'
theorem VerOwn.is {B : Nat} {w : World} {v : Value} {x : Ver} {n : Nat} (h : VerOwn B w v x) (hg : x.good n) (hn : n ≤ 1000000) : VerIs w v x := by
  obtain ⟨sv, rfl, ho⟩ := h
  obtain ⟨p, c, rfl⟩ := ho.slice
  exact ⟨⟨p, c, rfl, ho.at_ rkT_ok⟩, Nat.le_trans hg.tables hn, hg.lang, hg.nums⟩
theorem EdtIs.at_ {B : Nat} {w : World} {v : Value} {x : Edt} {n : Nat} (h : EdtIs B w v x) (hg : x.good n) (hn : n ≤ 1000000) : EdtAt w v x := by
  obtain ⟨av, dv, rfl, ha, hd⟩ := h
  obtain ⟨p, c, rfl⟩ := ha.slice
  obtain ⟨p2, c2, rfl⟩ := hd.slice
  exact ⟨⟨p, c, p2, c2, rfl, ha.at_ rkT_ok, hd.at_ rkI_ok⟩, ⟨Nat.le_trans hg.add hn, Nat.le_trans hg.drop hn⟩, hg.lang, hg.langI, hg.nums⟩
end Go.Proofs.YtabcdodjkfknlaaGreatDoor
namespace Go.Proofs.YtabcdodjkfknlaaGreatDoor
open Go.RowKit
/-- a disk that is up, each file with at most c bytes -/
structure OkL (r : RD) (c : Nat) : Prop where
  ok : Okd r
  names : ∀ n ∈ r.dir, dName n.1 = true
  view : ∀ s l, r.view s = some l → l.length ≤ c
theorem OkL.new (cap : Int) : OkL (RD.new cap) 0 := ⟨Okd.new cap, fun n h => (by cases h), fun s l h => (by cases h)⟩
theorem OkL.more {r : RD} {c d : Nat} (h : OkL r c) (hd : c ≤ d) : OkL r d := ⟨h.ok, h.names, fun s l e => Nat.le_trans (h.view s l e) hd⟩
theorem Okd.bad {r : RD} (h : Okd r) {s : List UInt8} (hs : dName s = false) : r.findE s = 2 := by
  unfold RD.findE
  rw [h.may, hs]
  rfl
theorem Okd.name {r : RD} (h : Okd r) {s : List UInt8} (he : r.findE s = 0 ∨ r.findE s = 4) : dName s = true := by
  cases hs : dName s with
  | true => rfl
  | false => rw [h.bad hs] at he; rcases he with h | h <;> cases h
theorem OkL.readB {r : RD} {c : Nat} (h : OkL r c) (s : List UInt8) : (r.readB s).length ≤ c := by
  by_cases he : r.findE s = 0
  · have hs := h.ok.name (.inl he)
    cases hv : r.view s with
    | none => have := (h.ok.miss hs hv).1; rw [he] at this; cases this
    | some l => rw [h.ok.readB hs hv]; exact h.view s l hv
  · unfold RD.readB; rw [if_neg he]; exact Nat.zero_le _
theorem OkL.create {r : RD} {c : Nat} (h : OkL r c) (s : List UInt8) : OkL (r.create s) c := by
  by_cases he : r.findE s = 4
  · have hs := h.ok.name (.inr he)
    have hv : r.view s = none := by
      cases hv : r.view s with
      | none => rfl
      | some l => have := (h.ok.find hs hv).1; rw [he] at this; cases this
    obtain ⟨_, h1, h2, _, _⟩ := h.ok.create hs hv
    have hne := dName_nil hs
    have hd : (r.create s).dir = rset r.dir s (some r.files.length) := by
      unfold RD.create
      rw [if_pos he, h.ok.burns, if_pos rfl]
      unfold RD.act
      rw [h.ok.burn]
      show rdone r.dir ⟨[], s, r.files.length⟩ = _
      unfold rdone; rw [if_neg hne, if_pos rfl]
    refine ⟨h1, fun n hn => ?_, fun t l e => ?_⟩
    · rw [hd] at hn
      rcases rset_mem h.ok.sd hn with h' | ⟨h', _⟩
      · exact h.names n h'
      · rw [h']; exact hs
    · rw [h2] at e
      split at e
      · obtain rfl := Option.some.inj e; exact Nat.zero_le _
      · exact h.view t l e
  · unfold RD.create; rw [if_neg he]; exact h
theorem OkL.append {r : RD} {c : Nat} (h : OkL r c) (s b : List UInt8) : OkL (r.append s b) (c + b.length) := by
  by_cases he : r.findE s = 0
  · by_cases hb : r.cap < r.used + b.length
    · unfold RD.append; rw [if_pos he, if_pos hb]; exact h.more (by omega)
    · have hs := h.ok.name (.inl he)
      cases hv : r.view s with
      | none => have := (h.ok.miss hs hv).1; rw [he] at this; cases this
      | some l =>
        obtain ⟨_, h1, h2, _, _⟩ := h.ok.append (b := b) hs hv (by omega)
        have hd : (r.append s b).dir = r.dir := by
          unfold RD.append
          rw [if_pos he, if_neg hb, h.ok.burns, if_pos rfl, h.ok.burn]
        refine ⟨h1, fun n hn => ?_, fun t m e => ?_⟩
        · rw [hd] at hn; exact h.names n hn
        · rw [h2] at e
          split at e
          · obtain rfl := Option.some.inj e
            rw [List.length_append]
            have := h.view s l hv
            omega
          · have := h.view t m e; omega
  · unfold RD.append; rw [if_neg he]; exact h.more (by omega)
/-- one name, and its bytes if there are any -/
def layOne (r : RD) (n : List UInt8) (b : Option (List UInt8)) : RD := match b with
  | none => r.create n
  | some b => (r.create n).append n b
def layAll (r : RD) : List (List UInt8) → List (List UInt8) → RD
  | [], _ => r
  | n :: ns, bs => layAll (layOne r n bs.head?) ns bs.tail
theorem layAll_ok : ∀ (ns bs : List (List UInt8)) (r : RD) (c : Nat), OkL r c → (∀ b ∈ bs, b.length ≤ 1000) → OkL (layAll r ns bs) (c + 1000 * ns.length)
  | [], bs, r, c, h, _ => h
  | n :: ns, bs, r, c, h, hb => by
    have h1 : OkL (layOne r n bs.head?) (c + 1000) := by
      cases bs with
      | nil => exact (h.create n).more (by omega)
      | cons b bs => exact ((h.create n).append n b).more (by have := hb b List.mem_cons_self; omega)
    have := layAll_ok ns bs.tail _ _ h1 fun b hm => hb b (List.mem_of_mem_tail hm)
    refine this.more ?_
    rw [List.length_cons]; omega
/-- does a file count? -/
def wantedP (v : Ver) (num : Int) (s : List UInt8) : Bool := decide (s = currentL) || match fnum s with
  | none => false
  | some (k, n) => if k = 109 then decide ((n : Int) = num) else if k = 119 then decide (v.log ≤ (n : Int)) else v.tables.any fun t => decide (t.num = (n : Int))
theorem fnum_kind {s : List UInt8} {k : UInt8} {n : Nat} (h : fnum s = some (k, n)) : (k = 116 ∨ k = 119 ∨ k = 109) ∧ n ≤ 999999999 ∧ s ≠ currentL := by
  obtain ⟨h1, h2⟩ := fnum_back h
  obtain ⟨h3, _, h4, h5⟩ := fname_form h1 h2
  refine ⟨?_, h4, fun e => ?_⟩
  · unfold fkind at h3
    simp only [Bool.or_eq_true, beq_iff_eq] at h3
    rcases h3 with (h | h) | h
    · exact .inl h
    · exact .inr (.inl h)
    · exact .inr (.inr h)
  · rw [h5] at e
    injection e with _ e
    injection e with e _
    cases e
def extraP (v : Ver) (num : Int) (l : List (List UInt8)) : List (List UInt8) := l.filter fun s => !wantedP v num s
theorem list_up {r : RD} (h : Okd r) : r.list = r.dir.map Prod.fst := by unfold RD.list; rw [h.up]; rfl
theorem list_nodup {r : RD} (h : Okd r) : r.list.Nodup := by
  rw [list_up h]
  unfold List.Nodup
  rw [List.pairwise_map]
  exact h.sd.imp fun {a b} hl (e : a.1 = b.1) => lt_irr a.1 (by rw [← e] at hl; exact hl)
/-- some taken away -/
def less (r : RD) (xs : List (List UInt8)) : RD := xs.foldl RD.remove r
theorem clean_step {r r' : RD} {c : Nat} {xs : List (List UInt8)} {k : Nat} {x : List UInt8} (h : OkL r' c) (hd : r'.dir = r.dir.filter fun n => !(xs.take k).contains n.1) (hn : xs.Nodup) (hx : xs[k]? = some x) (hm : x ∈ r.dir.map Prod.fst) :
    r'.removeE x = 0 ∧ OkL (r'.remove x) c ∧ (r'.remove x).dir = r.dir.filter fun n => !(xs.take (k + 1)).contains n.1 := by
  have hk : k < xs.length := (List.getElem?_eq_some_iff.1 hx).1
  have hnot : x ∉ xs.take k := by
    intro hm
    have e : xs = xs.take k ++ x :: xs.drop (k + 1) := by
      have hxk : xs[k] = x := by rw [List.getElem?_eq_getElem hk] at hx; exact Option.some.inj hx
      rw [← hxk, ← List.drop_eq_getElem_cons hk, List.take_append_drop]
    rw [e, List.nodup_append] at hn
    exact hn.2.2 x hm x List.mem_cons_self rfl
  obtain ⟨n, hn1, rfl⟩ := List.mem_map.1 hm
  have hin : n ∈ r'.dir := by
    rw [hd]
    exact List.mem_filter.2 ⟨hn1, by simpa using hnot⟩
  have hs := h.names n hin
  have hv : ∃ l, r'.view n.1 = some l := by
    have : n.1 ∈ r'.list := by rw [list_up h.ok]; exact List.mem_map_of_mem hin
    cases hv : r'.view n.1 with
    | some l => exact ⟨l, rfl⟩
    | none =>
      exfalso
      have hf := (h.ok.miss hs hv).2
      have hsome : ∀ (d : RDir), n ∈ d → rfind d n.1 ≠ none := by
        intro d hd
        induction d with
        | nil => cases hd
        | cons m d ih =>
          unfold rfind
          split
          · simp
          · rename_i hne
            rcases List.mem_cons.1 hd with e | e
            · rw [e] at hne; exact absurd rfl hne
            · exact ih e
      exact hsome _ hin hf
  obtain ⟨l, hv⟩ := hv
  obtain ⟨h1, h2, h3, _, _⟩ := h.ok.remove hs hv
  have hf := (h.ok.find hs hv).1
  have hne := dName_nil hs
  have hdir : (r'.remove n.1).dir = rset r'.dir n.1 none := by
    unfold RD.remove
    rw [if_pos hf, h.ok.burns, if_pos rfl]
    unfold RD.act
    rw [h.ok.burn]
    show rdone r'.dir ⟨n.1, [], 0⟩ = _
    unfold rdone; rw [if_pos rfl, if_neg hne]
  have hset : rset r'.dir n.1 none = r'.dir.filter fun m => decide (m.1 ≠ n.1) := rput_true n.1 0 r'.dir
  refine ⟨h1, ⟨h2, fun m hm => ?_, fun t m e => ?_⟩, ?_⟩
  · rw [hdir, hset] at hm
    exact h.names m (List.mem_filter.1 hm).1
  · rw [h3] at e
    split at e
    · cases e
    · exact h.view t m e
  · rw [hdir, hset, hd, List.filter_filter, List.take_add_one, hx]
    congr 1
    funext m
    by_cases e : m.1 = n.1
    · simp [e]
    · simp [e]
theorem filter_split (p : List UInt8 → Bool) : ∀ l : List (List UInt8), (l.filter p).length + (l.filter fun s => !p s).length = l.length
  | [] => rfl
  | s :: l => by
    have ih := filter_split p l
    rw [List.filter_cons, List.filter_cons]
    cases p s <;> simp <;> omega
/-- what is left, when those that don't count are gone -/
theorem clean_end {r r' : RD} {c : Nat} {v : Ver} {num : Int} (h : OkL r c) (h' : OkL r' c) (hd : r'.dir = r.dir.filter fun n => !(extraP v num r.list).contains n.1) :
    r'.list = r.list.filter (wantedP v num) ∧ extraP v num r'.list = [] ∧ r'.list.length + (extraP v num r.list).length = r.list.length := by
  have e1 : r'.list = r.list.filter (wantedP v num) := by
    rw [list_up h'.ok, hd, list_up h.ok]
    have : ∀ (d e : RDir), (∀ n ∈ d, n ∈ e) → (d.filter fun n => !(extraP v num (e.map Prod.fst)).contains n.1).map Prod.fst = (d.map Prod.fst).filter (wantedP v num) := by
      intro d e
      induction d with
      | nil => intro _; rfl
      | cons n d ih =>
        intro hs
        have ih := ih fun m hm => hs m (List.mem_cons_of_mem _ hm)
        rw [List.filter_cons, List.map_cons, List.filter_cons]
        have hn : (extraP v num (e.map Prod.fst)).contains n.1 = !wantedP v num n.1 := by
          rw [Bool.eq_iff_iff, List.contains_iff_mem]
          unfold extraP
          rw [List.mem_filter]
          exact ⟨fun h => h.2, fun h => ⟨List.mem_map_of_mem (hs n List.mem_cons_self), h⟩⟩
        rw [hn]
        cases wantedP v num n.1
        · simpa using ih
        · simpa using ih
    exact this r.dir r.dir fun _ h => h
  refine ⟨e1, ?_, ?_⟩
  · rw [e1]
    unfold extraP
    rw [List.filter_filter, List.filter_eq_nil_iff]
    intro s _
    cases wantedP v num s <;> simp
  · rw [e1]
    exact filter_split _ _
end Go.Proofs.YtabcdodjkfknlaaGreatDoor
