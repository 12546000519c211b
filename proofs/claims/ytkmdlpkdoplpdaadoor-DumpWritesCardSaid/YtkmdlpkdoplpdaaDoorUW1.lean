/- Walk: a dump is written. -/
import Derived.Test.YtkmdlpkdoplpdaaDoorUV4
import Derived.Test.YtkmdlpkdoplpdaaDoorUT1
import Derived.Test.YtkmdlpkdoplpdaaDoorUL1
namespace Go.Proofs.YtkmdlpkdoplpdaaDoor
open Go.RowKit Go.Shelf
attribute [local go_sem ↓] dapp_op
def headB : ByteArray := ⟨#[100, 117, 109, 112, 32, 49]⟩
/-- the texts of those that may be -/
def prs (l : List Tup) : List ByteArray := (l.filter Tup.ok).map Tup.print
theorem prs_yes {c : List Tup} {k : Nat} {t : Tup} (h : c[k]? = some t) (ho : t.ok = true) : prs (c.take (k + 1)) = prs (c.take k) ++ [t.print] := by
  unfold prs; rw [take_get h, List.filter_append, List.map_append]; simp [ho]
theorem prs_no {c : List Tup} {k : Nat} {t : Tup} (h : c[k]? = some t) (ho : t.ok = false) : prs (c.take (k + 1)) = prs (c.take k) := by
  unfold prs; rw [take_get h, List.filter_append]; simp [ho]
theorem prs_len (c : List Tup) : (prs c).length ≤ c.length := by unfold prs; rw [List.length_map]; exact List.length_filter_le _ _
/-- the dump's text of tuples -/
def dumpB (ts : List Tup) : ByteArray := ⟨(Lib.join ((headB :: ts.map Tup.print ++ [(⟨(endL ts.length).toArray⟩ : ByteArray), (⟨#[]⟩ : ByteArray)]).map (·.data.toList)) [10]).toArray⟩
theorem print_le {t : Tup} (h : t.ok = true) : t.print.size ≤ 210 := by
  obtain ⟨h1, h2, h3, h4, h5, h6⟩ := Tup.ok_le h
  have k1 : (⟨#[58]⟩ : ByteArray).size = 1 := rfl
  have k2 : (⟨#[35]⟩ : ByteArray).size = 1 := rfl
  have k3 : (⟨#[64]⟩ : ByteArray).size = 1 := rfl
  unfold Tup.print
  split <;> (simp only [Tup.base, ByteArray.size_append, k1, k2, k3]; omega)
theorem joinTail_le (sep : List UInt8) (m : Nat) : ∀ r : List (List UInt8), (∀ x ∈ r, x.length ≤ m) → (Lib.joinTail sep r).length ≤ r.length * (m + sep.length)
  | [], _ => by simp [Lib.joinTail]
  | x :: r, h => by
    have h1 := h x (by simp)
    have ih := joinTail_le sep m r fun z hz => h z (List.mem_cons_of_mem _ hz)
    show ((sep ++ x) ++ Lib.joinTail sep r).length ≤ _
    rw [List.length_append, List.length_append, List.length_cons, Nat.succ_mul]
    omega
theorem join_le (sep : List UInt8) (m : Nat) (l : List (List UInt8)) (h : ∀ x ∈ l, x.length ≤ m) : (Lib.join l sep).length ≤ l.length * (m + sep.length) := by
  cases l with
  | nil => simp [Lib.join_nil]
  | cons x r =>
    rw [Lib.join_cons, List.length_append, List.length_cons, Nat.succ_mul]
    have := h x (by simp)
    have := joinTail_le sep m r fun z hz => h z (List.mem_cons_of_mem _ hz)
    omega
theorem dd_lenb : ∀ (b m : Nat), m < 10 ^ (b + 1) → (Lib.decDigits m).length ≤ b + 1 := by
  intro b
  induction b with
  | zero => intro m hm; rw [Lib.decDigits, dif_pos (by omega)]; simp
  | succ b ih =>
    intro m hm
    rw [Lib.decDigits]
    by_cases h : m < 10
    · rw [dif_pos h]; simp
    · rw [dif_neg h, List.length_append]
      have := ih (m / 10) (by omega)
      simp; omega
theorem dd_len100' {n : Nat} (h : n ≤ 100000) : (Lib.decDigits n).length ≤ 100 :=
  dd_lenb 99 n (by have : (100000 : Nat) < 10 ^ 100 := by decide
                   omega)
theorem compactT_len : ∀ s : List Tup, (compactT s).length ≤ s.length
  | [] => Nat.le_refl _
  | [_] => Nat.le_refl _
  | t :: u :: l => by
    have ih := compactT_len (u :: l)
    unfold compactT
    split
    · exact Nat.le_trans ih (Nat.le_succ _)
    · exact Nat.succ_le_succ ih
set_option maxHeartbeats 2000000 in
set_option maxRecDepth 100000 in
theorem write_calls (l : List Tup) (p : Option Addr) (c : Nat) (w : World) (hl : l.length ≤ 1000) (hT : holdsT w p l) (hf : ∀ t ∈ l, t.fits) (htab : Tb w.heap.size w) :
    Calls Tryd.prog 7 #[.slice p l.length c] w fun e w' => e = .returned (.string (dumpB (setT l))) ∧ Below w.heap.size w w' := by
  have b1 := (Below.refl w.heap.size w).alloc (Nat.le_refl _) (.cells #[.string ⟨#[100, 117, 109, 112, 32, 49]⟩] 9)
  have s1 := SOwn.one w ⟨#[100, 117, 109, 112, 32, 49]⟩
  have b2 := b1.alloc (by simp) (.cells #[.slice p l.length c] 22)
  have s2 := s1.later ((Below.refl _ _).alloc (Nat.le_refl _) (.cells #[.slice p l.length c] 22))
  have hst := sorted_calls (w.heap.size + 1) p c l (by omega) ((w.alloc (.cells #[.string ⟨#[100, 117, 109, 112, 32, 49]⟩] 9)).alloc (.cells #[.slice p l.length c] 22)) (by simp) (by
    have := (Blk.new (w.alloc (.cells #[.string ⟨#[100, 117, 109, 112, 32, 49]⟩] 9)) 22 #[.slice p l.length c]).cell 0
    simp only [World.size_alloc] at this
    exact this) ((hT.below b2).tin)
  have hV := values_calls p l.length c (w.alloc (.cells #[.string ⟨#[100, 117, 109, 112, 32, 49]⟩] 9))
  simp only [World.size_alloc] at hV
  have hz2 : w.heap.size + 2 ≤ ((w.alloc (.cells #[.string ⟨#[100, 117, 109, 112, 32, 49]⟩] 9)).alloc (.cells #[.slice p l.length c] 22)).heap.size := by simp
  obtain ⟨n, hN⟩ : ∃ n, l.length = n := ⟨_, rfl⟩
  rw [hN] at b2 s2 hst hV hl hz2 ⊢
  have hz2' := Lib.hid hz2
  clear hz2
  have b2' := Lib.hid b2
  have s2' := Lib.hid s2
  have hst' := Lib.hid hst
  have hV' := Lib.hid hV
  have hf' := Lib.hid hf
  have hN' := Lib.hid hN
  clear b1 b2 s1 s2 hst hV hf hN hT
  go_enter Tryd.func7, Tryd.ntmps7
  go_wp2_with fail
  refine hV'.out.mono ?_
  rintro e w2 ⟨rfl, e2⟩
  rw [e2] at b2' s2' hst' hz2'
  clear e2 hV'
  go_wp2_with fail
  refine hst'.out.mono ?_
  rintro e w3 ⟨v3, s, rfl, hso, hT3, hB3⟩
  obtain ⟨p3, c3, rfl⟩ := hT3.slice
  have hsl : s.length = n := by rw [← hN'.out]; exact hso.1.length_eq
  have hC := Lib.hid (compact_calls hT3 (by omega))
  have s3 := Lib.hid (s2'.out.later hB3)
  have b3 := Lib.hid (b2'.out.trans (hB3.mono b2'.out.size))
  have hz3 := Nat.le_trans b2'.out.size hB3.size
  have hlow3 := Lib.hid (fun j hj => (hT3.lt j hj).1)
  have hsl' := Lib.hid hsl
  have hso' := Lib.hid hso
  have hb23 := Lib.hid hB3.size
  have hb2z := Lib.hid b2'.out.size
  clear hst' hT3 hB3 s2' b2' hsl hso
  go_wp2_with fail
  refine hC.out.mono ?_
  rintro e w4 ⟨v4, rfl, hT4, hK4⟩
  obtain ⟨C, hCd⟩ : ∃ C, compactT s = C := ⟨_, rfl⟩
  rw [hCd] at hT4
  have hmem : ∀ t ∈ C, t.fits := fun t ht => by
    rw [← hCd, compactT_mem] at ht
    exact hf'.out t ((hso'.out.1.mem_iff).1 ht)
  have hset : C.filter Tup.ok = setT l := by
    rw [← hCd]
    exact sorted_set hso'.out.2 fun x => hso'.out.1.mem_iff
  have hCl : C.length ≤ 1000 := by
    have h1 := TOwn.lt hT4
    have : C.length ≤ s.length := by
      rw [← hCd]
      exact compactT_len s
    have := hsl'.out
    omega
  obtain ⟨p4, c4, rfl⟩ := hT4.slice
  obtain ⟨m, hm⟩ : ∃ m, C.length = m := ⟨_, rfl⟩
  rw [hm] at hT4 hCl ⊢
  have s4 := s3.out.keeps hK4 (fun g hg e => by
    obtain rfl : g = w.heap.size := (Option.some.inj hg).symm
    have := hlow3.out _ e
    have h5 := hz2'.out
    omega)
  have B4 := Keeps.below_step b3.out hz3 hK4 fun j e => Nat.le_trans (Nat.le_trans (by simp) hb2z.out) (hlow3.out j e)
  have hmem' := Lib.hid hmem
  have hset' := Lib.hid hset
  have hm' := Lib.hid hm
  have hT4' := Lib.hid hT4
  have s4' := Lib.hid s4
  have B4' := Lib.hid B4
  clear hmem hset hm hT4 s4 B4 hK4 hC s3 b3 hlow3 hCd hf' hso' hsl'
  go_wp2_with fail
  go_loopw [3, 16] (fun v i wr => ∃ k : Nat, k ≤ m ∧ i = .int .i64 k ∧ SOwn w.heap.size wr v (headB :: prs (C.take k)) ∧ (∃ B, TOwn B wr (.slice p4 m c4) C) ∧ Below w.heap.size w wr) (fun _ i _ => m - (intOf i).toNat)
  case atStart => exact ⟨0, Nat.zero_le _, rfl, s4'.out, ⟨_, hT4'.out⟩, B4'.out⟩
  case round =>
    obtain ⟨k, hk, rfl, hS, ⟨BT, hT⟩, hB⟩ := hrel
    obtain ⟨pl, cl, rfl⟩ := hS.slice
    obtain ⟨q, hq⟩ : ∃ q, (headB :: prs (C.take k)).length = q := ⟨_, rfl⟩
    have hqn : q = (prs (C.take k)).length + 1 := by rw [← hq]; rfl
    rw [hq] at hS ⊢
    have hq' := Lib.hid hq
    have hqn' : q ≤ (prs (C.take k)).length + 1 := by omega
    clear hq hqn
    have hpl := prs_len (C.take k)
    have hpl2 : (C.take k).length ≤ k := List.length_take_le _ _
    by_cases hlt : k < m
    · obtain ⟨t, ht⟩ : ∃ t, C[k]? = some t := ⟨_, List.getElem?_eq_getElem (by rw [hm'.out]; exact hlt)⟩
      obtain ⟨a1, b1, rfl, ha, hbl, x0, x1, x2, x3, x4, x5⟩ := hT.holds k t ht
      have htf := hmem'.out t (List.mem_of_getElem? ht)
      have A5 := (Below.refl wr.heap.size wr).alloc (Nat.le_refl _) (.cells #[.string t.a, .string t.b, .string t.c, .string t.d, .string t.e, .string t.f] 37)
      have hxt := (Blk.new wr 37 #[.string t.a, .string t.b, .string t.c, .string t.d, .string t.e, .string t.f]).cell
      have S5 := Lib.hid (hS.later A5)
      have T5 := Lib.hid (hT.later A5)
      have hz5 := hB.size
      have B5 := Lib.hid (hB.trans (A5.mono hz5))
      cases hok : t.ok
      · have hP := Lib.hid (print_no t (wr.alloc (.cells #[.string t.a, .string t.b, .string t.c, .string t.d, .string t.e, .string t.f] 37)) htf hok)
        have hpr := Lib.hid (prs_no ht hok)
        clear hS hT hB A5 ht hok
        go_wp2_with fail
        refine hP.out.mono ?_
        rintro e w6 ⟨rfl, hb6⟩
        have S6 := Lib.hid (S5.out.later hb6)
        have T6 := Lib.hid (T5.out.later hb6)
        have B6 := Lib.hid (B5.out.trans (hb6.mono (by simp; omega)))
        clear hb6 S5 T5 B5 hP x0 x1 x2 x3 x4 x5 hxt
        go_wp2_with fail
        go_roundw
        case rel => exact ⟨k + 1, by omega, by go_num, by rw [hpr.out]; exact S6.out, ⟨_, T6.out⟩, B6.out⟩
        case measure => simp [intOf]; omega
      · have hP := Lib.hid (print_yes t (wr.alloc (.cells #[.string t.a, .string t.b, .string t.c, .string t.d, .string t.e, .string t.f] 37)) htf hok)
        have hpr := Lib.hid (prs_yes ht hok)
        clear hS hT hB A5 ht
        have hok' := Lib.hid hok
        clear hok
        go_wp2_with fail
        refine hP.out.mono ?_
        rintro e w6 ⟨rfl, hb6⟩
        have hz6 := hb6.size
        have hz7 : wr.heap.size + 1 ≤ w6.heap.size := by simpa using hz6
        have S6 := S5.out.later hb6
        have T6 := T5.out.later hb6
        have B6 := B5.out.trans (hb6.mono (by simp; omega))
        have S7 := S6.later ((Below.refl w6.heap.size w6).alloc (Nat.le_refl _) (.cells #[.string t.print] 9))
        have T7 := T6.later ((Below.refl w6.heap.size w6).alloc (Nat.le_refl _) (.cells #[.string t.print] 9))
        have B7 := B6.alloc (by omega) (.cells #[.string t.print] 9)
        obtain ⟨p8, c8, w8, e8, S8, K8⟩ := S7.app (ys := [t.print]) (by simp; omega) (Blk.new w6 9 #[.string t.print]) (by rw [hq'.out]; simp; omega)
        have T8 := T7.keeps K8 (fun j hj e => by
          obtain ⟨cur, hcur⟩ := own_blk S7 j e
          exact T7.blk_ne hcur (by decide) hj)
        have hlow := fun j hj => (S7.lt j hj).1
        have B8 := Keeps.below_step B7 (by simp; omega) K8 fun j e => hlow j e
        rw [show [t.print].length = 1 from rfl, hq'.out] at e8 S8
        rw [List.cons_append, ← hpr.out] at S8
        have S8' := Lib.hid S8
        have T8' := Lib.hid T8
        have B8' := Lib.hid B8
        clear S8 T8 B8 hlow S7 T7 B7 S6 T6 B6 hb6 S5 T5 B5 hP hz6 K8 x0 x1 x2 x3 x4 x5 hxt
        go_wp2_with fail
        go_roundw
        case rel => exact ⟨k + 1, by omega, by go_num, S8'.out, ⟨_, T8'.out⟩, B8'.out⟩
        case measure => simp [intOf]; omega
    · obtain rfl : k = m := by omega
      have hall : prs (C.take k) = (setT l).map Tup.print := by
        rw [List.take_of_length_le (by rw [hm'.out]; exact Nat.le_refl _)]
        unfold prs; rw [hset'.out]
      rw [hall] at hS
      have hsl : (setT l).length = q - 1 := by
        have := hq'.out
        rw [hall, List.length_cons, List.length_map] at this
        omega
      have hq1 : 1 ≤ q := by have := hq'.out; simp at this; omega
      have hE := end_calls (q - 1) wr (by omega) (htab.step hB).here
      have hqi : ((q - 1 : Nat) : Int) = (q : Int) - 1 := by omega
      rw [hqi] at hE
      obtain ⟨E, hE0⟩ : ∃ E : ByteArray, (⟨(endL (q - 1)).toArray⟩ : ByteArray) = E := ⟨_, rfl⟩
      rw [hE0] at hE
      have hElen : E.size ≤ 200 := by
        rw [← hE0, Lib.size_eq]
        have := dd_len100' (n := q - 1) (by omega)
        show (endL (q - 1)).length ≤ 200
        unfold endL
        rw [List.length_append]
        have e4 : ([101, 110, 100, 32] : List UInt8).length = 4 := rfl
        omega
      have hqq := hq'.out
      rw [hall] at hqq
      have hdump : dumpB (setT l) = ⟨(Lib.join ((headB :: (setT l).map Tup.print ++ [E, (⟨#[]⟩ : ByteArray)]).map (·.data.toList)) [10]).toArray⟩ := by
        unfold dumpB
        rw [hsl, hE0]
      have hjl : (Lib.join ((headB :: (setT l).map Tup.print ++ [E, (⟨#[]⟩ : ByteArray)]).map (·.data.toList)) [10]).length ≤ 140737488355328 := by
        refine Nat.le_trans (join_le [10] 210 _ fun x hx => ?_) ?_
        · obtain ⟨y, hy, rfl⟩ := List.mem_map.1 hx
          rw [← Lib.size_eq]
          rcases List.mem_append.1 hy with hy | hy
          · rcases List.mem_cons.1 hy with rfl | hy
            · exact (by decide : (6 : Nat) ≤ 210)
            · obtain ⟨t, ht, rfl⟩ := List.mem_map.1 hy
              exact print_le ((setT_mem l t).1 ht).2
          · rcases List.mem_cons.1 hy with rfl | hy
            · omega
            · rw [List.mem_singleton.1 hy]; exact (by decide : (0 : Nat) ≤ 210)
        · rw [List.length_map, List.length_append, hqq]
          have e2 : ([E, (⟨#[]⟩ : ByteArray)] : List ByteArray).length = 2 := rfl
          have e1 : ([10] : List UInt8).length = 1 := rfl
          rw [e2, e1]; omega
      have hE' := Lib.hid hE
      have hS' := Lib.hid hS
      have hT' := Lib.hid hT
      have hB' := Lib.hid hB
      have hjl' := Lib.hid hjl
      have hdump' := Lib.hid hdump
      have hqq' := Lib.hid hqq
      clear hE hS hT hB hjl hdump hall hsl hqi hE0 hqq
      go_wp2_with fail
      refine hE'.out.mono ?_
      rintro e w6 ⟨rfl, hb6⟩
      have hz6 := hb6.size
      have S6 := hS'.out.later hb6
      have hwz := hB'.out.size
      have B6 := hB'.out.trans (hb6.mono hwz)
      have S7 := S6.later ((Below.refl w6.heap.size w6).alloc (Nat.le_refl _) (.cells #[.string E, .string ⟨#[]⟩] 9))
      have B7 := B6.alloc (by omega) (.cells #[.string E, .string ⟨#[]⟩] 9)
      obtain ⟨p8, c8, w8, e8, S8, K8⟩ := S7.app (ys := [E, (⟨#[]⟩ : ByteArray)]) (by simp; omega) (Blk.new w6 9 #[.string E, .string ⟨#[]⟩]) (by rw [hqq'.out]; simp; omega)
      have hlow := fun j hj => (S7.lt j hj).1
      have B8 := Keeps.below_step B7 (by simp; omega) K8 fun j e => hlow j e
      rw [show [E, (⟨#[]⟩ : ByteArray)].length = 2 from rfl, hqq'.out] at e8 S8
      obtain ⟨g9, c9, hv9, hc9, _, hg9, hcell9⟩ := S8.cells (by simp)
      have hlen9 : (headB :: (setT l).map Tup.print ++ [E, (⟨#[]⟩ : ByteArray)]).length = q + 2 := by rw [List.length_append, hqq'.out]; rfl
      rw [hlen9] at hv9 hc9
      obtain ⟨rfl, rfl⟩ : p8 = some ⟨g9, 0, none⟩ ∧ c8 = c9 := by injection hv9 with h1 _ h3; exact ⟨h1, h3⟩
      have hJ := Tryd.strings_Join g9 0 c8 (headB :: (setT l).map Tup.print ++ [E, (⟨#[]⟩ : ByteArray)]) ⟨#[10]⟩ w8 hcell9 hg9 (by rw [hlen9]; omega) (by rw [hlen9]; exact hc9) hjl'.out
      rw [hlen9] at hJ
      rw [show (⟨#[10]⟩ : ByteArray).data.toList = [10] from rfl, ← hdump'.out] at hJ
      have hJ' := Lib.hid hJ
      have B8' := Lib.hid B8
      clear hJ B8 hlow S8 K8 S7 B7 S6 B6 hb6 hcell9 hv9 hlen9
      go_wp2_with fail
      refine hJ'.out.mono ?_
      rintro e w9 ⟨rfl, hb9⟩
      have B9 := B8'.out.trans (hb9.mono B8'.out.size)
      clear hb9
      go_wp2_with fail
      go_ret
      exact ⟨rfl, B9⟩
end Go.Proofs.YtkmdlpkdoplpdaaDoor
