/- Walks: the document's writing of a dump; the law's few. -/
import Derived.Test.YtkmdlpkdoplpdaaDoorUY2
import Derived.Test.YtkmdlpkdoplpdaaDoorUQ3
import Derived.Test.YtkmdlpkdoplpdaaDoorUM3
import Derived.Test.YtkmdlpkdoplpdaaDoorW11
namespace Go.Proofs.YtkmdlpkdoplpdaaDoor
open Go.RowKit
/-- the head's line and those of tuples -/
def outB (l : List Tup) : ByteArray := ⟨(headL ++ 10 :: l.flatMap fun (t : Tup) => t.print.data.toList ++ [10]).toArray⟩
theorem outB_snoc (l : List Tup) (t : Tup) : outB l ++ t.print ++ ⟨#[10]⟩ = outB (l ++ [t]) := by
  apply bytes_ext
  simp [outB]
theorem textL_flat : ∀ (l : List Tup) (e : List UInt8), textL l e = (l.flatMap fun (t : Tup) => t.print.data.toList ++ [10]) ++ (e ++ [10])
  | [], e => rfl
  | t :: l, e => by
    show t.print.data.toList ++ 10 :: textL l e = _
    rw [textL_flat l e]; simp
theorem outB_end (l : List Tup) : outB l ++ ⟨#[101, 110, 100, 32]⟩ ++ ⟨(Lib.decDigits l.length).toArray⟩ ++ ⟨#[10]⟩ = dumpB l := by
  apply bytes_ext
  rw [dumpB_data, textL_flat]
  simp [outB, endL]
theorem outB_le : ∀ (l : List Tup), (∀ t ∈ l, t.ok = true) → (outB l).size ≤ 7 + l.length * 211 := by
  intro l h
  rw [Lib.size_eq]
  show (headL ++ 10 :: l.flatMap fun (t : Tup) => t.print.data.toList ++ [10]).length ≤ _
  have : ∀ l : List Tup, (∀ t ∈ l, t.ok = true) → (l.flatMap fun (t : Tup) => t.print.data.toList ++ [10]).length ≤ l.length * 211 := by
    intro l
    induction l with
    | nil => intro _; simp
    | cons t l ih =>
      intro h
      have h1 := print_le (h t (by simp))
      have h2 := ih fun u hu => h u (List.mem_cons_of_mem _ hu)
      rw [Lib.size_eq] at h1
      rw [List.flatMap_cons, List.length_append, List.length_append]
      simp only [List.length_cons, List.length_nil]
      omega
  have h2 := this l h
  rw [List.length_append, List.length_cons]
  have : headL.length = 6 := rfl
  omega
set_option maxHeartbeats 2000000 in
set_option maxRecDepth 100000 in
theorem refWrite_calls (l : List Tup) (p : Option Addr) (c : Nat) (w : World) (hl : l.length ≤ 100) (hT : holdsT w p l) (hf : ∀ t ∈ l, t.fits) :
    Calls Tryd.prog 9 #[.slice p l.length c] w fun e w' => e = .returned (.string (dumpB (setT l))) ∧ Below w.heap.size w w' := by
  have hS := Lib.hid (set_calls l p c w hl hT hf)
  have hok : ∀ t ∈ setT l, t.ok = true := fun t ht => ((setT_mem l t).1 ht).2
  have hsl : (setT l).length ≤ 100 := by
    have := setT_len l l.length
    rw [List.take_of_length_le (Nat.le_refl _)] at this
    omega
  generalize setT l = S at *
  obtain ⟨n, hN⟩ : ∃ n, S.length = n := ⟨_, rfl⟩
  have hfin := outB_end S
  rw [hN] at hsl hfin
  have hD := Lib.hid (fun W => decimal_calls n W (by omega))
  have hDl := dd_len100 (n := n) (by omega)
  obtain ⟨E, hE0, hE1⟩ : ∃ E : ByteArray, (⟨(Lib.decDigits n).toArray⟩ : ByteArray) = E ∧ E.size ≤ 100 := ⟨_, rfl, by rw [Lib.size_eq]; exact hDl⟩
  rw [hE0] at hD hfin
  have hok' := Lib.hid hok
  have hN' := Lib.hid hN
  have hfin' := Lib.hid hfin
  clear hok hN hT hf hfin hE0 hDl
  have h0 : outB [] = ⟨#[100, 117, 109, 112, 32, 49, 10]⟩ := rfl
  have h0' := Lib.hid h0
  clear h0
  generalize l.length = m at *
  go_enter Tryd.func9, Tryd.ntmps9
  go_wp2_with fail
  refine hS.out.mono ?_
  rintro e w2 ⟨v2, rfl, hT2, hB2⟩
  obtain ⟨p2, c2, rfl⟩ := hT2.slice
  rw [hN'.out] at hT2 ⊢
  have hT2' := Lib.hid hT2
  have hB2' := Lib.hid hB2
  clear hT2 hB2 hS
  go_wp2_with fail
  go_loopw [3, 11] (fun v i wr => ∃ k : Nat, k ≤ n ∧ i = .int .i64 k ∧ v = .string (outB (S.take k)) ∧ TOwn w.heap.size wr (.slice p2 n c2) S ∧ Below w.heap.size w wr) (fun _ i _ => n - (intOf i).toNat)
  case atStart => exact ⟨0, Nat.zero_le _, rfl, by rw [List.take_zero, h0'.out], hT2'.out, hB2'.out⟩
  case round =>
    obtain ⟨k, hk, rfl, rfl, hS, hB⟩ := hrel
    have hol := outB_le (S.take k) fun t ht => hok'.out t (List.mem_of_mem_take ht)
    have hol2 : (S.take k).length ≤ k := List.length_take_le _ _
    by_cases hlt : k < n
    · obtain ⟨t, ht⟩ : ∃ t, S[k]? = some t := ⟨_, List.getElem?_eq_getElem (by rw [hN'.out]; exact hlt)⟩
      have hto := hok'.out t (List.mem_of_getElem? ht)
      obtain ⟨a1, b1, rfl, ha, hbl, x0, x1, x2, x3, x4, x5⟩ := hS.holds k t ht
      have A5 := (Below.refl wr.heap.size wr).alloc (Nat.le_refl _) (.cells #[.string t.a, .string t.b, .string t.c, .string t.d, .string t.e, .string t.f] 37)
      have hxc := (Blk.new wr 37 #[.string t.a, .string t.b, .string t.c, .string t.d, .string t.e, .string t.f]).cell
      have hz5 := hB.size
      have S5 := Lib.hid (hS.later A5)
      have B5 := Lib.hid (hB.trans (A5.mono hz5))
      have hP := Lib.hid (refPrint_calls t (wr.alloc (.cells #[.string t.a, .string t.b, .string t.c, .string t.d, .string t.e, .string t.f] 37)) hto)
      have hpl := print_le hto
      have hnx := outB_snoc (S.take k) t
      rw [← take_succ' ht] at hnx
      have hnx' := Lib.hid hnx
      generalize outB (S.take k) = O at *
      clear hnx hS hB A5 ht hto
      go_wp2_with fail
      refine hP.out.mono ?_
      rintro e w6 ⟨rfl, hb6⟩
      have S6 := Lib.hid (S5.out.later hb6)
      have B6 := Lib.hid (B5.out.trans (hb6.mono (by simp; omega)))
      clear hb6 S5 B5 hP x0 x1 x2 x3 x4 x5 hxc
      go_wp2_with fail
      go_roundw
      case rel => exact ⟨k + 1, by omega, by go_num, by rw [← hnx'.out], S6.out, B6.out⟩
      case measure => simp [intOf]; omega
    · obtain rfl : k = n := by omega
      rw [List.take_of_length_le (by rw [hN'.out]; exact Nat.le_refl _)] at hol hol2 ⊢
      have hB' := Lib.hid hB
      clear hS hB
      generalize outB S = O at *
      go_wp2_with fail
      refine (hD.out _).mono ?_
      rintro e w6 ⟨rfl, hb6⟩
      have B6 := Lib.hid (hB'.out.trans (hb6.mono hB'.out.size))
      clear hb6 hB'
      go_wp2_with fail
      go_ret
      exact ⟨by rw [← hfin'.out]; rfl, B6.out⟩
def FewPost (n : Nat) (w : World) (e : Ending) (w' : World) : Prop := (∃ b, e = .returned (.bool b) ∧ (b = true → n ≤ 60)) ∧ Below w.heap.size w w'
set_option maxHeartbeats 2000000 in
set_option maxRecDepth 100000 in
theorem few_calls (l : List Tup) (p : Option Addr) (c : Nat) (w : World) (hl : l.length ≤ maxLen) (hT : holdsT w p l) (hf : ∀ t ∈ l, t.fits) :
    Calls Tryd.prog 6 #[.slice p l.length c] w (FewPost l.length w) := by
  unfold maxLen at hl
  obtain ⟨n, hN⟩ : ∃ n, l.length = n := ⟨_, rfl⟩
  rw [hN] at hl ⊢
  have hN' := Lib.hid hN
  have hT' := Lib.hid hT
  have hf' := Lib.hid hf
  clear hN hT hf
  go_enter Tryd.func6, Tryd.ntmps6
  go_wp2_with fail
  go_loopw [9] (fun i wr => ∃ k : Nat, k ≤ n ∧ i = .int .i64 k ∧ Below w.heap.size w wr) (fun i _ => n - (intOf i).toNat)
  case atStart => exact ⟨0, Nat.zero_le _, rfl, Below.refl _ _⟩
  case round =>
    obtain ⟨k, hk, rfl, hB⟩ := hrel
    by_cases hlt : k < n
    · obtain ⟨t, ht⟩ : ∃ t, l[k]? = some t := ⟨_, List.getElem?_eq_getElem (by rw [hN'.out]; exact hlt)⟩
      obtain ⟨a1, b1, rfl, ha, hbl, x0, x1, x2, x3, x4, x5⟩ := (hT'.out.below hB) k t ht
      have htf := hf'.out t (List.mem_of_getElem? ht)
      have A5 := (Below.refl wr.heap.size wr).alloc (Nat.le_refl _) (.cells #[.string t.a, .string t.b, .string t.c, .string t.d, .string t.e, .string t.f] 37)
      have hxc := (Blk.new wr 37 #[.string t.a, .string t.b, .string t.c, .string t.d, .string t.e, .string t.f]).cell
      have hz5 := hB.size
      have B5 := Lib.hid (hB.trans (A5.mono hz5))
      have hP := Lib.hid (parts_below t (wr.alloc (.cells #[.string t.a, .string t.b, .string t.c, .string t.d, .string t.e, .string t.f] 37)))
      clear hB A5 ht
      go_wp2_with fail
      refine hP.out.mono ?_
      rintro e w6 ⟨g, rfl, hg, hgz, hb6⟩
      have B6 := Lib.hid (B5.out.trans (hb6.mono (by simp; omega)))
      have hg' := Lib.hid hg
      have hgl := hg.lt
      clear hg hb6 B5 hP x0 x1 x2 x3 x4 x5 hxc hgz
      go_wp2_with fail
      obtain ⟨wo, rfl⟩ : ∃ wo : World, wo = wr := ⟨_, rfl⟩
      go_loopw [16] (fun i wx => ∃ q : Nat, q ≤ 6 ∧ i = .int .i64 q ∧ wx = w6) (fun i _ => 6 - (intOf i).toNat)
      case atStart => exact ⟨0, by omega, rfl, rfl⟩
      case round =>
        obtain ⟨q, hq, rfl, rfl⟩ := hrel
        by_cases hq6 : q < 6
        · have hc : wr.cell? ⟨g, q, none⟩ = some (.string (t.part q)) := (hg'.out.cell q).trans (cells_part t q hq6)
          have hps := htf (t.part q) (t.part_mem q hq6)
          unfold maxLen at hps
          have hq7 : (q : Int) < 6 := by omega
          by_cases hbig : ((t.part q).size : Int) ≤ 100
          · go_wp2_with fail
            go_roundw
            case rel => exact ⟨q + 1, by omega, by go_num, trivial⟩
            case measure => simp [intOf]; omega
          · have hbig2 : (100 : Int) < ((t.part q).size : Int) := by omega
            go_wp2_with fail
            go_ret
            exact ⟨⟨false, rfl, fun h => by cases h⟩, B6.out⟩
        · obtain rfl : q = 6 := by omega
          go_wp2_with fail
          go_roundw
          case rel => exact ⟨k + 1, by omega, by go_num, B6.out⟩
          case measure => simp [intOf]; omega
    · obtain rfl : k = n := by omega
      by_cases h60 : k ≤ 60
      · have h6 : decide ((k : Int) ≤ 60) = true := by simp; omega
        go_wp2_with fail
        go_ret
        exact ⟨⟨true, rfl, fun _ => h60⟩, hB⟩
      · have h6 : decide ((k : Int) ≤ 60) = false := by simp; omega
        go_wp2_with fail
        go_ret
        exact ⟨⟨false, rfl, fun h => by cases h⟩, hB⟩
end Go.Proofs.YtkmdlpkdoplpdaaDoor
