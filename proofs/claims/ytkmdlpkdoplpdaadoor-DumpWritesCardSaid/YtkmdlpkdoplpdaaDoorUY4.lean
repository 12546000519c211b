/- Walk: the law DumpWrites. -/
import Derived.Test.YtkmdlpkdoplpdaaDoorUY3
import Derived.Test.YtkmdlpkdoplpdaaDoorUX1
namespace Go.Proofs.YtkmdlpkdoplpdaaDoor
open Go.RowKit
attribute [local go_sem ↓] dapp_op
theorem holds_cell {w : World} {p : Option Addr} {l : List Tup} (h : holdsT w p l) {a : Addr} (hp : p = some a) : ∀ (j : Nat) (u : Value), (tcells l)[j]? = some u → w.cell? (a.add j) = some u ∧ a.block < w.heap.size := by
  intro j u hj
  have hj6 := (List.getElem?_eq_some_iff.1 hj).1
  rw [tcells_len] at hj6
  have hk : j / 6 < l.length := by omega
  have hx : l[j / 6]? = some l[j / 6] := List.getElem?_eq_getElem hk
  have e1 := tcells_at l (j / 6) (j % 6) _ hx (Nat.mod_lt _ (by omega))
  rw [show j / 6 * 6 + j % 6 = j by omega] at e1
  obtain ⟨a', b, hp', hb, hl, h0, h1, h2, h3, h4, h5⟩ := h (j / 6) _ hx
  rw [hp] at hp'
  obtain rfl := Option.some.inj hp'
  have hab : b.block = a.block := by rw [← hb, add_blk]
  refine ⟨?_, by rw [← hab]; exact hl⟩
  rw [e1] at hj
  have hadd : ∀ r, r < 6 → 0 < r → a.add j = ⟨b.block, b.off + r, none⟩ ∨ j % 6 ≠ r := by
    intro r _ hr
    by_cases e : j % 6 = r
    · left
      rw [← hb]
      have hj0 : j ≠ 0 := by omega
      unfold Addr.add
      rw [if_neg hj0]
      by_cases hz : j / 6 * 6 = 0
      · rw [if_pos hz]; simp only [Addr.mk.injEq, and_true, true_and]; omega
      · rw [if_neg hz]; simp only [Addr.mk.injEq, and_true, true_and]; omega
    · exact .inr e
  have h6 := Nat.mod_lt j (by omega : 6 > 0)
  rcases hr : j % 6 with _ | _ | _ | _ | _ | _ | r
  · rw [hr] at hj
    have : a.add j = b := by rw [← hb, show j / 6 * 6 = j by omega]
    rw [this, h0]; exact hj
  · rw [hr] at hj; rw [(hadd 1 (by omega) (by omega)).resolve_right (by omega), h1]; exact hj
  · rw [hr] at hj; rw [(hadd 2 (by omega) (by omega)).resolve_right (by omega), h2]; exact hj
  · rw [hr] at hj; rw [(hadd 3 (by omega) (by omega)).resolve_right (by omega), h3]; exact hj
  · rw [hr] at hj; rw [(hadd 4 (by omega) (by omega)).resolve_right (by omega), h4]; exact hj
  · rw [hr] at hj; rw [(hadd 5 (by omega) (by omega)).resolve_right (by omega), h5]; exact hj
  · omega
theorem canT_arg {w : World} {p : Option Addr} {l : List Tup} {c : Nat} (h : holdsT w p l) (hl : l.length ≤ 400) (hp : p = none → c = 0) : CanT w (.slice p l.length c) l.length l := by
  cases p with
  | none =>
    obtain rfl : l = [] := by
      cases l with
      | nil => rfl
      | cons t l => obtain ⟨_, _, e, _⟩ := h 0 t rfl; cases e
    rw [hp rfl]
    exact canT_nil
  | some a =>
    by_cases h0 : l.length = 0
    · obtain rfl : l = [] := List.eq_nil_of_length_eq_zero h0
      exact canT_row rfl hl (.inl rfl) (fun j u hj => by simp [tcells] at hj)
    · have hlt : a.block < w.heap.size := by
        have : ∃ u, (tcells l)[0]? = some u := ⟨_, List.getElem?_eq_getElem (by rw [tcells_len]; omega)⟩
        obtain ⟨u, hu⟩ := this
        exact (holds_cell h rfl 0 u hu).2
      exact canT_row rfl hl (.inr hlt) (fun j u hj => (holds_cell h rfl j u hj).1)
theorem dumpB_le (l : List Tup) (hl : l.length ≤ 60) : (dumpB (setT l)).size ≤ 50000 := by
  have hsl : (setT l).length ≤ 60 := by
    have := setT_len l l.length
    rw [List.take_of_length_le (Nat.le_refl _)] at this
    omega
  have h1 := outB_le (setT l) fun t ht => ((setT_mem l t).1 ht).2
  rw [← outB_end]
  rw [ByteArray.size_append, ByteArray.size_append, ByteArray.size_append]
  have h2 := dd_len100 (n := (setT l).length) (by omega)
  have h3 : (⟨(Lib.decDigits (setT l).length).toArray⟩ : ByteArray).size ≤ 100 := by rw [Lib.size_eq]; exact h2
  have h4 : (⟨#[101, 110, 100, 32]⟩ : ByteArray).size = 4 := rfl
  have h5 : (⟨#[10]⟩ : ByteArray).size = 1 := rfl
  omega
set_option maxHeartbeats 2000000 in
set_option maxRecDepth 100000 in
theorem dumpWrites_calls (l : List Tup) (p : Option Addr) (c : Nat) (w : World) (hl : l.length ≤ maxLen) (hT : holdsT w p l) (hf : ∀ t ∈ l, t.fits) (hp : p = none → c = 0) (htab : Tb w.heap.size w) :
    Calls Tryd.prog 3 #[.slice p l.length c] w fun e w' => e = .returned (.bool true) ∧ Below w.heap.size w w' := by
  have htb : ∀ w', Below w.heap.size w w' → Tb w'.heap.size w' := fun w' hb => fun w'' h2 => (htab.step hb) w'' (h2.mono hb.size)
  have F := fixed_calls w htab
  have hW := fun W hW => few_calls l p c W hl hW hf
  have F' := Lib.hid F
  have hW' := Lib.hid hW
  have hT' := Lib.hid hT
  have hf' := Lib.hid hf
  have htb' := Lib.hid htb
  have hp' := Lib.hid hp
  clear F hW hT hf htb htab hp
  obtain ⟨n, hN⟩ : ∃ n, l.length = n := ⟨_, rfl⟩
  rw [hN] at hW' hl ⊢
  have hN' := Lib.hid hN
  clear hN
  go_enter Tryd.func3, Tryd.ntmps3
  go_wp2_with fail
  refine F'.out.mono ?_
  rintro e w1 ⟨rfl, hB1⟩
  have hB1' := Lib.hid hB1
  have h1 := hT'.out.below hB1
  have hW1 := Lib.hid (hW'.out w1 h1)
  clear hB1 F' h1 hW'
  go_wp2_with fail
  refine hW1.out.mono ?_
  rintro e w2 ⟨⟨b, rfl, hb60⟩, hB2⟩
  have hB2' := Lib.hid (hB1'.out.trans (hB2.mono hB1'.out.size))
  clear hB2 hW1
  cases b
  · clear hb60
    go_wp2_with fail
    go_ret
    exact ⟨rfl, hB2'.out⟩
  · have hn60 : n ≤ 60 := hb60 rfl
    clear hb60
    have h2 := hT'.out.below hB2'.out
    have hca := canT_arg (c := c) h2 (by rw [hN'.out]; omega) hp'.out
    have oE : TOwn w2.heap.size (w2.alloc (.cells #[] 37)) (.slice (some ⟨w2.heap.size, 0, none⟩) 0 0) [] := World.ownsRow_lit w2 #[] 0 (Nat.le_refl _) (by unfold maxLen; omega) rfl
    obtain ⟨p3, c3, w3, e3, T3, _, B3⟩ := hca.go ((Below.refl w2.heap.size w2).alloc (Nat.le_refl _) (.cells #[] 37)) (by simp) oE
    rw [hN'.out, show ([] : List Tup).length + n = n by simp] at e3 T3
    rw [List.nil_append] at T3
    have hz2 := hB2'.out.size
    have B3a := hB2'.out.trans (B3.mono hz2)
    have Wr := write_calls l p3 c3 w3 (by rw [hN'.out]; omega) T3.holds hf'.out (htb'.out _ B3a)
    rw [hN'.out] at Wr
    have Wr' := Lib.hid Wr
    have T3' := Lib.hid T3
    have B3' := Lib.hid B3a
    clear h2 hca oE T3 B3 B3a Wr
    go_wp2_with fail
    refine Wr'.out.mono ?_
    rintro e w4 ⟨rfl, hB4⟩
    have T4' := Lib.hid (T3'.out.later hB4)
    have B4' := Lib.hid (B3'.out.trans (hB4.mono B3'.out.size))
    have Rd := read_calls (dumpB (setT l)) w4 (dumpB_le l (by rw [hN'.out]; exact hn60)) (htb'.out _ B4'.out)
    rw [dread_dump (setT_sorted l) (fun t ht => ((setT_mem l t).1 ht).2)] at Rd
    have Rd' := Lib.hid Rd
    have hT4 := hT'.out.below B4'.out
    have RW := Lib.hid (fun W hb => refWrite_calls l p c W (by rw [hN'.out]; omega) (hT4.below hb) hf'.out)
    have ST := Lib.hid (fun W hb => set_calls l p c W (by rw [hN'.out]; omega) (hT4.below hb) hf'.out)
    rw [hN'.out] at RW ST
    have hsl : (setT l).length ≤ 60 := by
      have := setT_len l l.length
      rw [List.take_of_length_le (Nat.le_refl _), hN'.out] at this
      omega
    have hsl' := Lib.hid hsl
    have hT4' := Lib.hid hT4
    clear hB4 T3' Wr' B3' Rd hT4 hsl e3
    obtain ⟨S, hS⟩ : ∃ S, setT l = S := ⟨_, rfl⟩
    rw [hS] at Rd' RW ST hsl' ⊢
    obtain ⟨D, hD⟩ : ∃ D, dumpB S = D := ⟨_, rfl⟩
    rw [hD] at Rd' RW ⊢
    have heq : (D.toList == D.toList) = true := by simp
    go_wp2_with fail
    refine Rd'.out.mono ?_
    rintro e w5 ⟨v5, rfl, hT5, hB5⟩
    obtain ⟨p5, c5, rfl, hh5⟩ := tbase hT5
    have hh5' := Lib.hid hh5
    have T5' := Lib.hid (T4'.out.later hB5)
    have B5' := Lib.hid (B4'.out.trans (hB5.mono B4'.out.size))
    have b5' := Lib.hid hB5
    clear hT5 hh5 hB5 Rd' T4'
    go_wp2_with fail
    refine (RW.out _ b5'.out).mono ?_
    rintro e w6 ⟨rfl, hB6⟩
    have hh6' := Lib.hid (hh5'.out.below hB6)
    have T6' := Lib.hid (T5'.out.later hB6)
    have B6' := Lib.hid (B5'.out.trans (hB6.mono B5'.out.size))
    have b6' := Lib.hid (b5'.out.trans (hB6.mono b5'.out.size))
    clear hB6 hh5' T5' B5' b5' RW
    go_wp2_with fail
    refine (ST.out _ b6'.out).mono ?_
    rintro e w7 ⟨v7, rfl, hT7, hB7⟩
    obtain ⟨p7, c7, rfl, hh7⟩ := tbase hT7
    have S1 := Lib.hid (same_calls S p5 p7 c5 c7 w7 (by have := hsl'.out; omega) (hh6'.out.below hB7) hh7)
    have T7' := Lib.hid (T6'.out.later hB7)
    have B7' := Lib.hid (B6'.out.trans (hB7.mono B6'.out.size))
    have b7' := Lib.hid (b6'.out.trans (hB7.mono b6'.out.size))
    clear hT7 hh7 hB7 hh6' T6' B6' b6' ST
    go_wp2_with fail
    refine S1.out.mono ?_
    rintro e w8 ⟨rfl, hB8⟩
    have b8 := b7'.out.trans (hB8.mono b7'.out.size)
    have S2 := same_calls l p3 p c3 c w8 (by rw [hN'.out]; omega) (T7'.out.later hB8).holds (hT4'.out.below b8)
    rw [hN'.out] at S2
    have S2' := Lib.hid S2
    have B8' := Lib.hid (B7'.out.trans (hB8.mono B7'.out.size))
    clear b8 S2 hB8 S1 T7' B7' b7'
    go_wp2_with fail
    refine S2'.out.mono ?_
    rintro e w9 ⟨rfl, hB9⟩
    have B9' := Lib.hid (B8'.out.trans (hB9.mono B8'.out.size))
    clear hB9 S2' B8'
    go_wp2_with fail
    go_ret
    exact ⟨rfl, B9'.out⟩
end Go.Proofs.YtkmdlpkdoplpdaaDoor
