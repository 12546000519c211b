/- Walks: the law's fixed calls, and the law DumpReads. -/
import Derived.Test.YtkmdlpkdoplpdaaDoorUQ3
import Derived.Test.YtkmdlpkdoplpdaaDoorUL4
namespace Go.Proofs.YtkmdlpkdoplpdaaDoor
open Go.RowKit
theorem tbase {w W : World} {v : Value} {l : List Tup} (h : TOwn w.heap.size W v l) : ∃ p c, v = .slice p l.length c ∧ holdsT W p l := by
  obtain ⟨p, c, rfl⟩ := h.slice
  exact ⟨p, c, rfl, h.holds⟩
set_option maxHeartbeats 1000000 in
set_option maxRecDepth 100000 in
theorem fixed_calls (w : World) (htab : Tb w.heap.size w) :
    Calls Tryd.prog 5 #[] w fun e w' => e = .returned (.bool true) ∧ Below w.heap.size w w' := by
  have htb : ∀ w', Below w.heap.size w w' → Tb w'.heap.size w' := fun w' hb => fun w'' h2 => (htab.step hb) w'' (h2.mono hb.size)
  have R1 := read_calls ⟨#[100, 117, 109, 112, 32, 49, 10, 101, 110, 100, 32, 48, 10]⟩ w (by decide) htab
  rw [← dump_none, dread_dump List.Pairwise.nil (fun _ h => by cases h), dump_none] at R1
  have R2 := fun W hW => read_calls ⟨#[]⟩ W (by decide) hW
  rw [dread_short (out := []) (k := 1) (s := ⟨#[]⟩) (by unfold cH; simp [cut1])] at R2
  have W1 := fun W hW => write_calls [] none 0 W (by simp) (fun _ _ h => by cases h) (fun _ h => by cases h) hW
  rw [show setT [] = [] from rfl, dump_none] at W1
  have R1' := Lib.hid R1
  have R2' := Lib.hid R2
  have W1' := Lib.hid W1
  have htb' := Lib.hid htb
  clear R1 R2 W1 htb htab
  go_enter Tryd.func5, Tryd.ntmps5
  go_wp2_with fail
  refine R1'.out.mono ?_
  rintro e w1 ⟨v1, rfl, hT1, hB1⟩
  obtain ⟨p1, c1, rfl⟩ := hT1.slice
  have hB1' := Lib.hid hB1
  clear hT1 hB1 R1'
  go_wp2_with fail
  refine (R2'.out _ (htb'.out _ hB1'.out)).mono ?_
  rintro e w2 ⟨v2, rfl, hT2, hB2⟩
  obtain ⟨p2, c2, rfl⟩ := hT2.slice
  have hB2' := Lib.hid (hB1'.out.trans (hB2.mono hB1'.out.size))
  clear hT2 hB2 R2'
  go_wp2_with fail
  refine (W1'.out _ (htb'.out _ hB2'.out)).mono ?_
  rintro e w3 ⟨rfl, hB3⟩
  have hB3' := Lib.hid (hB2'.out.trans (hB3.mono hB2'.out.size))
  clear hB3 W1'
  go_wp2_with fail
  go_ret
  exact ⟨rfl, hB3'.out⟩
set_option maxHeartbeats 1000000 in
set_option maxRecDepth 100000 in
theorem dumpReads_calls (s : ByteArray) (w : World) (hs : s.size ≤ maxLen) (htab : Tb w.heap.size w) :
    Calls Tryd.prog 4 #[.string s] w fun e w' => e = .returned (.bool true) ∧ Below w.heap.size w w' := by
  have htb : ∀ w', Below w.heap.size w w' → Tb w'.heap.size w' := fun w' hb => fun w'' h2 => (htab.step hb) w'' (h2.mono hb.size)
  have F := fixed_calls w htab
  have hsm : (s.size : Int) ≤ 9223372036854775807 := by unfold maxLen at hs; omega
  have F' := Lib.hid F
  have htb' := Lib.hid htb
  clear F htb htab
  by_cases hlen : s.size ≤ 3000
  · have R1 := fun W hW => read_calls s W (by omega) hW
    have R2 := fun W => refRead_calls s W (by omega)
    obtain ⟨R, hR⟩ : ∃ R, dread [] 1 false s = R := ⟨_, rfl⟩
    rw [hR] at R1 R2
    obtain ⟨ts, k, ee⟩ := R
    have hkn : ts.length ≤ 1000000 := by
      have := dread_len s [] 1 false
      rw [hR] at this
      simp at this; omega
    have hl2 : ¬ (3000 : Int) < (s.size : Int) := by omega
    have R1' := Lib.hid R1
    have R2' := Lib.hid R2
    clear R1 R2 hR
    go_enter Tryd.func4, Tryd.ntmps4
    go_wp2_with fail
    refine F'.out.mono ?_
    rintro e w1 ⟨rfl, hB1⟩
    have hB1' := Lib.hid hB1
    clear hB1 F'
    go_wp2_with fail
    refine (R1'.out _ (htb'.out _ hB1'.out)).mono ?_
    rintro e w2 ⟨v2, rfl, hT2, hB2⟩
    obtain ⟨p2, c2, rfl, hh2⟩ := tbase hT2
    have hB2' := Lib.hid (hB1'.out.trans (hB2.mono hB1'.out.size))
    have hh2' := Lib.hid hh2
    clear hT2 hB2 R1' hh2
    go_wp2_with fail
    refine (R2'.out _).mono ?_
    rintro e w3 ⟨v3, rfl, hT3, hB3⟩
    obtain ⟨p3, c3, rfl, hh3⟩ := tbase hT3
    have hB3' := Lib.hid (hB2'.out.trans (hB3.mono hB2'.out.size))
    have hS := Lib.hid (same_calls ts p2 p3 c2 c3 w3 hkn (hh2'.out.below hB3) hh3)
    clear hT3 hB3 R2' hh3 hh2'
    go_wp2_with fail
    refine hS.out.mono ?_
    rintro e w4 ⟨rfl, hB4⟩
    have hB4' := Lib.hid (hB3'.out.trans (hB4.mono hB3'.out.size))
    clear hB4 hS
    go_wp2_with fail
    go_ret
    exact ⟨rfl, hB4'.out⟩
  · have hl2 : (3000 : Int) < (s.size : Int) := by omega
    go_enter Tryd.func4, Tryd.ntmps4
    go_wp2_with fail
    refine F'.out.mono ?_
    rintro e w1 ⟨rfl, hB1⟩
    have hB1' := Lib.hid hB1
    clear hB1 F'
    go_wp2_with fail
    go_ret
    exact ⟨rfl, hB1'.out⟩
end Go.Proofs.YtkmdlpkdoplpdaaDoor
