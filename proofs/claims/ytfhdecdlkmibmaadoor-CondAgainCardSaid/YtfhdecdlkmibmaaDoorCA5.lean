/- Walks: conditions: names. -/
import Derived.Test.YtfhdecdlkmibmaaDoorCA4
import Derived.Test.YtfhdecdlkmibmaaDoorW1
namespace Go.Proofs.YtfhdecdlkmibmaaDoor
open Go.RowKit
def wordsB : List ByteArray := [⟨#[97, 110, 100]⟩, ⟨#[111, 114]⟩, ⟨#[110, 111, 116]⟩, ⟨#[105, 110]⟩, ⟨#[116, 114, 117, 101]⟩, ⟨#[102, 97, 108, 115, 101]⟩]
def wordsO : Obj := .cells #[.string ⟨#[97, 110, 100]⟩, .string ⟨#[111, 114]⟩, .string ⟨#[110, 111, 116]⟩, .string ⟨#[105, 110]⟩, .string ⟨#[116, 114, 117, 101]⟩, .string ⟨#[102, 97, 108, 115, 101]⟩] 9
theorem words_calls (w : World) : Calls Tryd.prog 56 #[] w fun e w' => e = .returned (.slice (some ⟨w.heap.size, 0, none⟩) 6 6) ∧ w' = w.alloc wordsO := by
  unfold wordsO
  go_enter Tryd.func56, Tryd.ntmps56
  go_wp2
  go_ret
  exact ⟨rfl, rfl⟩
theorem words_cells (w : World) : ∀ j, j < wordsB.length → (w.alloc wordsO).cell? ⟨w.heap.size, 0 + j, none⟩ = some (.string (wordsB.getD j ByteArray.empty)) := by
  intro j hj
  have h := Blk.cell (Blk.new w 9 #[.string ⟨#[97, 110, 100]⟩, .string ⟨#[111, 114]⟩, .string ⟨#[110, 111, 116]⟩, .string ⟨#[105, 110]⟩, .string ⟨#[116, 114, 117, 101]⟩, .string ⟨#[102, 97, 108, 115, 101]⟩]) (0 + j)
  refine h.trans ?_
  match j, hj with
  | 0, _ => rfl
  | 1, _ => rfl
  | 2, _ => rfl
  | 3, _ => rfl
  | 4, _ => rfl
  | 5, _ => rfl
  | j + 6, hj => exact absurd hj (by show ¬ j + 6 < 6; omega)
theorem ba_eq (s a : ByteArray) : s = a ↔ s.data.toList = a.data.toList := by
  refine ⟨fun h => by rw [h], fun h => ?_⟩
  obtain ⟨⟨a⟩⟩ := a
  obtain ⟨⟨b⟩⟩ := s
  exact congrArg (fun l => (⟨⟨l⟩⟩ : ByteArray)) h
theorem words_has (s : ByteArray) : Lib.containsS (wordsB.take 6) s = wordsL.contains s.data.toList := by
  rw [Bool.eq_iff_iff, Lib.containsS_iff, List.contains_iff_mem]
  show s ∈ wordsB ↔ _
  unfold wordsB wordsL
  simp only [List.mem_cons, ba_eq s, List.not_mem_nil]
theorem has_45 (l : List UInt8) : decide (0 ≤ Lib.indexByte l 45) = l.contains 45 := (Lib.contains_iff_indexByte l 45).symm
set_option maxHeartbeats 2000000 in
theorem condName_calls (s : ByteArray) (w : World) (hs : s.size ≤ 4096) :
    Calls Tryd.prog 45 #[.string s] w fun e w' => e = .returned (.bool (isNameC s.data.toList)) ∧ Below w.heap.size w w' := by
  have D1 := isName_calls s w (by unfold maxLen; omega)
  have D2 := Tryd.strings_Contains_one s 45 w
  rw [has_45] at D2
  have D3 := words_calls w
  have D4 := Tryd.slices_Contains_string w.heap.size 0 6 6 wordsB s (w.alloc wordsO) (by decide) (by decide) (words_cells w)
  rw [words_has] at D4
  have hB := (Below.refl w.heap.size w).alloc (Nat.le_refl _) wordsO
  obtain ⟨W, eW⟩ : ∃ W, w.alloc wordsO = W := ⟨_, rfl⟩
  rw [eW] at D3 D4 hB
  cases hN : isName s.data.toList with
  | false =>
    have he : Hid (isNameC s.data.toList = false) := Lib.hid (by unfold isNameC; rw [hN]; rfl)
    rw [hN] at D1
    have D1' := Lib.hid D1
    clear D1 D2 D3 D4 hN
    go_enter Tryd.func45, Tryd.ntmps45
    go_wp2_with fail
    refine D1'.out.mono ?_
    rintro e w' ⟨rfl, rfl⟩
    go_wp2_with fail
    go_ret
    exact ⟨ret_bool he.out.symm, Below.refl _ _⟩
  | true =>
    have hn : 1 ≤ s.size := by
      have := hN
      unfold isName at this
      simp at this
      rw [Lib.size_eq]
      have := this.1.2
      simpa using this
    have hc0 : Hid (s.data.toList = s[0] :: s.data.toList.drop 1) := Lib.hid (drop_at s 0 (by omega))
    have hd : Hid (digAt s.data.toList = isDig s[0]) := Lib.hid (by rw [hc0.out]; rfl)
    have he : Hid (isNameC s.data.toList = (!isDig s[0] && !s.data.toList.contains 45 && !wordsL.contains s.data.toList)) := Lib.hid (by unfold isNameC; rw [hN, hd.out]; rfl)
    rw [hN] at D1
    have D1' := Lib.hid D1
    have D2' := Lib.hid D2
    have D3' := Lib.hid D3
    have D4' := Lib.hid D4
    have hdi := isDig_int s[0]
    clear D1 D2 D3 D4 hN
    cases hg : isDig s[0] with
    | true =>
      rw [hg] at hdi he
      have hx := Lib.hid hdi.symm
      have h1 : (48 : Int) ≤ (s[0].toNat : Int) := by have := hx.out; simp at this; omega
      have h2 : (s[0].toNat : Int) ≤ 57 := by have := hx.out; simp at this; omega
      clear hdi hg
      go_enter Tryd.func45, Tryd.ntmps45
      go_wp2_with fail
      refine D1'.out.mono ?_
      rintro e w' ⟨rfl, rfl⟩
      go_wp2_with fail
      go_ret
      exact ⟨ret_bool he.out.symm, Below.refl _ _⟩
    | false =>
      rw [hg] at hdi he
      have hx := Lib.hid hdi.symm
      have h1 : (s[0].toNat : Int) < 48 ∨ (57 : Int) < (s[0].toNat : Int) := by have := hx.out; simp at this; omega
      clear hdi hg
      rcases h1 with h1 | h1
      all_goals
        go_enter Tryd.func45, Tryd.ntmps45
        go_wp2_with fail
        refine D1'.out.mono ?_
        rintro e w' ⟨rfl, rfl⟩
        go_wp2_with fail
        refine D2'.out.mono ?_
        rintro e w' ⟨rfl, hw⟩
        obtain rfl := hw.symm
        cases hc : s.data.toList.contains 45
        · rw [hc] at he
          clear D2' hc
          go_wp2_with fail
          refine D3'.out.mono ?_
          rintro e w' ⟨rfl, hw⟩
          obtain rfl := hw.symm
          go_wp2_with fail
          refine D4'.out.mono ?_
          rintro e w' ⟨rfl, hw⟩
          obtain rfl := hw.symm
          go_wp2_with fail
          go_ret
          exact ⟨ret_bool (by rw [he.out]; simp), hB⟩
        · rw [hc] at he
          clear D2' hc
          go_wp2_with fail
          go_ret
          exact ⟨ret_bool he.out.symm, Below.refl _ _⟩
end Go.Proofs.YtfhdecdlkmibmaaDoor
