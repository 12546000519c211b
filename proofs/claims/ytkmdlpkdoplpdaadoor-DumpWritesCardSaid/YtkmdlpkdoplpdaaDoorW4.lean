/- Walks: tuple.Parse. -/
import Derived.Test.YtkmdlpkdoplpdaaDoorW3
import Derived.Test.YtkmdlpkdoplpdaaDoorCut
namespace Go.Proofs.YtkmdlpkdoplpdaaDoor
open Go.RowKit

/-- the tuple that a text may tell -/
def parseT (s : ByteArray) : Tup :=
  ⟨cA 58 (cA 35 (cA 64 s)), cB 58 (cA 35 (cA 64 s)), cB 35 (cA 64 s), cA 58 (cA 35 (cB 64 s)), cB 58 (cA 35 (cB 64 s)), cB 35 (cB 64 s)⟩
def parseOk (s : ByteArray) : Bool := (parseT s).ok && !(cH 35 (cB 64 s) && (cB 35 (cB 64 s)).toList.isEmpty)
def parseV (s : ByteArray) : Value := if parseOk s then .tuple #[(parseT s).v, .int .i64 0] else .tuple #[Tup.zero.v, .int .i64 9]
theorem parseT_fits (s : ByteArray) (hs : s.size ≤ maxLen) : (parseT s).fits := by
  intro p hp
  have h1 := cA_le 64 s
  have h2 := cB_le 64 s
  have h3 := cA_le 35 (cA 64 s)
  have h4 := cB_le 35 (cA 64 s)
  have h5 := cA_le 35 (cB 64 s)
  have h6 := cB_le 35 (cB 64 s)
  have h7 := cA_le 58 (cA 35 (cA 64 s))
  have h8 := cB_le 58 (cA 35 (cA 64 s))
  have h9 := cA_le 58 (cA 35 (cB 64 s))
  have h10 := cB_le 58 (cA 35 (cB 64 s))
  simp [Tup.l, parseT] at hp
  rcases hp with rfl | rfl | rfl | rfl | rfl | rfl <;> omega
theorem check_ok {t : Tup} (h : t.check = 0) : t.ok = true := by
  unfold Tup.check at h
  cases ho : t.ok <;> simp [ho] at h ⊢
theorem check_no {t : Tup} (h : ¬ t.check = 0) : t.ok = false := by
  unfold Tup.check at h
  cases ho : t.ok <;> simp [ho] at h ⊢
theorem parseV_no1 (s : ByteArray) (h1 : cH 35 (cB 64 s) = true) (h2 : (cB 35 (cB 64 s)).toList.isEmpty = true) : parseV s = .tuple #[Tup.zero.v, .int .i64 9] := by
  simp [parseV, parseOk, h1, h2]
theorem parseV_no2 (s : ByteArray) (h : ¬ (parseT s).check = 0) : parseV s = .tuple #[Tup.zero.v, .int .i64 9] := by
  simp [parseV, parseOk, check_no h]
theorem parseV_yes1 (s : ByteArray) (h : (parseT s).check = 0) (h2 : (cB 35 (cB 64 s)).toList.isEmpty = false) : parseV s = .tuple #[(parseT s).v, .int .i64 0] := by
  simp [parseV, parseOk, check_ok h, h2]
theorem parseV_yes2 (s : ByteArray) (h : (parseT s).check = 0) (h2 : ¬ cH 35 (cB 64 s) = true) : parseV s = .tuple #[(parseT s).v, .int .i64 0] := by
  simp [parseV, parseOk, check_ok h, h2]
set_option maxHeartbeats 1000000 in
theorem parse_calls (s : ByteArray) (w : World) (hs : s.size ≤ maxLen) :
    Calls Tryd.prog 39 #[.string s] w fun e w' => e = .returned (parseV s) ∧ Below w.heap.size w w' := by
  have h1 := Nat.le_trans (cA_le 64 s) hs
  have h2 := Nat.le_trans (cB_le 64 s) hs
  have h3 := Nat.le_trans (cA_le 35 (cA 64 s)) h1
  have h5 := Nat.le_trans (cA_le 35 (cB 64 s)) h2
  have hf := parseT_fits s hs
  go_enter Tryd.func39, Tryd.ntmps39
  go_wp2_with fail
  refine (cut_calls _ _ _ hs).mono ?_; rintro e w1 ⟨rfl, hb1⟩; obtain ⟨hc1, hf1⟩ := bcell hb1
  have y1 : w.heap.size < w1.heap.size := by have := hb1.size; simp at this; omega
  go_wp2_with fail
  refine (cut_calls _ _ _ h1).mono ?_; rintro e w2 ⟨rfl, hb2⟩; obtain ⟨hc2, hf2⟩ := bcell hb2
  have y2 : w.heap.size < w2.heap.size := by have := hb2.size; omega
  go_wp2_with fail
  refine (cut_calls _ _ _ h2).mono ?_; rintro e w3 ⟨rfl, hb3⟩; obtain ⟨hc3, hf3⟩ := bcell hb3
  have y3 : w.heap.size < w3.heap.size := by have := hb3.size; omega
  go_wp2_with fail
  refine (cut_calls _ _ _ h3).mono ?_; rintro e w4 ⟨rfl, hb4⟩; obtain ⟨hc4, hf4⟩ := bcell hb4
  have z4 : w3.heap.size < w4.heap.size := by have := hb4.size; simp at this; omega
  have y4 : w.heap.size < w4.heap.size := by omega
  go_wp2_with fail
  refine (cut_calls _ _ _ h5).mono ?_; rintro e w5 ⟨rfl, hb5⟩; obtain ⟨hc5, hf5⟩ := bcell hb5
  have z5 : w3.heap.size < w5.heap.size := by have := hb5.size; simp at this; omega
  have y5 : w.heap.size < w5.heap.size := by omega
  go_wp2_with fail
  refine (tuple_calls (parseT s) _).mono ?_; rintro e w6 ⟨rfl, hb6⟩; obtain ⟨hc6, hf6⟩ := bcell hb6
  have z6 : w5.heap.size ≤ w6.heap.size := by have := hb6.size; simp at this; omega
  have y6 : w.heap.size < w6.heap.size := by omega
  go_wp2_with fail
  refine (check_calls (parseT s) _ hf).mono ?_; rintro e w7 ⟨rfl, hb7⟩; obtain ⟨hc7, hf7⟩ := bcell hb7
  have z7 : w6.heap.size < w7.heap.size := by have := hb7.size; simp at this; omega
  have y7 : w.heap.size < w7.heap.size := by omega
  have C1 : Below (w.heap.size + 1) (w.alloc (.cells #[.string ⟨#[]⟩, .string ⟨#[]⟩, .string ⟨#[]⟩, .string ⟨#[]⟩, .string ⟨#[]⟩, .string ⟨#[]⟩] 37)) w1 := hb1.mono (by simp)
  have C3 := (C1.trans (hb2.mono (by omega))).trans (hb3.mono (by omega))
  have C4 := (C3.alloc (by omega) _).trans (hb4.mono (by simp; omega))
  have C5 := (((C4.setCell (p := ⟨w3.heap.size, 0, none⟩) (by simp; omega) _).setCell (p := ⟨w3.heap.size, 1, none⟩) (by simp; omega) _).setCell (p := ⟨w3.heap.size, 2, none⟩) (by simp; omega) _).trans (hb5.mono (by simp; omega))
  have C6 := (((C5.setCell (p := ⟨w3.heap.size, 3, none⟩) (by simp; omega) _).setCell (p := ⟨w3.heap.size, 4, none⟩) (by simp; omega) _).setCell (p := ⟨w3.heap.size, 5, none⟩) (by simp; omega) _).trans (hb6.mono (by simp; omega))
  have C7 := (C6.alloc (by omega) _).trans (hb7.mono (by simp; omega))
  have B7 : Below w.heap.size w w7 := ((Below.refl _ _).alloc (Nat.le_refl _) _).trans (C7.mono (by omega))
  have q0 : w7.cell? ⟨w.heap.size, 0, none⟩ = some (.string ⟨#[]⟩) := (C7.cell (p := ⟨w.heap.size, 0, none⟩) (by simp)).trans (by simp [go_sem])
  have q1 : w7.cell? ⟨w.heap.size, 1, none⟩ = some (.string ⟨#[]⟩) := (C7.cell (p := ⟨w.heap.size, 1, none⟩) (by simp)).trans (by simp [go_sem])
  have q2 : w7.cell? ⟨w.heap.size, 2, none⟩ = some (.string ⟨#[]⟩) := (C7.cell (p := ⟨w.heap.size, 2, none⟩) (by simp)).trans (by simp [go_sem])
  have q3 : w7.cell? ⟨w.heap.size, 3, none⟩ = some (.string ⟨#[]⟩) := (C7.cell (p := ⟨w.heap.size, 3, none⟩) (by simp)).trans (by simp [go_sem])
  have q4 : w7.cell? ⟨w.heap.size, 4, none⟩ = some (.string ⟨#[]⟩) := (C7.cell (p := ⟨w.heap.size, 4, none⟩) (by simp)).trans (by simp [go_sem])
  have q5 : w7.cell? ⟨w.heap.size, 5, none⟩ = some (.string ⟨#[]⟩) := (C7.cell (p := ⟨w.heap.size, 5, none⟩) (by simp)).trans (by simp [go_sem])
  have fz : ∀ o, w7.frozen? ⟨w.heap.size, o, none⟩ = false := fun o => (C7.frozen (p := ⟨w.heap.size, o, none⟩) (by simp)).trans (by simp [go_sem])
  clear hc1 hc2 hc3 hc4 hc5 hc6 hf1 hf2 hf3 hf4 hf5 hf6 C1 C3 C4 C5 C6 C7 y1 y2 y3 y4 y5 y6 y7 hb1 hb2 hb3 hb4 hb5 hb6 hb7
  go_wp2_with fail
  all_goals first
    | (have e : parseV s = .tuple #[Tup.zero.v, .int .i64 9] := by
         first
           | exact parseV_no1 s (by assumption) (by assumption)
           | exact parseV_no2 s (by assumption)
       rw [e]
       refine bodyPost_ret (v := .tuple #[Tup.zero.v, .int .i64 9]) (by simp [results, Tryd.results39, go_sem, q0, q1, q2, q3, q4, q5, Tup.zero]) rfl ⟨rfl, ?_⟩
       exact (((((B7.setCell (by simp) _).setCell (by simp) _).setCell (by simp) _).setCell (by simp) _).setCell (by simp) _).setCell (by simp) _)
    | (have e : parseV s = .tuple #[(parseT s).v, .int .i64 0] := by
         first
           | exact parseV_yes1 s (by assumption) (by assumption)
           | exact parseV_yes2 s (by assumption) (by assumption)
       rw [e]
       refine bodyPost_ret (v := .tuple #[(parseT s).v, .int .i64 0]) (by simp [results, Tryd.results39, go_sem, q0, q1, q2, q3, q4, q5]) rfl ⟨rfl, ?_⟩
       exact (((((B7.setCell (by simp) _).setCell (by simp) _).setCell (by simp) _).setCell (by simp) _).setCell (by simp) _).setCell (by simp) _)
end Go.Proofs.YtkmdlpkdoplpdaaDoor
