/- Walks: fixed. -/
import Derived.Test.YtnbalmnpcdnidaaDoorW5
namespace Go.Proofs.YtnbalmnpcdnidaaDoor
open Go.RowKit
def tup0 : Tup := ⟨⟨#[100, 111, 99]⟩, ⟨#[49]⟩, ⟨#[118, 105, 101, 119, 101, 114]⟩, ⟨#[103, 114, 111, 117, 112]⟩, ⟨#[51]⟩, ⟨#[109, 101, 109, 98, 101, 114]⟩⟩
def text0 : ByteArray := ⟨#[100, 111, 99, 58, 49, 35, 118, 105, 101, 119, 101, 114, 64, 103, 114, 111, 117, 112, 58, 51, 35, 109, 101, 109, 98, 101, 114]⟩
theorem tup0_ok : tup0.ok = true := by decide +kernel
theorem tup0_print : tup0.print = text0 := by
  have h : tup0.print.data.toList = text0.data.toList := by decide +kernel
  rw [← Lib.mk_data tup0.print, h, Lib.mk_data]
theorem text0_parse : parseV text0 = .tuple #[tup0.v, .int .i64 0] := by
  have h : parseOk text0 = true := by decide +kernel
  have e : parseT text0 = tup0 := by kernel_rfl
  unfold parseV; rw [if_pos h, e]
theorem nil_parse : parseV ⟨#[]⟩ = .tuple #[Tup.zero.v, .int .i64 9] := by
  have h : parseOk ⟨#[]⟩ = false := by decide +kernel
  unfold parseV; rw [h]; rfl
theorem tup0_fits : tup0.fits := by
  intro p hp
  have : p.size ≤ 32 := by simp [Tup.l, tup0] at hp; rcases hp with rfl | rfl | rfl | rfl | rfl | rfl <;> decide
  unfold maxLen; omega
set_option maxHeartbeats 1000000 in
theorem fixed_calls (w : World) :
    Calls Tryd.prog 9 #[] w fun e w' => e = .returned (.bool true) ∧ Below w.heap.size w w' := by
  go_enter Tryd.func9, Tryd.ntmps9
  go_wp2_with fail
  refine (print_yes tup0 _ tup0_fits tup0_ok).mono ?_
  rw [tup0_print]
  rintro e w1 ⟨rfl, hb1⟩; obtain ⟨hc1, hf1⟩ := bcell hb1
  have y1 : w.heap.size < w1.heap.size := by have := hb1.size; simp at this; omega
  go_wp2_with fail
  refine (parse_calls text0 _ (by decide)).mono ?_
  rw [text0_parse]
  rintro e w2 ⟨rfl, hb2⟩; obtain ⟨hc2, hf2⟩ := bcell hb2
  have y2 : w.heap.size < w2.heap.size := by have := hb2.size; omega
  go_wp2_with fail
  refine (parse_calls ⟨#[]⟩ _ (by decide)).mono ?_
  rw [nil_parse]
  rintro e w3 ⟨rfl, hb3⟩; obtain ⟨hc3, hf3⟩ := bcell hb3
  have z3 : w2.heap.size < w3.heap.size := by have := hb3.size; simp at this; omega
  have y3 : w.heap.size < w3.heap.size := by omega
  have tl : text0.toList = [100, 111, 99, 58, 49, 35, 118, 105, 101, 119, 101, 114, 64, 103, 114, 111, 117, 112, 58, 51, 35, 109, 101, 109, 98, 101, 114] := by decide +kernel
  have ta : tup0.a.toList = [100, 111, 99] := by decide +kernel
  have tb : tup0.b.toList = [49] := by decide +kernel
  have tc : tup0.c.toList = [118, 105, 101, 119, 101, 114] := by decide +kernel
  have td : tup0.d.toList = [103, 114, 111, 117, 112] := by decide +kernel
  have te : tup0.e.toList = [51] := by decide +kernel
  have tf : tup0.f.toList = [109, 101, 109, 98, 101, 114] := by decide +kernel
  have B3 : Below w.heap.size w w3 := ((((Below.refl _ _).alloc (Nat.le_refl _) _).trans (hb1.mono (by simp))).trans (hb2.mono (by omega))).alloc (by omega) _ |>.trans (hb3.mono (by simp; omega))
  go_wp2
  go_ret
  exact ⟨rfl, B3.alloc (by omega) _⟩
end Go.Proofs.YtnbalmnpcdnidaaDoor
