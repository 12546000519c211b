/- Walks: the reference's Parse. -/
import Derived.Test.YtkmdlpkdoplpdaaDoorW11
import Derived.Test.YtkmdlpkdoplpdaaDoorRParse
import Derived.Lib.SlBytesConst
namespace Go.Proofs.YtkmdlpkdoplpdaaDoor
open Go.RowKit
theorem upTo_c (s : ByteArray) (c : UInt8) (n : Int) (hn : n = c.toNat) (w : World) (hs : s.size ≤ maxLen) :
    Calls Tryd.prog 41 #[.string s, .int .u8 n] w fun e w' => e = .returned (.tuple #[.string (cA c s), .string (cB c s), .bool (cH c s)]) ∧ Below w.heap.size w w' := by
  subst hn; exact upTo_calls s c w hs
/-- the list of parts behind k cuts -/
def rC (s : ByteArray) : Nat → Array Value
  | 0 => #[.string ⟨#[]⟩, .string ⟨#[]⟩, .string ⟨#[]⟩, .string ⟨#[]⟩, .string ⟨#[]⟩, .string ⟨#[]⟩]
  | 1 => #[.string (rP s 0), .string ⟨#[]⟩, .string ⟨#[]⟩, .string ⟨#[]⟩, .string ⟨#[]⟩, .string ⟨#[]⟩]
  | 2 => #[.string (rP s 0), .string (rP s 1), .string ⟨#[]⟩, .string ⟨#[]⟩, .string ⟨#[]⟩, .string ⟨#[]⟩]
  | 3 => #[.string (rP s 0), .string (rP s 1), .string (rP s 2), .string ⟨#[]⟩, .string ⟨#[]⟩, .string ⟨#[]⟩]
  | _ => #[.string (rP s 0), .string (rP s 1), .string (rP s 2), .string (rP s 3), .string ⟨#[]⟩, .string ⟨#[]⟩]
/-- what holds of memory behind k cuts -/
structure RpF (s : ByteArray) (w : World) (k : Nat) (wr : World) : Prop where
  res : Blk wr w.heap.size 37 #[.string ⟨#[]⟩, .string ⟨#[]⟩, .string ⟨#[]⟩, .string ⟨#[]⟩, .string ⟨#[]⟩, .string ⟨#[]⟩]
  list : Blk wr (w.heap.size + 1) 9 (rC s k)
  seps : ∀ i, wr.cell? ⟨w.heap.size + 2, i, none⟩ = (#[.int .u8 58, .int .u8 35, .int .u8 64, .int .u8 58] : Array Value)[i]?
  below : Below w.heap.size w wr
  size : w.heap.size + 2 < wr.heap.size
theorem rO_t {s : ByteArray} {k : Nat} (h : rO s k = true) : rO s (k + 1) = cH (sepAt k) (rS s k) := by simp [rO, h]
theorem rO_f {s : ByteArray} {k : Nat} (h : ¬ rO s k = true) : rO s (k + 1) = false := by
  simp only [Bool.not_eq_true] at h; simp [rO, h]
theorem RpF.step {s : ByteArray} {w wr w3 : World} {k : Nat} {o : Obj} (hF : RpF s w k wr) (hb : Below (wr.heap.size + 1) (wr.alloc o) w3) (hk : (rC s k).setIfInBounds k (.string (rP s k)) = rC s (k + 1)) : RpF s w (k + 1) (w3.setCell ⟨w.heap.size + 1, k, none⟩ (.string (rP s k))) := by
  have hz := hF.size
  refine ⟨((hF.res.alloc o).below hb (by omega)).far (p := ⟨w.heap.size + 1, k, none⟩) (by simp) _, ?_, fun i => ?_, ((hF.below.alloc (by omega) o).trans (hb.mono (by omega))).setCell (p := ⟨w.heap.size + 1, k, none⟩) (by simp) _, ?_⟩
  · rw [← hk]; exact ((hF.list.alloc o).below hb (by omega)).set_ k _
  · rw [World.cell?_setCell_other _ _ _ _ (by intro e; injection e with e; omega), hb.cell (p := ⟨w.heap.size + 2, i, none⟩) (by simp; omega), World.cell?_alloc_lt _ _ _ (by simp; omega)]
    exact hF.seps i
  · have := hb.size; simp [World.setCell] at this ⊢; omega
set_option maxHeartbeats 2000000 in
set_option maxRecDepth 100000 in
theorem refParse_calls (s : ByteArray) (w : World) (hs : s.size ≤ maxLen) :
    Calls Tryd.prog 27 #[.string s] w fun e w' => e = .returned (rV s) ∧ Below w.heap.size w w' := by
  have start : RpF s w 0 (((w.alloc (.cells #[.string ⟨#[]⟩, .string ⟨#[]⟩, .string ⟨#[]⟩, .string ⟨#[]⟩, .string ⟨#[]⟩, .string ⟨#[]⟩] 37)).alloc (.cells #[.string ⟨#[]⟩, .string ⟨#[]⟩, .string ⟨#[]⟩, .string ⟨#[]⟩, .string ⟨#[]⟩, .string ⟨#[]⟩] 9)).alloc (.cells #[.int .u8 58, .int .u8 35, .int .u8 64, .int .u8 58] 5 (4, 5))) := by
    refine ⟨((Blk.new w _ _).alloc _).alloc _, ?_, fun i => ?_, (((Below.refl _ _).alloc (Nat.le_refl _) _).alloc (by simp) _).alloc (by simp; omega) _, by simp⟩
    · have h := (Blk.new (w.alloc (.cells #[.string ⟨#[]⟩, .string ⟨#[]⟩, .string ⟨#[]⟩, .string ⟨#[]⟩, .string ⟨#[]⟩, .string ⟨#[]⟩] 37)) 9 #[.string ⟨#[]⟩, .string ⟨#[]⟩, .string ⟨#[]⟩, .string ⟨#[]⟩, .string ⟨#[]⟩, .string ⟨#[]⟩]).alloc (.cells #[.int .u8 58, .int .u8 35, .int .u8 64, .int .u8 58] 5 (4, 5))
      simp only [World.size_alloc] at h
      exact h
    · have h := World.cell?_alloc_mark ((w.alloc (.cells #[.string ⟨#[]⟩, .string ⟨#[]⟩, .string ⟨#[]⟩, .string ⟨#[]⟩, .string ⟨#[]⟩, .string ⟨#[]⟩] 37)).alloc (.cells #[.string ⟨#[]⟩, .string ⟨#[]⟩, .string ⟨#[]⟩, .string ⟨#[]⟩, .string ⟨#[]⟩, .string ⟨#[]⟩] 9)) #[.int .u8 58, .int .u8 35, .int .u8 64, .int .u8 58] 5 (4, 5) i
      simp only [World.size_alloc] at h
      exact h
  have hmk : ∀ w, (Instr.makeSlice 38 (.int .i64 6) (.int .i64 6)).run Tryd.prog w = .ok (.slice (some ⟨w.heap.size, 0, none⟩) 6 6) (w.alloc (.cells #[.string ⟨#[]⟩, .string ⟨#[]⟩, .string ⟨#[]⟩, .string ⟨#[]⟩, .string ⟨#[]⟩, .string ⟨#[]⟩] 9)) := fun _ => by kernel_rfl
  have kc : ∀ (A B : Obj) (C : Array Value) (n c : Nat), (convert 68 68 (.slice (some ⟨w.heap.size + 1 + 1, 0, none⟩) n c)).run Tryd.prog (((w.alloc A).alloc B).alloc (.cells C 5)) = .ok (.slice (some ⟨w.heap.size + 1 + 1, 0, none⟩) n c) (((w.alloc A).alloc B).alloc (.cells C 5 (C.size, C.size + 1))) := fun A B C n c => by
    have h := Lib.run_convert_bytes_const (P := Tryd.prog) ((w.alloc A).alloc B) 68 5 C n c Tryd.underlying68 Tryd.underlying5
    simpa only [World.size_alloc] using h
  go_enter Tryd.func27, Tryd.ntmps27
  go_wp2_with fail
  go_loopw [5, 6, 17] (fun o r i wr => ∃ k : Nat, k ≤ 4 ∧ i = .int .i64 k ∧ o = .bool (rO s k) ∧ r = .string (rS s k) ∧ RpF s w k wr) (fun _ _ i _ => 4 - (intOf i).toNat)
  case atStart => exact ⟨0, by omega, rfl, rfl, rfl, start⟩
  case round =>
    obtain ⟨k, hk, rfl, rfl, rfl, hF⟩ := hrel
    have hz := hF.size
    have hsz := Nat.le_trans (rS_le s k) hs
    rcases k with _ | _ | _ | _ | k
    · have h1 := hF.seps
      go_wp2_with fail
      refine (upTo_c (rS s 0) (sepAt 0) _ (by decide) _ hsz).mono ?_
      rintro e w3 ⟨rfl, hb3⟩
      have hL := (hF.list.alloc _).below hb3 (by simp; omega)
      have h2 : ∀ i, w3.cell? ⟨w.heap.size + 1, i, none⟩ = (#[.string ⟨#[]⟩, .string ⟨#[]⟩, .string ⟨#[]⟩, .string ⟨#[]⟩, .string ⟨#[]⟩, .string ⟨#[]⟩] : Array Value)[i]? := hL.cell
      have h3 := hL.frozen
      have hS := hF.step (by simpa using hb3) rfl
      clear hL hb3 h1 hF
      go_wp2_with fail
      all_goals
        go_roundw
        case rel => exact ⟨1, by omega, by go_num, by first | rw [rO_t (by assumption)] | rw [rO_f (by assumption)], rfl, hS⟩
        case measure => simp [intOf]
    · have h1 := hF.seps
      go_wp2_with fail
      refine (upTo_c (rS s 1) (sepAt 1) _ (by decide) _ hsz).mono ?_
      rintro e w3 ⟨rfl, hb3⟩
      have hL := (hF.list.alloc _).below hb3 (by simp; omega)
      have h2 : ∀ i, w3.cell? ⟨w.heap.size + 1, i, none⟩ = (#[.string (rP s 0), .string ⟨#[]⟩, .string ⟨#[]⟩, .string ⟨#[]⟩, .string ⟨#[]⟩, .string ⟨#[]⟩] : Array Value)[i]? := hL.cell
      have h3 := hL.frozen
      have hS := hF.step (by simpa using hb3) rfl
      clear hL hb3 h1 hF
      go_wp2_with fail
      all_goals
        go_roundw
        case rel => exact ⟨2, by omega, by go_num, by first | rw [rO_t (by assumption)] | rw [rO_f (by assumption)], rfl, hS⟩
        case measure => simp [intOf]
    · have h1 := hF.seps
      go_wp2_with fail
      refine (upTo_c (rS s 2) (sepAt 2) _ (by decide) _ hsz).mono ?_
      rintro e w3 ⟨rfl, hb3⟩
      have hL := (hF.list.alloc _).below hb3 (by simp; omega)
      have h2 : ∀ i, w3.cell? ⟨w.heap.size + 1, i, none⟩ = (#[.string (rP s 0), .string (rP s 1), .string ⟨#[]⟩, .string ⟨#[]⟩, .string ⟨#[]⟩, .string ⟨#[]⟩] : Array Value)[i]? := hL.cell
      have h3 := hL.frozen
      have hS := hF.step (by simpa using hb3) rfl
      clear hL hb3 h1 hF
      go_wp2_with fail
      all_goals
        go_roundw
        case rel => exact ⟨3, by omega, by go_num, by first | rw [rO_t (by assumption)] | rw [rO_f (by assumption)], rfl, hS⟩
        case measure => simp [intOf]
    · have h1 := hF.seps
      go_wp2_with fail
      refine (upTo_c (rS s 3) (sepAt 3) _ (by decide) _ hsz).mono ?_
      rintro e w3 ⟨rfl, hb3⟩
      have hL := (hF.list.alloc _).below hb3 (by simp; omega)
      have h2 : ∀ i, w3.cell? ⟨w.heap.size + 1, i, none⟩ = (#[.string (rP s 0), .string (rP s 1), .string (rP s 2), .string ⟨#[]⟩, .string ⟨#[]⟩, .string ⟨#[]⟩] : Array Value)[i]? := hL.cell
      have h3 := hL.frozen
      have hS := hF.step (by simpa using hb3) rfl
      clear hL hb3 h1 hF
      go_wp2_with fail
      all_goals
        go_roundw
        case rel => exact ⟨4, by omega, by go_num, by first | rw [rO_t (by assumption)] | rw [rO_f (by assumption)], rfl, hS⟩
        case measure => simp [intOf]
    · obtain rfl : k = 0 := by omega
      have hT := rT_fits s hs
      go_wp2_with fail
      refine (upTo_c (rS s 4) 35 _ (by decide) _ hsz).mono ?_
      rintro e w3 ⟨rfl, hb3⟩
      have hL := hF.list.below hb3 (by omega)
      have hR := hF.res.below hb3 (by omega)
      have B3 := hF.below.trans (hb3.mono (by omega))
      have hz3 : w.heap.size + 2 < w3.heap.size := by have := hb3.size; omega
      have h2 : ∀ i, w3.cell? ⟨w.heap.size + 1, i, none⟩ = (#[.string (rP s 0), .string (rP s 1), .string (rP s 2), .string (rP s 3), .string ⟨#[]⟩, .string ⟨#[]⟩] : Array Value)[i]? := hL.cell
      have h3 := hL.frozen
      clear hb3 hF hz
      go_wp2_with fail
      have hL4 := (hL.set_ 4 (.string (cA 35 (rS s 4)))).set_ 5 (.string (cB 35 (rS s 4)))
      refine (of_ref_calls (rT s) (w.heap.size + 1) _ hL4.lt hL4).mono ?_
      rintro e w4 ⟨rfl, hb4⟩
      have hz4 : w.heap.size + 2 < w4.heap.size := by have := hb4.size; simp [World.setCell] at this; omega
      have hR4 := ((hR.far (p := ⟨w.heap.size + 1, 4, none⟩) (by simp) _).far (p := ⟨w.heap.size + 1, 5, none⟩) (by simp) _).below hb4 (by simp [World.setCell]; omega)
      have B4 := ((B3.setCell (p := ⟨w.heap.size + 1, 4, none⟩) (by simp) _).setCell (p := ⟨w.heap.size + 1, 5, none⟩) (by simp) _).trans (hb4.mono (by simp [World.setCell]; omega))
      clear hb4 hL4 hR B3 h2 h3 hL hz3
      cases hO : rO s 4
      · have e : rV s = .tuple #[Tup.zero.v, .int .i64 9] := by simp [rV, rOk, hO]
        have r1 : ∀ i, w4.cell? ⟨w.heap.size, i, none⟩ = (#[.string ⟨#[]⟩, .string ⟨#[]⟩, .string ⟨#[]⟩, .string ⟨#[]⟩, .string ⟨#[]⟩, .string ⟨#[]⟩] : Array Value)[i]? := hR4.cell
        have r2 := hR4.frozen
        have z4 : w.heap.size < w4.heap.size := by omega
        clear hR4
        go_wp2
        refine bodyPost_ret (v := .tuple #[Tup.zero.v, .int .i64 9]) (by simp [results, Tryd.results27, go_sem, r1, z4, Tup.zero]) rfl ⟨by rw [e], ?_⟩
        exact ((((((B4.setCell (p := ⟨w.heap.size, 0, none⟩) (by simp) _).setCell (p := ⟨w.heap.size, 1, none⟩) (by simp) _).setCell (p := ⟨w.heap.size, 2, none⟩) (by simp) _).setCell (p := ⟨w.heap.size, 3, none⟩) (by simp) _).setCell (p := ⟨w.heap.size, 4, none⟩) (by simp) _).setCell (p := ⟨w.heap.size, 5, none⟩) (by simp) _).alloc (by simp [World.setCell]; omega) _
      go_wp2_with fail
      have hRa := hR4.alloc (.cells #[.string (rT s).a, .string (rT s).b, .string (rT s).c, .string (rT s).d, .string (rT s).e, .string (rT s).f] 37)
      have hTa := Blk.new w4 37 #[.string (rT s).a, .string (rT s).b, .string (rT s).c, .string (rT s).d, .string (rT s).e, .string (rT s).f]
      refine (refCheck_calls (rT s) _ hT).mono ?_
      rintro e w5 ⟨rfl, hb5⟩
      have hR5 := hRa.below hb5 (by simp; omega)
      have hT5 := hTa.below hb5 (by simp)
      have B5 := (B4.alloc (by omega) _).trans (hb5.mono (by simp; omega))
      have hz5 : w.heap.size + 2 < w5.heap.size := by have := hb5.size; simp at this; omega
      clear hRa hTa hb5 hR4 B4 hz4
      cases hok : (rT s).ok
      · have e : rV s = .tuple #[Tup.zero.v, .int .i64 9] := by simp [rV, rOk, hok]
        have ec : (rT s).check = 2 := by simp [Tup.check, hok]
        have r1 : ∀ i, w5.cell? ⟨w.heap.size, i, none⟩ = (#[.string ⟨#[]⟩, .string ⟨#[]⟩, .string ⟨#[]⟩, .string ⟨#[]⟩, .string ⟨#[]⟩, .string ⟨#[]⟩] : Array Value)[i]? := hR5.cell
        have r2 := hR5.frozen
        clear hR5 hT5
        go_wp2
        refine bodyPost_ret (v := .tuple #[Tup.zero.v, .int .i64 9]) (by simp [results, Tryd.results27, go_sem, r1, Tup.zero]) rfl ⟨by rw [e], ?_⟩
        exact ((((((B5).setCell (by simp) _).setCell (by simp) _).setCell (by simp) _).setCell (by simp) _).setCell (by simp) _).setCell (by simp) _
      have ec : (rT s).check = 0 := by simp [Tup.check, hok]
      have r1 : ∀ i, w5.cell? ⟨w.heap.size, i, none⟩ = (#[.string ⟨#[]⟩, .string ⟨#[]⟩, .string ⟨#[]⟩, .string ⟨#[]⟩, .string ⟨#[]⟩, .string ⟨#[]⟩] : Array Value)[i]? := hR5.cell
      have q1 : ∀ i, w5.cell? ⟨w4.heap.size, i, none⟩ = (#[.string (rT s).a, .string (rT s).b, .string (rT s).c, .string (rT s).d, .string (rT s).e, .string (rT s).f] : Array Value)[i]? := hT5.cell
      go_wp2_with fail
      refine (refPrint_calls (rT s) _ hok).mono ?_
      rintro e w6 ⟨rfl, hb6⟩
      have hR6 := hR5.below hb6 (by omega)
      have hT6 := hT5.below hb6 hT5.lt
      have B6 := B5.trans (hb6.mono (by omega))
      clear r1 q1 hb6 hR5 hT5 B5
      have r1 : ∀ i, w6.cell? ⟨w.heap.size, i, none⟩ = (#[.string ⟨#[]⟩, .string ⟨#[]⟩, .string ⟨#[]⟩, .string ⟨#[]⟩, .string ⟨#[]⟩, .string ⟨#[]⟩] : Array Value)[i]? := hR6.cell
      have r2 := hR6.frozen
      have q1 : ∀ i, w6.cell? ⟨w4.heap.size, i, none⟩ = (#[.string (rT s).a, .string (rT s).b, .string (rT s).c, .string (rT s).d, .string (rT s).e, .string (rT s).f] : Array Value)[i]? := hT6.cell
      clear hR6 hT6
      cases hp : (rT s).print.toList == s.toList
      · have e : rV s = .tuple #[Tup.zero.v, .int .i64 9] := by simp only [rV, rOk, hp]; simp
        go_wp2
        refine bodyPost_ret (v := .tuple #[Tup.zero.v, .int .i64 9]) (by simp [results, Tryd.results27, go_sem, r1, Tup.zero]) rfl ⟨by rw [e], ?_⟩
        exact ((((((B6).setCell (by simp) _).setCell (by simp) _).setCell (by simp) _).setCell (by simp) _).setCell (by simp) _).setCell (by simp) _
      · have e : rV s = .tuple #[(rT s).v, .int .i64 0] := by simp only [rV, rOk, hp, hok, hO]; simp
        go_wp2
        refine bodyPost_ret (v := .tuple #[(rT s).v, .int .i64 0]) (by simp [results, Tryd.results27, go_sem, r1]) rfl ⟨by rw [e], ?_⟩
        exact ((((((B6).setCell (by simp) _).setCell (by simp) _).setCell (by simp) _).setCell (by simp) _).setCell (by simp) _).setCell (by simp) _
end Go.Proofs.YtkmdlpkdoplpdaaDoor
