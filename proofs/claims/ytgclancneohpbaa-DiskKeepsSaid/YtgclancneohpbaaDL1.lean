/- The laws of layer 1: their fixed calls. -/
import Derived.Test.YtgclancneohpbaaDAt
import Derived.Lib.SlBytesConst
namespace Go.Proofs.Ytgclancneohpbaa
open Go.RowKit Go.Maps Go.Shelf
def fix1 : RD := (RD.new 100).create [97]
def fix2 : RD := fix1.append [97] [120, 121, 122]
def fix3 : RD := fix2.syncDir
def fix4 : RD := fix3.sync [97]
def fix5 : RD := fix4.crash []
theorem fix_e1 : (RD.new 100).createE [97] = 0 := by kernel_rfl
theorem fix_e2 : fix1.appE [97] 3 = 0 := by kernel_rfl
theorem fix_e3 : fix2.syncDirE = 0 := by kernel_rfl
theorem fix_e4 : fix3.syncE [97] = 0 := by kernel_rfl
theorem fix_e5 : fix5.findE [97] = 0 := by kernel_rfl
theorem fix_e6 : fix5.readB [97] = [120, 121, 122] := by kernel_rfl
theorem fix_e7 : fix5.list = [[97]] := by kernel_rfl
theorem fix_e8 : fix5.usedA = 3 := by kernel_rfl
theorem bytes_lit3 (w : World) (a b c : UInt8) (fr : Nat × Nat) : Bytes (w.alloc (.cells #[.int .u8 a.toNat, .int .u8 b.toNat, .int .u8 c.toNat] 5 fr)) (.slice (some ⟨w.heap.size, 0, none⟩) 3 3) [a, b, c] := by
  refine .inl (.inr ⟨w.heap.size, 0, 3, rfl, Nat.le_refl _, fun i x hx => ?_⟩)
  rw [Nat.zero_add, World.cell?_alloc_mark]
  rcases i with _ | _ | _ | i
  · obtain rfl := Option.some.inj hx; rfl
  · obtain rfl := Option.some.inj hx; rfl
  · obtain rfl := Option.some.inj hx; rfl
  · simp at hx
theorem conv_bytes (w : World) (C : Array Value) (n c : Nat) : (convert 51 51 (.slice (some ⟨w.heap.size, 0, none⟩) n c)).run Try.prog (w.alloc (.cells C 5)) = .ok (.slice (some ⟨w.heap.size, 0, none⟩) n c) (w.alloc (.cells C 5 (C.size, C.size + 1))) :=
  Lib.run_convert_bytes_const (P := Try.prog) w 51 5 C n c Try.underlying51 Try.underlying5
set_option maxHeartbeats 2000000 in
set_option maxRecDepth 100000 in
theorem fixed01_calls (w : World) : Calls Try.prog 21 #[] w fun e w' => e = .returned (.bool true) ∧ Below w.heap.size w w' := by
  go_enter Try.func21, Try.ntmps21
  go_wp2_with fail
  refine (new_at 100 w).mono ?_
  rintro e w1 ⟨rfl, h1⟩
  have c1 := create_at h1 ⟨#[97]⟩ (by decide) (by omega)
  rw [show (RD.new 100).createE (⟨#[97]⟩ : ByteArray).data.toList = 0 from fix_e1] at c1
  have c1' := Lib.hid c1
  clear c1
  go_wp2_with fail
  refine c1'.out.mono ?_
  rintro e w2 ⟨rfl, h2⟩
  have h2 : At w w2 (w.heap.size + 2) fix1 1 := h2
  have b2 := (Below.refl w2.heap.size w2).alloc (Nat.le_refl _) (.cells #[.int .u8 120, .int .u8 121, .int .u8 122] 5 (3, 4))
  have c2 := append_at h2 b2 ⟨#[97]⟩ (bytes_lit3 w2 120 121 122 (3, 4)) (fun g hg => .inl (by obtain rfl := Option.some.inj hg; exact Nat.le_refl _)) (by decide) (by omega) (by decide)
  rw [show fix1.appE (⟨#[97]⟩ : ByteArray).data.toList ([120, 121, 122] : List UInt8).length = 0 from fix_e2] at c2
  have c2' := Lib.hid c2
  have kc := conv_bytes w2 #[.int .u8 120, .int .u8 121, .int .u8 122] 3 3
  clear c2 h1
  go_wp2_with fail
  refine c2'.out.mono ?_
  rintro e w3 ⟨rfl, h3⟩
  have h3 : At w w3 (w.heap.size + 2) fix2 2 := h3
  have c3 := syncDir_at h3
  rw [fix_e3] at c3
  have c3' := Lib.hid c3
  clear c3 h2 b2 c2' c1' kc
  go_wp2_with fail
  refine c3'.out.mono ?_
  rintro e w4 ⟨rfl, h4⟩
  have h4 : At w w4 (w.heap.size + 2) fix3 2 := h4
  have c4 := sync_at h4 ⟨#[97]⟩ (by decide)
  rw [show fix3.syncE (⟨#[97]⟩ : ByteArray).data.toList = 0 from fix_e4] at c4
  have c4' := Lib.hid c4
  clear c4 h3 c3'
  go_wp2_with fail
  refine c4'.out.mono ?_
  rintro e w5 ⟨rfl, h5⟩
  have h5 : At w w5 (w.heap.size + 2) fix4 2 := h5
  have c5 := crash_at h5 (Below.refl _ _) (v := .slice none 0 0) (keep := []) (.inl (.inl ⟨rfl, rfl⟩)) (fun g hg => by cases hg) (by omega) (by decide)
  have c5' := Lib.hid c5
  clear c5 h4 c4'
  go_wp2_with fail
  refine c5'.out.mono ?_
  rintro e w6 ⟨rfl, h6⟩
  have h6 : At w w6 (w.heap.size + 2) fix5 2 := h6
  have c6 := read_at h6 ⟨#[97]⟩ (by omega) (by decide)
  rw [show fix5.findE (⟨#[97]⟩ : ByteArray).data.toList = 0 from fix_e5, show fix5.readB (⟨#[97]⟩ : ByteArray).data.toList = [120, 121, 122] from fix_e6] at c6
  have c6' := Lib.hid c6
  clear c6 h5 c5'
  go_wp2_with fail
  refine c6'.out.mono ?_
  rintro e w7 ⟨v7, rfl, r7, b7⟩
  have h7 := h6.later b7
  have s7 := bytes_string (Bytes.of_own r7)
  have c7 := list_at h7 (by omega)
  rw [fix_e7] at c7
  have c7' := Lib.hid c7
  clear c7 h6 c6' r7
  go_wp2_with fail
  refine c7'.out.mono ?_
  rintro e w8 ⟨v8, rfl, r8, _, b8⟩
  have h8 := h7.later b8
  obtain ⟨p8, c8, rfl⟩ := own_slice r8
  have c8 := used_at h8
  rw [fix_e8] at c8
  have c8' := Lib.hid c8
  clear c8 h7 c7' r8 s7
  go_wp2_with fail
  refine c8'.out.mono ?_
  rintro e w9 ⟨rfl, rfl⟩
  have hB := h8.below
  go_wp2
  go_ret
  exact ⟨rfl, hB⟩
end Go.Proofs.Ytgclancneohpbaa
