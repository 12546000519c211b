/- The law DiskFuse: the plain part and the walk. -/
import Derived.Test.YtgclancneohpbaaDL1
namespace Go.Proofs.Ytgclancneohpbaa
open Go.RowKit Go.Maps Go.Shelf
def fuR (k i : Nat) : RD := ⟨1000, false, (k : Int) - i, [⟨List.replicate i 1, 0⟩], [([97], 0)], [], [⟨[], [97], 0⟩]⟩
def fuD (k : Nat) : RD := { fuR k k with down := true }
def fuC (k : Nat) : RD := ⟨1000, false, -1, [⟨List.replicate (255 % (k + 1)) 1, 255 % (k + 1)⟩], [([97], 0)], [([97], 0)], []⟩
theorem fu_0 : (RD.new 1000).createE [97] = 0 := by kernel_rfl
theorem fu_1 (k : Nat) : ((RD.new 1000).create [97]).fused k = fuR k 0 := by
  have e : (RD.new 1000).create [97] = fuR 0 0 ∨ True := .inr trivial
  clear e
  have h1 : (RD.new 1000).create [97] = ⟨1000, false, -1, [⟨[], 0⟩], [([97], 0)], [], [⟨[], [97], 0⟩]⟩ := by kernel_rfl
  rw [h1]
  unfold RD.fused fuR
  simp only [List.replicate_zero]
  congr 1
  omega
theorem fu_find (k i : Nat) : (fuR k i).findE [97] = 0 ∧ (fuR k i).num [97] = 0 ∧ (fuR k i).findE [98] = 4 ∧ (fuR k i).used = i := by
  refine ⟨by kernel_rfl, by kernel_rfl, by kernel_rfl, ?_⟩
  show (List.replicate i (1 : UInt8)).length + 0 = i
  simp
theorem fu_app {k i : Nat} (h : i < k) (hk : k < 40) : (fuR k i).appE [97] 1 = 0 ∧ (fuR k i).append [97] [1] = fuR k (i + 1) := by
  obtain ⟨h1, h2, _, h4⟩ := fu_find k i
  have hb : (fuR k i).burns = true := by
    show (!((k : Int) - i == 0)) = true
    simp; omega
  have hc : ¬ (fuR k i).cap < i + 1 := by show ¬ 1000 < i + 1; omega
  have hbn : (fuR k i).burn = { fuR k i with left := (k : Int) - i - 1 } := by
    unfold RD.burn
    rw [if_neg (by show ¬ ((k : Int) - i = 0); omega), if_pos (by show 0 < (k : Int) - i; omega)]; rfl
  constructor
  · unfold RD.appE
    rw [h1, if_pos rfl, h4, if_neg hc, hb]; rfl
  · unfold RD.append
    rw [h1, if_pos rfl, h4, if_neg (by simpa using hc), hb, if_pos rfl, h2, hbn]
    unfold fuR RD.got
    simp only [List.getD_cons_zero, List.set_cons_zero]
    rw [List.replicate_succ']
    congr 1
    omega
theorem fu_b (k i : Nat) : (fuR k i).appE [98] 1 = 4 ∧ (fuR k i).append [98] [1] = fuR k i := by
  obtain ⟨h1, h2, h3, h4⟩ := fu_find k i
  constructor
  · unfold RD.appE; rw [h3]; rfl
  · unfold RD.append; rw [h3]; rfl
theorem fu_down {k : Nat} (hk : k < 40) : (fuR k k).appE [97] 1 = 6 ∧ (fuR k k).append [97] [1] = fuD k := by
  obtain ⟨h1, h2, _, h4⟩ := fu_find k k
  have h0 : (fuR k k).left = 0 := by show (k : Int) - k = 0; omega
  have hb : (fuR k k).burns = false := by unfold RD.burns; rw [h0]; rfl
  have hc : ¬ (fuR k k).cap < k + 1 := by show ¬ 1000 < k + 1; omega
  constructor
  · unfold RD.appE
    rw [h1, if_pos rfl, h4, if_neg hc, hb]; rfl
  · unfold RD.append
    rw [h1, if_pos rfl, h4, if_neg (by simpa using hc), hb]
    unfold RD.burn
    rw [if_pos h0]; rfl
theorem fu_stays (k : Nat) : (fuD k).appE [97] 1 = 6 ∧ (fuD k).append [97] [1] = fuD k ∧ (fuD k).usedA = 0 ∧ (fuD k).list = [] := by
  refine ⟨by kernel_rfl, by kernel_rfl, by kernel_rfl, by kernel_rfl⟩
theorem fu_crash (k : Nat) : (fuD k).crash [1, 255] = fuC k := by
  have hl : (List.replicate k (1 : UInt8)).length = k := List.length_replicate
  show (⟨1000, false, -1, [⟨(List.replicate k (1 : UInt8)).take (0 + 255 % ((List.replicate k (1 : UInt8)).length - 0 + 1)), 0 + 255 % ((List.replicate k (1 : UInt8)).length - 0 + 1)⟩], [([97], 0)], [([97], 0)], []⟩ : RD) = fuC k
  rw [hl, Nat.zero_add, Nat.sub_zero, List.take_replicate, Nat.min_eq_left (by have : 255 % (k + 1) < k + 1 := Nat.mod_lt 255 (Nat.succ_pos k); omega)]
  rfl
theorem fu_end {k : Nat} (hk : k < 40) : (fuC k).findE [97] = 0 ∧ (fuC k).readB [97] = List.replicate (255 % (k + 1)) 1 ∧ (fuC k).appE [97] 1 = 0 := by
  refine ⟨by kernel_rfl, by kernel_rfl, ?_⟩
  have hu : (fuC k).used = 255 % (k + 1) := by
    show (List.replicate (255 % (k + 1)) (1 : UInt8)).length + 0 = _
    simp
  have hf : (fuC k).findE [97] = 0 := by kernel_rfl
  have hm : 255 % (k + 1) < k + 1 := Nat.mod_lt 255 (Nat.succ_pos k)
  unfold RD.appE
  rw [hf, if_pos rfl, hu, if_neg (by show ¬ 1000 < _; omega)]; rfl
theorem bytes_lit1 (w : World) (a : UInt8) : Bytes (w.alloc (.cells #[.int .u8 a.toNat] 5)) (.slice (some ⟨w.heap.size, 0, none⟩) 1 1) [a] := by
  refine .inr ⟨w.heap.size, 0, 1, rfl, Nat.le_refl _, fun i x hx => ?_⟩
  rw [Nat.zero_add, World.cell?_alloc_mark]
  rcases i with _ | i
  · obtain rfl := Option.some.inj hx; rfl
  · simp at hx
theorem bytes_lit2 (w : World) (a b : UInt8) : Bytes (w.alloc (.cells #[.int .u8 a.toNat, .int .u8 b.toNat] 5)) (.slice (some ⟨w.heap.size, 0, none⟩) 2 2) [a, b] := by
  refine .inr ⟨w.heap.size, 0, 2, rfl, Nat.le_refl _, fun i x hx => ?_⟩
  rw [Nat.zero_add, World.cell?_alloc_mark]
  rcases i with _ | _ | i
  · obtain rfl := Option.some.inj hx; rfl
  · obtain rfl := Option.some.inj hx; rfl
  · simp at hx
/-- one byte, 1, is appended -/
theorem append1_at {w0 w : World} {D m : Nat} {r : RD} (h : At w0 w D r m) (s : ByteArray) (hs : s.size ≤ maxLen) (hm : m < 4000) :
    Calls Try.prog 25 #[.pointer (some ⟨D, 0, none⟩), .string s, .slice (some ⟨w.heap.size, 0, none⟩) 1 1] (w.alloc (.cells #[.int .u8 1] 5)) fun e w' => e = .returned (.int .i64 (r.appE s.data.toList 1)) ∧ At w0 w' D (r.append s.data.toList [1]) (m + 1) :=
  append_at h ((Below.refl w.heap.size w).alloc (Nat.le_refl _) _) s (bytes_lit1 w 1) (fun g hg => .inl (by obtain rfl := Option.some.inj hg; exact Nat.le_refl _)) hs hm (by decide)
/-- amid the second loop: the fuse has blown, or not yet -/
def fuS (k t : Nat) : RD := if t = 0 then fuR k k else fuD k
theorem fuS_app {k : Nat} (hk : k < 40) (t : Nat) : (fuS k t).appE [97] 1 = 6 ∧ (fuS k t).append [97] [1] = fuD k := by
  unfold fuS
  split
  · exact fu_down hk
  · exact ⟨(fu_stays k).1, (fu_stays k).2.1⟩
set_option maxHeartbeats 4000000 in
set_option maxRecDepth 100000 in
theorem diskFuse_calls (n more : Nat) (hn : n < 256) (hmo : more < 256) (w : World) : Calls Try.prog 7 #[.int .u8 n, .int .u8 more] w fun e w' => e = .returned (.bool true) ∧ Below w.heap.size w w' := by
  obtain ⟨k, hk⟩ : ∃ k, k = n % 40 := ⟨_, rfl⟩
  have hk40 : k < 40 := by omega
  have hkI : ((n : Int) % 40) = (k : Int) := by omega
  go_enter Try.func7, Try.ntmps7
  have hkI' := Lib.hid hkI
  have hk' := Lib.hid hk
  clear hk hkI
  go_wp2_with fail
  refine (fixed01_calls w).mono ?_
  rintro e w1 ⟨rfl, B⟩
  go_wp2_with fail
  refine (new_at 1000 w1).mono ?_
  rintro e w2 ⟨rfl, h2⟩
  have c2 := create_at h2 ⟨#[97]⟩ (by decide) (by omega)
  rw [show (RD.new 1000).createE (⟨#[97]⟩ : ByteArray).data.toList = 0 from fu_0] at c2
  have c2' := Lib.hid c2
  clear c2
  go_wp2_with fail
  refine c2'.out.mono ?_
  rintro e w3 ⟨rfl, h3⟩
  have c3 := fuse_at h3 (k : Int) (by omega)
  rw [show ((RD.new 1000).create (⟨#[97]⟩ : ByteArray).data.toList).fused k = fuR k 0 from fu_1 k] at c3
  have c3' := Lib.hid c3
  clear c3 h2 h3 c2'
  go_wp2_with fail
  rw [hkI'.out]
  refine c3'.out.mono ?_
  rintro e w4 ⟨rfl, h4⟩
  clear c3' hkI'
  go_wp2_with fail
  go_loopw [22] (fun i wr => ∃ j : Nat, j ≤ k ∧ i = .int .i64 j ∧ At w1 wr (w1.heap.size + 2) (fuR k j) (j + 1)) (fun i _ => k - (intOf i).toNat)
  case atStart => exact ⟨0, Nat.zero_le _, rfl, h4⟩
  case round =>
    clear h4
    obtain ⟨j, hj, rfl, hA⟩ := hrel
    by_cases hlt : j < k
    · have c5 := append1_at hA ⟨#[97]⟩ (by decide) (by omega)
      obtain ⟨a1, a2⟩ := fu_app hlt hk40
      rw [show (fuR k j).appE (⟨#[97]⟩ : ByteArray).data.toList 1 = 0 from a1, show (fuR k j).append (⟨#[97]⟩ : ByteArray).data.toList [1] = fuR k (j + 1) from a2] at c5
      have c5' := Lib.hid c5
      clear c5 a1 a2
      go_wp2_with fail
      refine c5'.out.mono ?_
      rintro e w5 ⟨rfl, h5⟩
      clear c5' hA
      go_wp2_with fail
      go_roundw
      case rel => exact ⟨j + 1, by omega, by go_num, h5⟩
      case measure => simp [intOf]; omega
    · obtain rfl : j = k := by omega
      have cu := used_at hA
      have hu : (fuR j j).usedA = j := by
        show ((fuR j j).used : Int) = _
        rw [(fu_find j j).2.2.2]
      rw [hu] at cu
      have cu' := Lib.hid cu
      have cb := append1_at hA ⟨#[98]⟩ (by decide) (by omega)
      rw [show (fuR j j).appE (⟨#[98]⟩ : ByteArray).data.toList 1 = 4 from (fu_b j j).1, show (fuR j j).append (⟨#[98]⟩ : ByteArray).data.toList [1] = fuR j j from (fu_b j j).2] at cb
      have cb' := Lib.hid cb
      clear cu cb hu
      go_wp2_with fail
      refine cu'.out.mono ?_
      rintro e w5 ⟨rfl, rfl⟩
      clear cu'
      go_wp2_with fail
      refine cb'.out.mono ?_
      rintro e w6 ⟨rfl, h6⟩
      clear cb' hA
      go_wp2_with fail
      go_loopw [42] (fun i wr => ∃ t : Nat, t ≤ 1 + more % 5 ∧ i = .int .u8 t ∧ At w1 wr (w1.heap.size + 2) (fuS j t) (j + 2 + t)) (fun i _ => 1 + more % 5 - (intOf i).toNat)
      case atStart => exact ⟨0, by omega, rfl, h6⟩
      case round =>
        clear h6
        obtain ⟨t, ht, rfl, hA⟩ := hrel
        by_cases hlt2 : t < 1 + more % 5
        · have hlt3 : (t : Int) < 1 + (more : Int) % 5 := by omega
          obtain ⟨a1, a2⟩ := fuS_app hk40 t
          have c5 := append1_at hA ⟨#[97]⟩ (by decide) (by omega)
          rw [show (fuS j t).appE (⟨#[97]⟩ : ByteArray).data.toList 1 = 6 from a1, show (fuS j t).append (⟨#[97]⟩ : ByteArray).data.toList [1] = fuD j from a2] at c5
          have c5' := Lib.hid c5
          clear c5 a1 a2 hA
          go_wp2_with fail
          refine c5'.out.mono ?_
          rintro e w7 ⟨rfl, h7⟩
          clear c5'
          have c6 := used_at h7
          rw [(fu_stays j).2.2.1] at c6
          have c6' := Lib.hid c6
          have c7 := list_at h7 (by omega)
          rw [(fu_stays j).2.2.2] at c7
          have c7' := Lib.hid c7
          clear c6 c7
          go_wp2_with fail
          refine c6'.out.mono ?_
          rintro e w8 ⟨rfl, rfl⟩
          clear c6'
          go_wp2_with fail
          refine c7'.out.mono ?_
          rintro e w9 ⟨v9, rfl, r9, _, b9⟩
          obtain ⟨p9, q9, rfl⟩ := own_slice r9
          have h9 := h7.later b9
          clear c7' r9 h7
          go_wp2_with fail
          go_roundw
          case rel => exact ⟨t + 1, by omega, by go_num, by unfold fuS; rw [if_neg (Nat.succ_ne_zero t)]; exact h9.more (by omega)⟩
          case measure => simp [intOf]; omega
        · obtain rfl : t = 1 + more % 5 := by omega
          have hge : ¬ (((1 + more % 5 : Nat) : Int) < 1 + (more : Int) % 5) := by omega
          have hA' : At w1 wr (w1.heap.size + 2) (fuD j) (j + 2 + (1 + more % 5)) := by
            unfold fuS at hA; rw [if_neg (by omega)] at hA; exact hA
          have c5 := crash_at hA' ((Below.refl wr.heap.size wr).alloc (Nat.le_refl _) (.cells #[.int .u8 1, .int .u8 255] 5)) (bytes_lit2 wr 1 255) (fun g hg => by obtain rfl := Option.some.inj hg; exact ⟨.inl (Nat.le_refl _), by simp⟩) (by omega) (by decide)
          rw [fu_crash] at c5
          have c5' := Lib.hid c5
          clear c5 hA hA'
          go_wp2_with fail
          refine c5'.out.mono ?_
          rintro e w7 ⟨rfl, h7⟩
          obtain ⟨f1, f2, f3⟩ := fu_end hk40
          have c6 := read_at h7 ⟨#[97]⟩ (by omega) (by decide)
          rw [show (fuC j).findE (⟨#[97]⟩ : ByteArray).data.toList = 0 from f1, show (fuC j).readB (⟨#[97]⟩ : ByteArray).data.toList = _ from f2] at c6
          have c6' := Lib.hid c6
          have f3' := Lib.hid f3
          clear c5' c6 f1 f2 f3
          go_wp2_with fail
          refine c6'.out.mono ?_
          rintro e w8 ⟨v8, rfl, r8, b8⟩
          have h8 := h7.later b8
          rw [List.length_replicate] at r8
          obtain ⟨p8, q8, rfl⟩ := own_slice r8
          have c7 := append1_at h8 ⟨#[97]⟩ (by decide) (by omega)
          rw [show (fuC j).appE (⟨#[97]⟩ : ByteArray).data.toList 1 = 0 from f3'.out] at c7
          have c7' := Lib.hid c7
          have hmI : (255 : Int) % ((j : Int) + 1) = ((255 % (j + 1) : Nat) : Int) := (Int.natCast_emod 255 (j + 1)).symm
          obtain ⟨m, hm⟩ : ∃ m, m = 255 % (j + 1) := ⟨_, rfl⟩
          rw [← hm] at hmI
          rw [← hm]
          clear c6' r8 f3' c7 h7 hm
          go_wp2_with fail
          refine c7'.out.mono ?_
          rintro e w9 ⟨rfl, h9⟩
          have hB := B.trans (h9.below.mono B.size)
          clear c7'
          go_wp2
          go_ret
          exact ⟨rfl, hB⟩
end Go.Proofs.Ytgclancneohpbaa
