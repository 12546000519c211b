/- The law DiskRoom: the plain part and the walk. -/
import Derived.Test.YtgclancneohpbaaDL3
import Derived.Laws.OwnMore
namespace Go.Proofs.Ytgclancneohpbaa
open Go.RowKit Go.Maps Go.Shelf
def zer (n : Nat) : List UInt8 := List.replicate n 0
theorem zer_len (n : Nat) : (zer n).length = n := List.length_replicate
theorem make_bytes (n : Nat) (hn : n ≤ 100000) (w : World) : ∃ w', (Instr.makeSlice 51 (.int .i64 (n : Int)) (.int .i64 (n : Int))).run Try.prog w = .ok (.slice (some ⟨w.heap.size, 0, none⟩) n n) w' ∧ Bytes w' (.slice (some ⟨w.heap.size, 0, none⟩) n n) (zer n) ∧ Below w.heap.size w w' := by
  obtain ⟨i, h1, h0⟩ := Option.map_eq_some_iff.1 info_u8
  simp only [Prod.mk.injEq] at h0
  obtain ⟨h2, h3, h4⟩ := h0
  obtain ⟨w', r1, r2, r3⟩ := run_make_full (P := Try.prog) (w := w) w.heap.size 51 5 i (.int .u8 0) 1 Try.underlying51 h1 h2 h3 .i64 .i64 n (by rw [h4]; omega) (by unfold maxLen; omega) (Nat.le_refl _)
  have e : (madeCells (Value.int .u8 0).cells (n * 1)).toList = bcells (zer n) := by
    rw [Nat.mul_one]
    unfold bcells zer
    rw [List.map_replicate]
    apply List.ext_getElem?
    intro j
    by_cases hj : j < n
    · simp [madeCells, hj, Value.cells, Nat.mod_one]
    · simp [madeCells, hj]
  rw [e] at r2
  have r2' : w'.ownsRow w.heap.size 5 1 (.slice (some ⟨w.heap.size, 0, none⟩) n n) (zer n).length (bcells (zer n)) := by rw [zer_len]; exact r2
  exact ⟨w', r1, Bytes.of_own r2', (Keeps.refl (fun _ => False) w).grown r3 (fun k e => by cases e) |>.below (fun _ _ h => h.elim) (Nat.le_refl _)⟩
def roR (cap x y : Nat) : RD := ⟨cap, false, -1, [⟨zer x, 0⟩, ⟨zer y, 0⟩], [([97], 0), ([98], 1)], [], [⟨[], [97], 0⟩, ⟨[], [98], 1⟩]⟩
theorem ro_new {cap : Nat} (h : cap < 65536) : RD.new (cap : Int) = ⟨cap, false, -1, [], [], [], []⟩ := by
  unfold RD.new
  congr 1
  omega
theorem ro_0 {cap : Nat} (h : cap < 65536) : (RD.new (cap : Int)).createE [97] = 0 ∧ ((RD.new (cap : Int)).create [97]).createE [98] = 0 ∧ ((RD.new (cap : Int)).create [97]).create [98] = roR cap 0 0 := by
  rw [ro_new h]
  exact ⟨by kernel_rfl, by kernel_rfl, by kernel_rfl⟩
theorem ro_used (cap x y : Nat) : (roR cap x y).used = x + y := by
  show (zer x).length + ((zer y).length + 0) = _
  rw [zer_len, zer_len]; rfl
theorem zer_app (x n : Nat) : zer x ++ zer n = zer (x + n) := List.replicate_append_replicate
def roNext (cap x y n : Nat) (b : Bool) : RD := if cap < x + y + n then roR cap x y else if b then roR cap x (y + n) else roR cap (x + n) y
def roName (b : Bool) : ByteArray := if b then ⟨#[98]⟩ else ⟨#[97]⟩
theorem ro_app (cap x y n : Nat) (b : Bool) : (roR cap x y).appE (roName b).data.toList n = (if cap < x + y + n then 5 else 0) ∧ (roR cap x y).append (roName b).data.toList (zer n) = roNext cap x y n b := by
  have hu := ro_used cap x y
  cases b
  · have h1 : (roR cap x y).findE (roName false).data.toList = 0 := by kernel_rfl
    have h2 : (roR cap x y).num (roName false).data.toList = 0 := by kernel_rfl
    constructor
    · unfold RD.appE
      rw [h1, if_pos rfl, hu]; rfl
    · unfold RD.append roNext
      rw [h1, if_pos rfl, hu, zer_len, h2]
      show (if cap < x + y + n then roR cap x y else { roR cap x y with files := [⟨zer x ++ zer n, 0⟩, ⟨zer y, 0⟩] }) = _
      rw [zer_app]; rfl
  · have h1 : (roR cap x y).findE (roName true).data.toList = 0 := by kernel_rfl
    have h2 : (roR cap x y).num (roName true).data.toList = 1 := by kernel_rfl
    constructor
    · unfold RD.appE
      rw [h1, if_pos rfl, hu]; rfl
    · unfold RD.append roNext
      rw [h1, if_pos rfl, hu, zer_len, h2]
      show (if cap < x + y + n then roR cap x y else { roR cap x y with files := [⟨zer x, 0⟩, ⟨zer y ++ zer n, 0⟩] }) = _
      rw [zer_app]; rfl
theorem ro_next (cap x y n : Nat) (b : Bool) : ∃ x' y', roNext cap x y n b = roR cap x' y' ∧ x' + y' = (if cap < x + y + n then x + y else x + y + n) ∧ x' ≤ x + n ∧ y' ≤ y + n := by
  unfold roNext
  by_cases h : cap < x + y + n
  · rw [if_pos h, if_pos h]; exact ⟨x, y, rfl, rfl, by omega, by omega⟩
  · rw [if_neg h, if_neg h]
    cases b
    · exact ⟨x + n, y, rfl, by omega, by omega, by omega⟩
    · exact ⟨x, y + n, rfl, by omega, by omega, by omega⟩
theorem ro_end (cap x y : Nat) : (roR cap x y).findE [98] = 0 ∧ (roR cap x y).readB [98] = zer y ∧ (roR cap x y).removeE [98] = 0 ∧ ((roR cap x y).remove [98]).usedA = x := by
  refine ⟨by kernel_rfl, by kernel_rfl, by kernel_rfl, ?_⟩
  show (((zer x).length + 0 : Nat) : Int) = _
  rw [zer_len]; rfl
theorem cell_keeps_add {w w' : World} (h : Below w.heap.size w w') {p : Addr} (hp : p.block < w.heap.size) (i : Nat) : w'.cell? (p.add i) = w.cell? (p.add i) :=
  h.cell (p := p.add i) (by have : (p.add i).block = p.block := by unfold Addr.add; split <;> rfl
                            rw [this]; exact hp)
set_option maxHeartbeats 4000000 in
set_option maxRecDepth 100000 in
theorem diskRoom_calls (cap len c : Nat) (hcap : cap < 65536) (a : Option Addr) (zs : Nat → Nat) (w : World) (hz : ∀ i, i < len → zs i < 65536) (hlen : len ≤ maxLen)
    (hc : ∀ i, i < len → ∃ p, a = some p ∧ p.block < w.heap.size ∧ w.cell? (p.add i) = some (.int .u16 (zs i))) :
    Calls Try.prog 8 #[.int .u16 cap, .slice a len c] w fun e w' => e = .returned (.bool true) ∧ Below w.heap.size w w' := by
  have hc' := Lib.hid hc
  have hz' := Lib.hid hz
  clear hc hz
  unfold maxLen at hlen
  go_enter Try.func8, Try.ntmps8
  go_wp2_with fail
  refine (fixed01_calls w).mono ?_
  rintro e w1 ⟨rfl, B⟩
  by_cases h60 : 60 < len
  · go_wp2
    go_ret
    exact ⟨rfl, B⟩
  · obtain ⟨r1, r2, r3⟩ := ro_0 hcap
    have r1' := Lib.hid r1
    have r2' := Lib.hid r2
    have r3' := Lib.hid r3
    clear r1 r2 r3
    go_wp2_with fail
    refine (new_at cap w1).mono ?_
    rintro e w2 ⟨rfl, h2⟩
    have c2 := create_at h2 ⟨#[97]⟩ (by decide) (by omega)
    rw [show (RD.new cap).createE (⟨#[97]⟩ : ByteArray).data.toList = 0 from r1'.out] at c2
    have c2' := Lib.hid c2
    clear c2
    go_wp2_with fail
    refine c2'.out.mono ?_
    rintro e w3 ⟨rfl, h3⟩
    have c3 := create_at h3 ⟨#[98]⟩ (by decide) (by omega)
    rw [show ((RD.new cap).create (⟨#[97]⟩ : ByteArray).data.toList).createE (⟨#[98]⟩ : ByteArray).data.toList = 0 from r2'.out, show ((RD.new cap).create (⟨#[97]⟩ : ByteArray).data.toList).create (⟨#[98]⟩ : ByteArray).data.toList = roR cap 0 0 from r3'.out] at c3
    have c3' := Lib.hid c3
    clear c3 c2' h2 h3 r1' r2' r3'
    go_wp2_with fail
    refine c3'.out.mono ?_
    rintro e w4 ⟨rfl, h4⟩
    clear c3'
    go_wp2_with fail
    go_loopw [6, 32] (fun s i wr => ∃ j x y : Nat, j ≤ len ∧ i = .int .i64 j ∧ s = .int .i64 ((x + y : Nat) : Int) ∧ x ≤ 3000 * j ∧ y ≤ 3000 * j ∧ At w1 wr (w1.heap.size + 2) (roR cap x y) (2 + j)) (fun _ i _ => len - (intOf i).toNat)
    case atStart => exact ⟨0, 0, 0, Nat.zero_le _, rfl, rfl, by omega, by omega, h4⟩
    case round =>
      clear h4
      obtain ⟨j, x, y, hj, rfl, rfl, hx, hy, hA⟩ := hrel
      by_cases hlt : j < len
      · obtain ⟨p, rfl, hp1, hp2⟩ := hc'.out j hlt
        have hzj := hz'.out j hlt
        have q : wr.cell? (p.add j) = some (.int .u16 (zs j)) :=
          (cell_keeps_add (B.trans (hA.below.mono B.size)) hp1 j).trans hp2
        generalize zs j = z at *
        obtain ⟨n, hn⟩ : ∃ n, n = z % 3000 := ⟨_, rfl⟩
        have hn3 : n < 3000 := by omega
        have hnI : ((z : Int) % 3000) = (n : Int) := by omega
        have hnI' := Lib.hid hnI
        obtain ⟨b, hb⟩ : ∃ b, b = decide (j % 3 = 2) := ⟨_, rfl⟩
        have hx' : x ≤ 180000 := by omega
        have hy' : y ≤ 180000 := by omega
        obtain ⟨w5, m1, m2, m3⟩ := make_bytes n (by omega) wr
        obtain ⟨a1, a2⟩ := ro_app cap x y n b
        have c5 := append_at hA m3 (roName b) m2 (fun g hg => .inl (by obtain rfl := Option.some.inj hg; exact Nat.le_refl _)) (by cases b <;> decide) (by omega) (by rw [zer_len]; omega)
        rw [zer_len, a1, a2] at c5
        obtain ⟨x', y', n1, n2, n3, n4⟩ := ro_next cap x y n b
        rw [n1] at c5
        have hcase : (x + y + n ≤ cap ∧ (if cap < x + y + n then (5 : Int) else 0) = 0 ∧ x' + y' = x + y + n) ∨ (¬ x + y + n ≤ cap ∧ (if cap < x + y + n then (5 : Int) else 0) = 5 ∧ x' + y' = x + y) := by
          by_cases h : cap < x + y + n
          · rw [if_pos h] at n2 ⊢; exact .inr ⟨by omega, rfl, n2⟩
          · rw [if_neg h] at n2 ⊢; exact .inl ⟨by omega, rfl, n2⟩
        have hb3 : ((j : Int) % 3 == 2) = b := by
          rw [hb]
          by_cases h : j % 3 = 2
          · rw [decide_eq_true h]; simpa using (show (j : Int) % 3 = 2 by omega)
          · rw [decide_eq_false h]; simpa using (show ¬ (j : Int) % 3 = 2 by omega)
        have m1z := m1
        rw [← hnI] at m1z
        clear m1
        have hx3 : x' ≤ 3000 * (j + 1) := by omega
        have hy3 : y' ≤ 3000 * (j + 1) := by omega
        have hu := ro_used cap x' y'
        clear hb hn hnI a1 a2 m2 hp2 hA n1 n2 n3 n4 hx hy
        rcases hcase with ⟨f1, f2, f3⟩ | ⟨f1, f2, f3⟩
        all_goals
          rw [f2] at c5
          have c5' := Lib.hid c5
          have hu' := Lib.hid hu
          have f3' := Lib.hid f3
          have f1' : decide (((x + y : Nat) : Int) + (n : Int) ≤ (cap : Int)) = decide (x + y + n ≤ cap) := by
            by_cases h : x + y + n ≤ cap
            · rw [decide_eq_true h, decide_eq_true (by omega)]
            · rw [decide_eq_false h, decide_eq_false (by omega)]
          clear c5 f2 f3 hu
          cases b
          all_goals
            go_wp2_with fail
            rw [hnI'.out]
            refine c5'.out.mono ?_
            rintro e w6 ⟨rfl, h6⟩
            have c6 := used_at h6
            rw [show (roR cap x' y').usedA = ((x' + y' : Nat) : Int) from congrArg Int.ofNat hu'.out, f3'.out] at c6
            have c6' := Lib.hid c6
            clear c5' c6
            go_wp2_with fail
            refine c6'.out.mono ?_
            rintro e w7 ⟨rfl, rfl⟩
            clear c6'
            go_wp2_with fail
            go_roundw
            case rel => exact ⟨j + 1, x', y', by omega, by go_num, by rw [f3'.out]; first | rfl | go_num, hx3, hy3, h6⟩
            case measure => simp [intOf]; omega
      · have hx' : x ≤ 180000 := by omega
        have hy' : y ≤ 180000 := by omega
        obtain ⟨g1, g2, g3, g4⟩ := ro_end cap x y
        have c5 := read_at hA ⟨#[98]⟩ (by omega) (by decide)
        rw [show (roR cap x y).findE (⟨#[98]⟩ : ByteArray).data.toList = 0 from g1, show (roR cap x y).readB (⟨#[98]⟩ : ByteArray).data.toList = _ from g2] at c5
        have c5' := Lib.hid c5
        have g3' := Lib.hid g3
        have g4' := Lib.hid g4
        clear c5 g1 g2 g3 g4 hx hy
        go_wp2_with fail
        refine c5'.out.mono ?_
        rintro e w6 ⟨v6, rfl, r6, b6⟩
        rw [zer_len] at r6
        obtain ⟨p6, q6, rfl⟩ := own_slice r6
        have h6 := hA.later b6
        have c6 := remove_at h6 ⟨#[98]⟩ (by decide) (by omega)
        rw [show (roR cap x y).removeE (⟨#[98]⟩ : ByteArray).data.toList = 0 from g3'.out] at c6
        have c6' := Lib.hid c6
        clear c5' c6 r6 hA g3'
        go_wp2_with fail
        refine c6'.out.mono ?_
        rintro e w7 ⟨rfl, h7⟩
        have c7 := used_at h7
        rw [show ((roR cap x y).remove (⟨#[98]⟩ : ByteArray).data.toList).usedA = x from g4'.out] at c7
        have c7' := Lib.hid c7
        have hB := B.trans (h7.below.mono B.size)
        have hxy : ((x + y : Nat) : Int) - (y : Int) = (x : Int) := by omega
        clear c6' c7 g4' h6
        go_wp2_with fail
        refine c7'.out.mono ?_
        rintro e w8 ⟨rfl, rfl⟩
        go_wp2
        go_ret
        exact ⟨rfl, hB⟩
end Go.Proofs.Ytgclancneohpbaa
