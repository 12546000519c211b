/- Walks: frames: the sum. Walks: frames: the sum. Walks: frames: sealed. Walks: frames: the next one. Walks: an edit is read out of bytes. Walks: Decode. -/
import Derived.Test.YtabcdodjkfknlaaGreatDoorPL13
import Derived.Laws.Rows
import Derived.Laws.Closers25b
import Derived.Test.YtabcdodjkfknlaaGreatDoorPL08
import Derived.Test.YtabcdodjkfknlaaGreatDoorPL10
import Derived.Laws.EntriesVeiled
namespace Go.Proofs.YtabcdodjkfknlaaGreatDoor
open Go.RowKit
attribute [local go_sem ↓] dapp_op dslK_op
/-- a bit of a byte's sum -/
def crcBit (s : Int) : Int := bits .xor .u32 (s / 2) (bits .and .u32 3988292384 (-bits .and .u32 s 1 % 4294967296))
def crcIt : Nat → Int → Int
  | 0, s => s
  | k + 1, s => crcBit (crcIt k s)
def crcTab (i : Nat) : Int := crcIt 8 i
theorem crc_lo (k : Nat) (s : Int) (h : 0 ≤ s) : 0 ≤ crcIt k s := by
  cases k with
  | zero => exact h
  | succ k => exact bits_lo_u32 .xor _ _
theorem crc_hi (k : Nat) (s : Int) (h : s ≤ 4294967295) : crcIt k s ≤ 4294967295 := by
  cases k with
  | zero => exact h
  | succ k => exact bits_hi_u32 .xor _ _
set_option maxHeartbeats 1000000 in
set_option maxRecDepth 100000 in
theorem zero178 : Tryz.zeroCells178.size = 256 := by kernel_rfl
set_option maxHeartbeats 1000000 in
set_option maxRecDepth 100000 in
theorem table_calls (w : World) :
    Calls Tryz.prog 140 #[] w fun e w' => ∃ cs : Array Value, e = .returned (.agg cs) ∧ cs.size = 256 ∧ (∀ j, j < 256 → cs[j]? = some (.int .u32 (crcTab j))) ∧ Below w.heap.size w w' := by
  have bZ := (Blk.new w 178 Tryz.zeroCells178).alloc (.cells Tryz.zeroCells178 178)
  have bT := Blk.new (w.alloc (.cells Tryz.zeroCells178 178)) 178 Tryz.zeroCells178
  rw [World.size_alloc] at bT
  have hB := ((Below.refl w.heap.size w).alloc (Nat.le_refl _) (.cells Tryz.zeroCells178 178)).alloc (by simp) (.cells Tryz.zeroCells178 178)
  have bZ' := Lib.hid bZ
  have bT' := Lib.hid bT
  have hB' := Lib.hid hB
  clear bZ bT hB
  go_enter Tryz.func140, Tryz.ntmps140
  go_wp2
  go_loopw [2, 3, 4] (fun _ _ i wr => ∃ (k : Nat) (cs : Array Value), i = .int .i64 k ∧ k ≤ 256 ∧ Blk wr w.heap.size 178 Tryz.zeroCells178 ∧ Blk wr (w.heap.size + 1) 178 cs ∧ cs.size = 256 ∧ (∀ j, j < k → cs[j]? = some (.int .u32 (crcTab j))) ∧ Below w.heap.size w wr) (fun _ _ i _ => 256 - (intOf i).toNat)
  case atStart => exact ⟨0, _, rfl, by omega, bZ'.out, bT'.out, zero178, fun j hj => absurd hj (Nat.not_lt_zero _), hB'.out⟩
  case round =>
    obtain ⟨wo, rfl⟩ : ∃ wo : World, wo = wr := ⟨_, rfl⟩
    obtain ⟨k, cs, rfl, hk, hZ, hT, hs, hc, hb⟩ := hrel
    have hZ' := Lib.hid hZ
    have hT' := Lib.hid hT
    have hs' := Lib.hid hs
    have hc' := Lib.hid hc
    have hb' := Lib.hid hb
    clear hZ hT hs hc hb bZ' bT' hB'
    by_cases hlt : k < 256
    · go_wp2
      go_loop [3, 9] (fun a i => ∃ r : Nat, r ≤ 8 ∧ i = .int .i64 r ∧ a = .int .u32 (crcIt r k)) (fun _ i => 8 - (intOf i).toNat)
      case atStart => exact ⟨0, by omega, rfl, rfl⟩
      case round =>
        obtain ⟨r, hr, rfl, rfl⟩ := hrel
        have b1 := crc_lo r k (by omega)
        have b2 := crc_hi r k (by omega)
        have hrs : crcIt (r + 1) k = crcBit (crcIt r k) := rfl
        obtain ⟨s, hes⟩ : ∃ s, crcIt r k = s := ⟨_, rfl⟩
        rw [hes] at b1 b2 hrs ⊢
        by_cases hl : r < 8
        · go_wp2
          exact ⟨⟨r + 1, by omega, by rw [Int.natCast_add]; rfl, by rw [hrs]; rfl⟩, by simp only [intOf]; omega⟩
        · obtain rfl : r = 8 := by omega
          have hsz : k < cs.size := by rw [hs'.out]; omega
          have cT := hT'.out.cell
          have fT := hT'.out.frozen
          go_wp2
          refine ⟨⟨k + 1, cs.setIfInBounds k (.int .u32 s), by rw [Int.natCast_add]; rfl, by omega, hZ'.out.far (by show w.heap.size ≠ w.heap.size + 1; omega) _, hT'.out.set_ k _, by rw [Array.size_setIfInBounds]; exact hs'.out, fun j hj => ?_, hb'.out.setCell (by show w.heap.size ≤ w.heap.size + 1; omega) _⟩, by simp only [intOf]; omega⟩
          rw [Array.getElem?_setIfInBounds]
          by_cases he : k = j
          · subst he
            rw [if_pos rfl, if_pos hsz, ← hes]
            rfl
          · rw [if_neg he]
            exact hc'.out j (by omega)
    · obtain rfl : k = 256 := by omega
      have hone : cs.all (·.oneCell') = true := by
        rw [Array.all_eq_true]
        intro i hi
        have := hc'.out i (by rw [← hs'.out]; exact hi)
        rw [Array.getElem?_eq_getElem hi] at this
        rw [Option.some.inj this]
        rfl
      have hd : Tryz.prog.underlying 178 = some (.array 256 93) := by kernel_rfl
      have hi : (Tryz.prog.info? 178).map (·.size) = some cs.size := by rw [hs'.out]; kernel_rfl
      go_wp2
      rename_i hK
      refine wp_load_row _ _ rfl (w.heap.size + 1) rfl _ cs (0, 0) _ hT'.out hd rfl hi (hK _ _ (wpList_store_row rfl _ _ _ rfl w.heap.size cs rfl rfl _ _ hZ'.out hi (by rw [zero178, hs'.out]) hone ?_))
      have hZ2 := setRow_heap wo w.heap.size _ cs _ _ hZ'.out
      go_wp2
      refine bodyPost_ret (v := .agg cs) (results_cell_row rfl _ _ w.heap.size _ cs (0, 0) _ rfl hZ2 hd rfl hi) rfl ⟨cs, rfl, hs'.out, hc'.out, ?_⟩
      exact hb'.out.trans ⟨rfl, rfl, rfl, by simp, fun j hj => setRow_other _ _ _ _ (by omega)⟩
end Go.Proofs.YtabcdodjkfknlaaGreatDoor
namespace Go.Proofs.YtabcdodjkfknlaaGreatDoor
open Go.RowKit
attribute [local go_sem ↓] dapp_op dslK_op
/-- one more byte in a sum -/
def sumStep (s : Int) (c : UInt8) : Int := bits .xor .u32 (s / 256) (crcTab (bits .xor .u8 (s % 256) c.toNat).toNat)
theorem sumStep_lo (s : Int) (c : UInt8) : 0 ≤ sumStep s c := bits_lo_u32 .xor _ _
theorem sumStep_hi (s : Int) (c : UInt8) : sumStep s c ≤ 4294967295 := bits_hi_u32 .xor _ _
def sumL (l : List UInt8) : Int := l.foldl sumStep 4294967295
theorem sumL_take {l : List UInt8} {k : Nat} {x : UInt8} (h : l[k]? = some x) : sumL (l.take (k + 1)) = sumStep (sumL (l.take k)) x := by
  rw [List.take_add_one, h]
  simp [sumL, List.foldl_append]
theorem sumL_lo (l : List UInt8) : 0 ≤ sumL l := by
  rcases List.eq_nil_or_concat l with rfl | ⟨a, x, rfl⟩
  · simp [sumL]
  · simp only [sumL, List.concat_eq_append, List.foldl_append]; exact sumStep_lo _ _
theorem sumL_hi (l : List UInt8) : sumL l ≤ 4294967295 := by
  rcases List.eq_nil_or_concat l with rfl | ⟨a, x, rfl⟩
  · simp [sumL]
  · simp only [sumL, List.concat_eq_append, List.foldl_append]; exact sumStep_hi _ _
/-- the sum of bytes -/
def sumOf (l : List UInt8) : Nat := (bits .xor .u32 IntKind.u32.max (sumL l)).toNat
theorem sumOf_lt (l : List UInt8) : sumOf l < 4294967296 := by
  have h1 := bits_lo_u32 .xor IntKind.u32.max (sumL l)
  have h2 := bits_hi_u32 .xor IntKind.u32.max (sumL l)
  unfold sumOf; omega
theorem tab_store (w : World) (cs : Array Value) (hs : cs.size = 256) (hc : ∀ j, j < 256 → ∃ k n, cs[j]? = some (.int k n)) :
    ∃ W, (storeCells ⟨w.heap.size, 0, none⟩ cs.toList).run Tryz.prog (w.alloc (.cells Tryz.zeroCells178 178)) = .ok () W ∧ Blk W w.heap.size 178 cs ∧ Below w.heap.size w W := by
  have hz := zero178
  have hB := Blk.new w 178 Tryz.zeroCells178
  generalize Tryz.zeroCells178 = z at hz hB ⊢
  refine ⟨_, run_storeCells_from w.heap.size _ cs.toList 0 z _ hB (by rw [hz, ← hs]; simp) fun v hv => ?_, ?_, ?_⟩
  · obtain ⟨i, hi, rfl⟩ := List.mem_iff_getElem.1 hv
    rw [Array.length_toList] at hi
    obtain ⟨k, n, he⟩ := hc i (by omega)
    rw [Array.getElem?_eq_getElem hi] at he
    rw [Array.getElem_toList, Option.some.inj he]
    rfl
  · have := setRow_heap _ w.heap.size _ (z.toList.take 0 ++ cs.toList).toArray _ _ hB
    rw [List.take_zero, List.nil_append, Array.toArray_toList] at this ⊢
    exact this
  · exact ((Below.refl _ w).alloc (Nat.le_refl _) _).trans ⟨rfl, rfl, rfl, by simp, fun j hj => setRow_other _ _ _ _ (by omega)⟩
set_option maxHeartbeats 1000000 in
set_option maxRecDepth 100000 in
theorem sum_calls (v : Value) (l : List UInt8) (w : World) (hv : Bytes w v l) (hl : l.length ≤ 100000000) :
    Calls Tryz.prog 99 #[v] w fun e w' => e = .returned (.int .u32 (sumOf l)) ∧ Below w.heap.size w w' := by
  obtain ⟨p, c, rfl⟩ := hv.slice
  have hv' := Lib.hid hv
  clear hv
  go_enter Tryz.func99, Tryz.ntmps99
  go_wp2_with (with_reducible refine (table_calls _).mono ?_; rintro e w1 ⟨cs, rfl, hs, hc, hb⟩; obtain ⟨W, st, bW, hbW⟩ := tab_store w1 cs hs (fun j hj => ⟨_, _, hc j hj⟩); have hv1 := Lib.hid ((hv'.out.later hb).later hbW); have hb1 := Lib.hid (hb.trans (hbW.mono hb.size)); have hc' := Lib.hid hc; have bW' := Lib.hid bW; have cW := bW.cell; clear hb hv' hbW hc bW)
  go_loop [4, 6, 10] (fun a _ i => ∃ k : Nat, k ≤ l.length ∧ i = .int .i64 k ∧ a = .int .u32 (sumL (l.take k))) (fun _ _ i => l.length - (intOf i).toNat)
  case atStart => exact ⟨0, by omega, rfl, rfl⟩
  case round =>
    obtain ⟨k, hk, rfl, rfl⟩ := hrel
    by_cases hlt : k < l.length
    · obtain ⟨x, hx⟩ : ∃ x, l[k]? = some x := ⟨_, List.getElem?_eq_getElem hlt⟩
      obtain ⟨g, o, rfl, hce⟩ := hv1.out.cellAt hx
      have hn := sumL_take hx
      have b1 := sumL_lo (l.take k)
      have b2 := sumL_hi (l.take k)
      obtain ⟨s, hes⟩ : ∃ s, sumL (l.take k) = s := ⟨_, rfl⟩
      rw [hes] at b1 b2 hn ⊢
      have hx1 : x.toNat < 256 := x.toNat_lt
      have b3 := bits_lo_u8 .xor (s % 256) x.toNat
      have b4 := bits_hi_u8 .xor (s % 256) x.toNat
      have hn' := Lib.hid hn
      clear hn hes hx
      obtain ⟨j, hj⟩ : ∃ j : Nat, bits .xor .u8 (s % 256) x.toNat = (j : Int) := ⟨(bits .xor .u8 (s % 256) x.toNat).toNat, by omega⟩
      rw [hj] at b3 b4
      have hcj := hc'.out j (by omega)
      go_wp2
      exact ⟨⟨k + 1, by omega, by rw [Int.natCast_add]; rfl, by rw [hn'.out]; unfold sumStep; rw [hj]; rfl⟩, by simp only [intOf]; omega⟩
    · obtain rfl : k = l.length := by omega
      have hso : (sumOf l : Int) = bits .xor .u32 IntKind.u32.max (sumL l) := by have := bits_lo_u32 .xor IntKind.u32.max (sumL l); unfold sumOf; omega
      have b1 := sumL_lo l
      have b2 := sumL_hi l
      rw [List.take_length]
      generalize sumL l = s at b1 b2 hso ⊢
      go_wp2
      go_ret
      exact ⟨by rw [← hso]; rfl, hb1.out⟩
end Go.Proofs.YtabcdodjkfknlaaGreatDoor
namespace Go.Proofs.YtabcdodjkfknlaaGreatDoor
open Go.RowKit
attribute [local go_sem ↓] dapp_op dslK_op
/-- bytes in a frame -/
def sealL (l : List UInt8) : List UInt8 := be32 l.length ++ be32 (sumOf l) ++ l
theorem be32_len (n : Nat) : (be32 n).length = 4 := rfl
theorem sealL_len (l : List UInt8) : (sealL l).length = 8 + l.length := by simp [sealL, be32_len]; omega
theorem put4_own (w0 w : World) (p : Option Addr) (m c : Nat) (l : List UInt8) (n : Nat) (h : BOwn w0.heap.size w (.slice p m c) l) (hm : l.length = m) (hb : Below w0.heap.size w0 w) (hn : n < 4294967296) (hl : m ≤ 1000000000) :
    Calls Tryz.prog 98 #[.slice p m c, .int .u32 n] w fun e w' => ∃ p' c', e = .returned (.slice p' ((m + 4 : Nat) : Nat) c') ∧ BOwn w0.heap.size w' (.slice p' (m + 4) c') (l ++ be32 n) ∧ Below w0.heap.size w0 w' := by
  subst hm
  refine (put4_calls w0.heap.size _ l n w h hb.size hn hl).mono ?_
  rintro e w1 ⟨p1, c1, rfl, o1, k1⟩
  exact ⟨p1, c1, rfl, o1, hb.trans (k1.below (fun j _ e => (h.lt j e).1) hb.size)⟩
set_option maxHeartbeats 1000000 in
set_option maxRecDepth 100000 in
theorem seal_calls (v : Value) (l : List UInt8) (w : World) (hv : Bytes w v l) (hl : l.length ≤ 100000000) :
    Calls Tryz.prog 49 #[v] w (MadeB w (sealL l)) := by
  obtain ⟨p, c, rfl⟩ := hv.slice
  have hv' := Lib.hid hv
  clear hv
  have hsm := sumOf_lt l
  have hn0 := Lib.hid (BOwn.nil w.heap.size w)
  obtain ⟨L, hL⟩ : ∃ L, l.length = L := ⟨_, rfl⟩
  have hL' := Lib.hid hL
  rw [hL] at hl hv' ⊢
  go_enter Tryz.func49, Tryz.ntmps49
  go_wp2_with (first
    | (go_at_call_of 98 (Value.slice none 0 0); with_reducible refine (put4_own w w none 0 0 [] L hn0.out rfl (Below.refl _ _) (by omega) (by omega)).mono ?_; rintro e w1 ⟨p1, c1, rfl, o1, b1⟩; have o1' := Lib.hid o1; have b1' := Lib.hid b1; clear o1 b1)
    | (go_at_call 99; with_reducible refine (sum_calls _ l w1 (hv'.out.later b1'.out) (by rw [hL'.out]; exact hl)).mono ?_; rintro e w2 ⟨rfl, b2⟩; have o2 := Lib.hid (o1'.out.later b2); have b3 := Lib.hid (b1'.out.trans (b2.mono b1'.out.size)); clear b2 o1')
    | (go_at_call 98; with_reducible refine (put4_own w w2 _ 4 _ (be32 L) (sumOf l) o2.out rfl b3.out hsm (by decide)).mono ?_; rintro e w3 ⟨p3, c3, rfl, o3, b4⟩; obtain ⟨p5, c5, w5, e5, o5, k5⟩ := o3.put (hv'.out.later b4) (by rw [hL'.out]; simp [be32_len]; omega) b4.size; have o5' := Lib.hid o5; have b5' := Lib.hid (b4.trans (k5.below (fun j _ e => (o3.lt j e).1) b4.size)); clear o5 k5 b4 o3))
  go_ret
  refine ⟨p5, c5, ?_, ?_, b5'.out⟩
  · rw [sealL_len, hL'.out]
    show Ending.returned (.slice p5 (4 + 4 + L) c5) = _
    rfl
  · have := o5'.out
    rw [sealL_len]
    rw [List.length_append, be32_len, be32_len] at this
    unfold sealL
    rw [hL'.out]
    rw [hL'.out] at this
    exact this
end Go.Proofs.YtabcdodjkfknlaaGreatDoor
namespace Go.Proofs.YtabcdodjkfknlaaGreatDoor
open Go.RowKit
attribute [local go_sem ↓] dapp_op dslK_op
theorem eqlB0 (W : World) : (binOp .eql 43 (.slice none 0 0) (.slice none 0 0)).run Tryz.prog W = .ok (.bool true) W := by kernel_rfl
theorem eqlB1 (a : Addr) (n c : Nat) (W : World) : (binOp .eql 43 (.slice (some a) n c) (.slice none 0 0)).run Tryz.prog W = .ok (.bool false) W := by kernel_rfl
set_option maxHeartbeats 1000000 in
set_option maxRecDepth 100000 in
theorem cloneB_calls (v : Value) (l : List UInt8) (w : World) (hv : Bytes w v l) (hl : l.length ≤ 100000000) :
    Calls Tryz.prog 101 #[v] w (MadeB w l) := by
  obtain ⟨p, c, rfl⟩ := hv.slice
  rcases p with _ | a
  · have hl0 : l = [] := by
      rcases hv with (⟨_, h⟩ | ⟨g, o, c3, e, _⟩) | ⟨a', c3, e, _⟩
      · exact h
      · cases e
      · cases e
    subst hl0
    have hv2 : Value.slice none ([] : List UInt8).length c = .slice none 0 0 := by
      rcases hv with (⟨e, h⟩ | ⟨g, o, c3, e, _⟩) | ⟨a', c3, e, _⟩
      · exact e
      · cases e
      · cases e
    rw [hv2]
    have e0 := eqlB0
    go_enter Tryz.func101, Tryz.ntmps101
    go_wp2
    go_ret
    exact ⟨none, 0, rfl, BOwn.nil _ _, Below.refl _ _⟩
  · have hv' := Lib.hid hv
    clear hv
    obtain ⟨L, hL⟩ : ∃ L, l.length = L := ⟨_, rfl⟩
    have hL' := Lib.hid hL
    rw [hL] at hl hv' ⊢
    have e1 := fun W => eqlB1 a L c W
    have bN := Blk.new w 5 #[]
    have hA := (Below.refl w.heap.size w).alloc (Nat.le_refl _) (.cells #[] 5)
    have hO : BOwn w.heap.size (w.alloc (.cells #[] 5)) (.slice (some ⟨w.heap.size, 0, none⟩) 0 0) [] := ⟨rfl, .inr ⟨w.heap.size, 0, #[], rfl, Nat.le_refl _, bN, Nat.le_refl _, by unfold maxLen; omega, rfl, rfl⟩⟩
    obtain ⟨p1, c1, w1, ea, o1, k1⟩ := hO.put (by rw [← hL'.out] at hv'; exact hv'.out.later hA) (by rw [hL'.out]; simp; omega) hA.size
    have hb := hA.trans (k1.below (fun j _ e => (hO.lt j e).1) hA.size)
    rw [List.length_nil, Nat.zero_add, List.nil_append, hL'.out] at o1
    rw [List.length_nil, Nat.zero_add, hL'.out] at ea
    have o1' := Lib.hid o1
    have hb' := Lib.hid hb
    clear o1 hb hO hA bN k1 hv' hL
    go_enter Tryz.func101, Tryz.ntmps101
    go_wp2
    go_ret
    exact ⟨p1, c1, by rw [hL'.out]; rfl, by rw [hL'.out]; exact o1'.out, hb'.out⟩
theorem rd32_lt (l : List UInt8) : rd32 l < 4294967296 := by
  rcases l with _ | ⟨a, _ | ⟨b, _ | ⟨c, _ | ⟨d, l⟩⟩⟩⟩ <;> simp only [rd32] <;> (try omega)
  have ha := a.toNat_lt
  have hb := b.toNat_lt
  have hc := c.toNat_lt
  have hd := d.toNat_lt
  generalize a.toNat = A at *
  generalize b.toNat = B at *
  generalize c.toNat = C at *
  generalize d.toNat = D at *
  omega
/-- the first frame of bytes: an error's number, or its bytes -/
def nextL (l : List UInt8) : Nat × List UInt8 :=
  if l.length < 8 ∨ l.length - 8 < rd32 l then (7, []) else
  if sumOf ((l.drop 8).take (rd32 l)) ≠ rd32 (l.drop 4) then (8, []) else (0, (l.drop 8).take (rd32 l))
theorem next_seal {l : List UInt8} (h : l.length < 4294967296) (rest : List UInt8) : nextL (sealL l ++ rest) = (0, l) := by
  have h1 : rd32 (sealL l ++ rest) = l.length := by unfold sealL; rw [List.append_assoc, List.append_assoc]; exact rd32_be h _
  have h2 : (sealL l ++ rest).drop 4 = be32 (sumOf l) ++ (l ++ rest) := by unfold sealL; rw [List.append_assoc, List.append_assoc]; exact List.drop_left (l₁ := be32 l.length)
  have h3 : (sealL l ++ rest).drop 8 = l ++ rest := by
    have : sealL l ++ rest = (be32 l.length ++ be32 (sumOf l)) ++ (l ++ rest) := by unfold sealL; rw [List.append_assoc]
    rw [this]; exact List.drop_left (l₁ := be32 l.length ++ be32 (sumOf l))
  unfold nextL
  rw [h1, h2, h3, rd32_be (sumOf_lt l), List.take_left, List.length_append, sealL_len]
  rw [if_neg (by omega), if_neg (by simp)]
/-- what Next answers -/
def NextPost (w : World) (r : Nat × List UInt8) (e : Ending) (w' : World) : Prop := Below w.heap.size w w' ∧
  ((r.1 ≠ 0 ∧ e = .returned (.tuple #[.slice none 0 0, .int .i64 0, .int .i64 r.1])) ∨
   (r.1 = 0 ∧ ∃ p c, e = .returned (.tuple #[.slice p r.2.length c, .int .i64 ((8 + r.2.length : Nat) : Int), .int .i64 0]) ∧ BOwn w.heap.size w' (.slice p r.2.length c) r.2))
set_option maxHeartbeats 1000000 in
set_option maxRecDepth 100000 in
theorem frame_next_calls (v : Value) (l : List UInt8) (w : World) (hv : Bytes w v l) (hl : l.length ≤ 100000000) :
    Calls Tryz.prog 60 #[v] w (NextPost w (nextL l)) := by
  obtain ⟨p, c, rfl⟩ := hv.slice
  have hlc := hv.len.2
  have hrl := rd32_lt l
  have hsm := sumOf_lt ((l.drop 8).take (rd32 l))
  have hrl2 := rd32_lt (l.drop 4)
  obtain ⟨r, hr⟩ : ∃ r, nextL l = r := ⟨_, rfl⟩
  have hr' := Lib.hid hr
  rw [hr]
  unfold nextL at hr
  have hG := fun W (h : Below w.heap.size w W) (h4 : 4 ≤ l.length) => get4_calls (.slice p l.length c) l W (hv.later h) h4 hl
  have hB : ∀ n, n ≤ l.length - 8 → 8 ≤ l.length → Bytes w (.slice (if c = 8 then p else p.map (·.add 8)) n (c - 8)) ((l.drop 8).take n) := fun n h1 h2 => (hv.drop h2).take h1
  have hD : 4 ≤ l.length → Bytes w (.slice (if c = 4 then p else p.map (·.add 4)) (l.length - 4) (c - 4)) (l.drop 4) := fun h => hv.drop h
  by_cases h8 : l.length < 8
  · rw [if_pos (.inl h8)] at hr
    subst hr
    clear hr' hB hD hG hv hsm hrl2
    obtain ⟨L, hL⟩ : ∃ L, l.length = L := ⟨_, rfl⟩
    rw [hL] at h8 hl hlc ⊢
    have t8 : (L : Int) < 8 := by omega
    go_enter Tryz.func60, Tryz.ntmps60
    go_wp2
    go_ret3
    exact ⟨Below.refl _ _, .inl ⟨by decide, rfl⟩⟩
  · have hc4 : 4 ≤ l.length := by omega
    have hG1 := Lib.hid (fun W h => hG W h hc4)
    have hD1 := Lib.hid (hD hc4)
    clear hG hD
    obtain ⟨n, hn⟩ : ∃ n, rd32 l = n := ⟨_, rfl⟩
    have hB1 := hB n
    rw [hn] at hr hsm hrl
    have hn' := Lib.hid hn
    by_cases hs : l.length - 8 < n
    · rw [if_pos (.inr hs)] at hr
      subst hr
      clear hr' hB hB1 hD1 hv hsm hrl2
      obtain ⟨L, hL⟩ : ∃ L, l.length = L := ⟨_, rfl⟩
      rw [hL] at h8 hl hlc hs hc4 hG1 ⊢
      have t8 : ¬ (L : Int) < 8 := by omega
      have t9 : (L : Int) - 8 < (n : Int) := by omega
      have t10 : (0 : Int) ≤ (L : Int) - 8 := by omega
      clear hL hn h8 hs
      go_enter Tryz.func60, Tryz.ntmps60
      go_wp2_with (go_at_call 102; with_reducible refine (hG1.out _ (Below.refl _ _)).mono ?_; rintro e w1 ⟨rfl, rfl⟩; rw [hn'.out])
      go_ret3
      exact ⟨(Below.refl _ _).drew, .inl ⟨by decide, rfl⟩⟩
    · have hB2 := hB1 (by omega) (by omega)
      rw [if_neg (by omega)] at hr
      have hlen : ((l.drop 8).take n).length = n := by rw [List.length_take, List.length_drop]; omega
      obtain ⟨q, hq⟩ : ∃ q, (l.drop 8).take n = q := ⟨_, rfl⟩
      rw [hq] at hr hsm hB2 hlen
      obtain ⟨m, hm⟩ : ∃ m, rd32 (l.drop 4) = m := ⟨_, rfl⟩
      have hm' := Lib.hid hm
      rw [hm] at hr hrl2
      have hS := fun W (h : Below w.heap.size w W) => sum_calls _ q W (hB2.later h) (by omega)
      have hK := fun W (h : Below w.heap.size w W) => cloneB_calls _ q W (hB2.later h) (by omega)
      have hG2 := fun W (h : Below w.heap.size w W) => get4_calls _ (l.drop 4) W (hD1.out.later h) (by rw [List.length_drop]; omega) (by rw [List.length_drop]; omega)
      have s1 := fun W => bsl_mid p l.length c 8 (8 + n) (by omega) (by omega) W
      have s2 := fun W => bsl_from p l.length c 4 (by omega) W
      rw [show 8 + n - 8 = n by omega] at s1
      simp only [Int.natCast_add] at s1
      obtain ⟨pA, hpA⟩ : ∃ pA, (if c = 8 then p else p.map (·.add 8)) = pA := ⟨_, rfl⟩
      obtain ⟨pB, hpB⟩ : ∃ pB, (if c = 4 then p else p.map (·.add 4)) = pB := ⟨_, rfl⟩
      rw [hpA] at s1 hS hK
      rw [hpB] at s2 hG2
      have s1' : ∀ W, (dslK 43 (.slice p l.length c) (some (.int .i64 8)) (some (.int .i64 (8 + (n : Int)))) none).run Tryz.prog W = .ok (.slice pA n (c - 8)) W := s1
      have s2' : ∀ W, (dslK 43 (.slice p l.length c) (some (.int .i64 4)) none none).run Tryz.prog W = .ok (.slice pB (l.length - 4) (c - 4)) W := s2
      have hS' := Lib.hid hS
      have hK' := Lib.hid hK
      have hG2' := Lib.hid hG2
      have hlen' := Lib.hid hlen
      clear s1 s2 hS hK hG2 hB hB1 hB2 hD1 hv hq hm hn hpA hpB hlen
      obtain ⟨L, hL⟩ : ∃ L, l.length = L := ⟨_, rfl⟩
      rw [hL] at h8 hl hlc hs hc4 hG1 s1' s2' hG2' ⊢
      have t8 : ¬ (L : Int) < 8 := by omega
      have t9 : ¬ (L : Int) - 8 < (n : Int) := by omega
      have t10 : (0 : Int) ≤ (L : Int) - 8 := by omega
      clear hL h8 hs
      go_enter Tryz.func60, Tryz.ntmps60
      go_wp2_with (go_at_call 102; with_reducible refine (hG1.out _ (by first | exact Below.refl _ _ | exact (Below.refl _ _).drew)).mono ?_; rintro e w1 ⟨rfl, rfl⟩; rw [hn'.out])
      refine wp_region_s (fun w' => Below w.heap.size w w') [] [(true, 0), (true, 2), (true, 3), (false, 1), (false, 4), (true, 5)] (by kernel_rfl) (by kernel_rfl) (by kernel_rfl) (by kernel_rfl) (fun _ _ _ _ _ h => h) (Below.refl _ _).drew.drew.drew ?_
      repeat
        refine wpS_take (v := ?_) rfl (.inl ⟨by rfl, fun w' hS => ?_⟩) ?_
        rotate_left
        · (try dsimp only at hS); go_simp; try with_reducible rfl
        simp only [Act.put, List.setIfInBounds_toArray, List.set_cons_zero, List.set_cons_succ]
      refine wpS_go rfl ?_
      go_wp2_with fail
      with_reducible refine (hS'.out _ (Below.refl _ _).drew.drew.drew).mono ?_
      rintro e w1 ⟨rfl, b1⟩
      have b1' := Lib.hid (((Below.refl w.heap.size w).drew.drew.drew).trans b1)
      clear b1
      go_wp2_with fail
      refine ⟨fun _ => b1'.out, ?_⟩
      refine wpS_go rfl ?_
      go_wp2_with fail
      with_reducible refine (hG2'.out _ b1'.out).mono ?_
      rintro e w2 ⟨rfl, rfl⟩
      rw [hm'.out]
      go_wp2_with fail
      refine ⟨fun _ => b1'.out.drew, ?_⟩
      refine wpS_take (v := ?_) rfl (.inl ⟨by rfl, fun w' hS => ?_⟩) ?_
      rotate_left
      · (try dsimp only at hS); go_simp; try with_reducible rfl
      simp only [Act.put, List.setIfInBounds_toArray, List.set_cons_zero, List.set_cons_succ]
      refine wpS_end ?_
      by_cases he : sumOf q = m
      · rw [if_neg (by simpa using he)] at hr
        subst hr
        have te : ((sumOf q : Int) == (m : Int)) = true := by simp [he]
        go_wp2_with (go_at_call 101; ((with_reducible refine (hK'.out _ b1'.out.drew).mono ?_); rintro e w3 ⟨p3, c3, rfl, o3, b3⟩; have b4 := Lib.hid (b1'.out.drew.trans (b3.mono b1'.out.drew.size)); have o4 := Lib.hid (o3.mono b1'.out.drew.size); clear o3 b3))
        go_ret3
        exact ⟨b4.out, .inr ⟨rfl, p3, c3, by rw [hlen'.out, Int.natCast_add]; rfl, o4.out⟩⟩
      · rw [if_pos he] at hr
        subst hr
        have te : ((sumOf q : Int) == (m : Int)) = false := by simp; omega
        go_wp2
        go_ret3
        exact ⟨b1'.out.drew, .inl ⟨by decide, rfl⟩⟩
end Go.Proofs.YtabcdodjkfknlaaGreatDoor
namespace Go.Proofs.YtabcdodjkfknlaaGreatDoor
open Go.RowKit
attribute [local go_sem ↓] dapp_op dslK_op
attribute [local go_sem] Oper.semAt_some
theorem Blk.at_ {w : World} {t : TypeId} {cs : Array Value} {n : Nat} (h : w.heap.size = n) : Blk (w.alloc (.cells cs t)) n t cs := by subst h; exact Blk.new w t cs
/-- how an edit's reading ends -/
def finR (r : Rdr) : Rdr := if r.l ≠ [] then r.took 0 9 else r
theorem decodeE_eq (l : List UInt8) {r1 r2 : Rdr} {A : List Tbl} {D : List Int} (h1 : (Rdr.mk l 0).timesR Rdr.tblR = r1) (h2 : (Rdr.mk l 0).times Rdr.tblR Rdr.tbl = A) (h3 : r1.timesR Rdr.smallR = r2) (h4 : r1.times Rdr.smallR Rdr.small = D) :
    decodeE l = if (finR r2.numR.numR.smallR.smallR).e ≠ 0 then (Edt.zero, (finR r2.numR.numR.smallR.smallR).e) else (⟨A, D, r2.num, r2.numR.num, r2.numR.numR.small, r2.numR.numR.smallR.small⟩, 0) := by
  subst h1 h2 h3 h4
  rfl
def zeroE : Array Value := #[.slice none 0 0, .slice none 0 0, .int .u64 0, .int .u64 0, .int .i64 0, .int .i64 0]
/-- the variables as Decode lays them -/
theorem dec_start {w : World} {v : Value} {l : List UInt8} (hv : Bytes w v l) (hl : l.length ≤ 900000) (W : World)
    (hW : W = ((((w.alloc (.cells #[.slice none 0 0, .slice none 0 0, .int .u64 0, .int .u64 0, .int .i64 0, .int .i64 0] 33)).alloc (.cells #[v, .int .i64 0] 144)).alloc (.cells #[.slice none 0 0, .slice none 0 0, .int .u64 0, .int .u64 0, .int .i64 0, .int .i64 0] 33)).alloc (.cells #[.func (.func 103) #[.pointer (some ⟨w.heap.size + 1, 0, none⟩)] #[]] 145)).alloc (.cells #[.func (.func 104) #[.pointer (some ⟨w.heap.size + 1, 0, none⟩)] #[]] 146)) :
    RdAt w.heap.size W (w.heap.size + 1) ⟨l, 0⟩ ∧ DecAt w.heap.size w W (w.heap.size + 1) (w.heap.size + 1 + 1) (w.heap.size + 1 + 1 + 1) (w.heap.size + 1 + 1 + 1 + 1) w.heap.size (.slice none 0 0) (.slice none 0 0) Edt.zero := by
  have hb : Below w.heap.size w W := by
    rw [hW]
    exact (((((Below.refl _ w).alloc (Nat.le_refl _) _).alloc (by simp) _).alloc (by simp; omega) _).alloc (by simp; omega) _).alloc (by simp; omega) _
  refine ⟨⟨Nat.le_succ _, v, ?_, hv.later hb, ?_, ?_⟩, ⟨⟨?_, ?_, ?_, ?_, Nat.le_refl _⟩, ⟨?_, ?_⟩, ⟨?_, ?_, ?_⟩, hb, ?_, World.ownsRow_nil _ _ _ _, World.ownsRow_nil _ _ _ _, ?_, ?_, ?_⟩⟩
  · rw [hW]; exact (((Blk.at_ (by simp)).alloc _).alloc _).alloc _
  · intro g hg hne
    rcases hv with (⟨e, _⟩ | ⟨g', o, c3, e, _, hc⟩) | ⟨a', c3, e, e'⟩
    · rw [e] at hg; cases hg
    · rw [e] at hg
      obtain rfl := Option.some.inj hg
      cases hx : l with
      | nil => exact absurd hx hne
      | cons x l' => exact cell_lt (hc 0 x (by rw [hx]; rfl))
    · exact absurd e' hne
  · show l.length ≤ _; omega
  · omega
  · omega
  · omega
  · omega
  · omega
  · omega
  · omega
  · omega
  · omega
  · rw [hW]; exact ((Blk.at_ (by simp)).alloc _).alloc _
  · rw [hW]; exact (Blk.at_ (by simp)).alloc _
  · rw [hW]; exact Blk.at_ (by simp)
  · rw [hW]; exact ((((Blk.at_ rfl).alloc _).alloc _).alloc _).alloc _
end Go.Proofs.YtabcdodjkfknlaaGreatDoor
namespace Go.Proofs.YtabcdodjkfknlaaGreatDoor
open Go.RowKit
attribute [local go_sem ↓] dapp_op dslK_op
attribute [local go_sem] Oper.semAt_some
theorem DecAt.seesE {B : Nat} {w0 w : World} {R E SM TX Z : Nat} {av dv : Value} {e : Edt} (h : DecAt B w0 w R E SM TX Z av dv e) : (∀ i, w.cell? ⟨E, i, none⟩ = (#[av, dv, .int .u64 e.floor, .int .u64 e.head, .int .i64 e.log, .int .i64 e.next] : Array Value)[i]?) ∧ (∀ i, w.frozen? ⟨E, i, none⟩ = false) := ⟨h.blk.cell, h.blk.frozen⟩
theorem RdAt.seesR {B : Nat} {w : World} {R : Nat} {r : Rdr} (h : RdAt B w R r) : ∃ p c, w.cell? ⟨R, 0, none⟩ = some (.slice p r.l.length c) ∧ w.cell? ⟨R, 1, none⟩ = some (.int .i64 r.e) := by
  obtain ⟨_, bv, h1, h2, _⟩ := h
  obtain ⟨p, c, rfl⟩ := h2.slice
  exact ⟨p, c, by rw [h1.cell]; rfl, by rw [h1.cell]; rfl⟩
theorem list6J {l : List Value} (h : l.length = 6) : ∃ a b c d e f, l = [a, b, c, d, e, f] := by
  match l, h with
  | [a, b, c, d, e, f], _ => exact ⟨a, b, c, d, e, f, rfl⟩
/-- six cells laid anew -/
theorem put_six {V : World} {g : Nat} {T : TypeId} {z : Array Value} (hz : z.size = 6) (hr : Blk V g T z) (v0 v1 v2 v3 v4 v5 : Value) :
    ∃ W, ((((((V.setCell ⟨g, 0, none⟩ v0).setCell ⟨g, 1, none⟩ v1).setCell ⟨g, 2, none⟩ v2).setCell ⟨g, 3, none⟩ v3).setCell ⟨g, 4, none⟩ v4).setCell ⟨g, 5, none⟩ v5) = W ∧ Blk W g T #[v0, v1, v2, v3, v4, v5] ∧ Keeps (fun j => j = g) V W := by
  refine ⟨_, rfl, ?_, ?_⟩
  · have h := (((((hr.set_ 0 v0).set_ 1 v1).set_ 2 v2).set_ 3 v3).set_ 4 v4).set_ 5 v5
    obtain ⟨l⟩ := z
    obtain ⟨a, b, c, d, e, f, rfl⟩ := list6J (l := l) (by simpa using hz)
    simpa using h
  · exact ((((((Keeps.refl (fun j => j = g) V).setCell (p := ⟨g, 0, none⟩) (.inl rfl) _).setCell (p := ⟨g, 1, none⟩) (.inl rfl) _).setCell (p := ⟨g, 2, none⟩) (.inl rfl) _).setCell (p := ⟨g, 3, none⟩) (.inl rfl) _).setCell (p := ⟨g, 4, none⟩) (.inl rfl) _).setCell (p := ⟨g, 5, none⟩) (.inl rfl) _
/-- what Decode ends with, all being well -/
theorem dec_good {w V W : World} {R E SM TX : Nat} {av dv : Value} {e : Edt} {l : List UInt8} (h : DecAt w.heap.size w V R E SM TX w.heap.size av dv e) (hk : Keeps (fun j => j = w.heap.size) V W) (hP : decodeE l = (e, 0)) :
    DecPost w (decodeE l) (.returned (.tuple #[.agg #[av, dv, .int .u64 e.floor, .int .u64 e.head, .int .i64 e.log, .int .i64 e.next], .int .i64 0])) W := by
  rw [hP]
  exact ⟨_, rfl, ⟨av, dv, rfl, h.add.keeps hk fun g hg e => h.add.blk_ne h.z (by decide) (by rw [hg, e]), h.drop.keeps hk fun g hg e => h.drop.blk_ne h.z (by decide) (by rw [hg, e])⟩, Keeps.below_step h.below h.size hk fun j e => Nat.le_of_eq e.symm⟩
/-- what Decode ends with, something being wrong -/
theorem dec_bad {w V W : World} {q : Int} {l : List UInt8} (h : Below w.heap.size w V) (hk : Keeps (fun j => j = w.heap.size) V W) (hP : decodeE l = (Edt.zero, q)) :
    DecPost w (decodeE l) (.returned (.tuple #[.agg #[.slice none 0 0, .slice none 0 0, .int .u64 0, .int .u64 0, .int .i64 0, .int .i64 0], .int .i64 q])) W := by
  rw [hP]
  exact ⟨_, rfl, ⟨_, _, rfl, World.ownsRow_nil _ _ _ _, World.ownsRow_nil _ _ _ _⟩, Keeps.below_step h h.size hk fun j e => Nat.le_of_eq e.symm⟩
set_option maxHeartbeats 4000000 in
set_option maxRecDepth 100000 in
theorem decode_calls (v : Value) (l : List UInt8) (w : World) (hv : Bytes w v l) (hl : l.length ≤ 900000) :
    Calls Tryz.prog 61 #[v] w (DecPost w (decodeE l)) := by
  obtain ⟨p, c, rfl⟩ := hv.slice
  obtain ⟨r1, e1⟩ : ∃ r1, (Rdr.mk l 0).timesR Rdr.tblR = r1 := ⟨_, rfl⟩
  obtain ⟨A, e2⟩ : ∃ A, (Rdr.mk l 0).times Rdr.tblR Rdr.tbl = A := ⟨_, rfl⟩
  obtain ⟨r2, e3⟩ : ∃ r2, r1.timesR Rdr.smallR = r2 := ⟨_, rfl⟩
  obtain ⟨D, e4⟩ : ∃ D, r1.times Rdr.smallR Rdr.small = D := ⟨_, rfl⟩
  have hDec := decodeE_eq l e1 e2 e3 e4
  have H0 := dec_start hv hl _ rfl
  have C1 := dec1_times w.heap.size (w.heap.size + 1) (w.heap.size + 1 + 1) (w.heap.size + 1 + 1 + 1) (w.heap.size + 1 + 1 + 1 + 1) w.heap.size w (.slice none 0 0) ⟨l, 0⟩ _ H0.1 H0.2 (.inl (by simpa using hl))
  rw [e1, e2] at C1
  have C2 := fun av w' hR hD (hb : Bd r1 A.length) => dec2_times w.heap.size (w.heap.size + 1) (w.heap.size + 1 + 1) (w.heap.size + 1 + 1 + 1) (w.heap.size + 1 + 1 + 1 + 1) w.heap.size w av A r1 w' hR hD (by rcases hb with h | ⟨h0, h⟩; exact .inl (by omega); exact .inr ⟨h0, by omega⟩)
  rw [e3, e4] at C2
  have C1' := Lib.hid C1
  have C2' := Lib.hid C2
  obtain ⟨r3, e5⟩ : ∃ r, r2.numR = r := ⟨_, rfl⟩
  obtain ⟨r4, e6⟩ : ∃ r, r3.numR = r := ⟨_, rfl⟩
  obtain ⟨r5, e7⟩ : ∃ r, r4.smallR = r := ⟨_, rfl⟩
  obtain ⟨r6, e8⟩ : ∃ r, r5.smallR = r := ⟨_, rfl⟩
  rw [e5, e6, e7, e8] at hDec
  have C3 := Lib.hid (fun (W : World) (h : RdAt w.heap.size W (w.heap.size + 1) r2) => (by have := number_calls _ _ _ _ h; rw [e5] at this; exact this : Calls Tryz.prog 108 #[.pointer (some ⟨w.heap.size + 1, 0, none⟩)] W (NumPost w.heap.size (w.heap.size + 1) W (.int .u64 r2.num) r3)))
  have C4 := Lib.hid (fun (W : World) (h : RdAt w.heap.size W (w.heap.size + 1) r3) => (by have := number_calls _ _ _ _ h; rw [e6] at this; exact this : Calls Tryz.prog 108 #[.pointer (some ⟨w.heap.size + 1, 0, none⟩)] W (NumPost w.heap.size (w.heap.size + 1) W (.int .u64 r3.num) r4)))
  have C5 := Lib.hid (fun (W : World) (h : RdAt w.heap.size W (w.heap.size + 1) r4) => (by have := small_calls _ _ _ _ h; rw [e7] at this; exact this : Calls Tryz.prog 103 #[.pointer (some ⟨w.heap.size + 1, 0, none⟩)] W (NumPost w.heap.size (w.heap.size + 1) W (.int .i64 r4.small) r5)))
  have C6 := Lib.hid (fun (W : World) (h : RdAt w.heap.size W (w.heap.size + 1) r5) => (by have := small_calls _ _ _ _ h; rw [e8] at this; exact this : Calls Tryz.prog 103 #[.pointer (some ⟨w.heap.size + 1, 0, none⟩)] W (NumPost w.heap.size (w.heap.size + 1) W (.int .i64 r5.small) r6)))
  generalize r2.num = fl at *
  generalize r3.num = hd at *
  generalize r4.small = lg at *
  generalize r5.small = nx at *
  have hDec' := Lib.hid hDec
  clear e1 e2 e3 e4 e5 e6 e7 e8 C1 C2 hDec H0 hv hl
  go_enter Tryz.func61, Tryz.ntmps61
  go_wp2_with fail
  with_reducible refine C1'.out.mono ?_
  rintro x w1 ⟨rfl, hR1, hb1, av, hD1⟩
  have C2 := Lib.hid (C2'.out av w1 hR1 hD1 hb1)
  have hm := Lib.hid hD1.size
  obtain ⟨R, eR⟩ : ∃ R, w.heap.size + 1 = R := ⟨_, rfl⟩
  obtain ⟨E, eE⟩ : ∃ E, R + 1 = E := ⟨_, rfl⟩
  obtain ⟨SM, eS⟩ : ∃ SM, E + 1 = SM := ⟨_, rfl⟩
  obtain ⟨TX, eT⟩ : ∃ TX, SM + 1 = TX := ⟨_, rfl⟩
  rw [eR] at C2 C3 C4 C5 C6 ⊢
  rw [eE] at C2 ⊢
  rw [eS] at C2 ⊢
  rw [eT] at C2 ⊢
  clear hR1 hb1 hD1 C1' C2'
  clear eR eE eS eT hm
  go_wp2_with fail
  with_reducible refine C2.out.mono ?_
  rintro x w2 ⟨rfl, hR2, hb2, dv, hD2⟩
  have hD2 : DecAt w.heap.size w w2 R E SM TX w.heap.size av dv ⟨A, D, 0, 0, 0, 0⟩ := hD2
  have C := Lib.hid (C3.out w2 hR2)
  have hD := Lib.hid hD2
  have hB := Lib.hid hR2.blk
  have n1 : E ≠ SM := fun e => Blk.ne_ hD2.sm hD2.blk (by decide) e.symm
  have n2 : SM ≠ E := fun e => Blk.ne_ hD2.sm hD2.blk (by decide) e
  have n3 : E ≠ R := hD2.ne.1
  have n4 : R ≠ E := hD2.ne.1.symm
  clear hD2 hR2 hb2 C2 C3
  go_wp2_with fail
  with_reducible refine C.out.mono ?_
  rintro x w3 ⟨rfl, hR3, hK3⟩
  have hD3 := hD.out.rd hK3 hB.out
  have S := hD3.set_ hR3 2 (.int .u64 fl) ⟨A, D, fl, 0, 0, 0⟩ rfl rfl rfl
  obtain ⟨qc, qf⟩ := hD3.seesE
  clear hK3 C hD hB hD3 hR3
  have C := Lib.hid (C4.out _ S.2)
  have hD := Lib.hid S.1
  have hB := Lib.hid S.2.blk
  clear S C4
  go_wp2_with fail
  with_reducible refine C.out.mono ?_
  rintro x w4 ⟨rfl, hR4, hK4⟩
  have hD4 := hD.out.rd hK4 hB.out
  have S := hD4.set_ hR4 3 (.int .u64 hd) ⟨A, D, fl, hd, 0, 0⟩ rfl rfl rfl
  clear qc qf
  obtain ⟨qc, qf⟩ := hD4.seesE
  have qs := hD4.sees.2.1
  clear hK4 C hD hB hD4 hR4
  have C := Lib.hid (C5.out _ S.2)
  have hD := Lib.hid S.1
  have hB := Lib.hid S.2.blk
  clear S C5
  go_wp2_with fail
  with_reducible refine C.out.mono ?_
  rintro x w5 ⟨rfl, hR5, hK5⟩
  have hD5 := hD.out.rd hK5 hB.out
  have S := hD5.set_ hR5 4 (.int .i64 lg) ⟨A, D, fl, hd, lg, 0⟩ rfl rfl rfl
  clear qc qf qs
  obtain ⟨qc, qf⟩ := hD5.seesE
  have qs := hD5.sees.2.1
  clear hK5 C hD hB hD5 hR5
  have C := Lib.hid (C6.out _ S.2)
  have hD := Lib.hid S.1
  have hB := Lib.hid S.2.blk
  clear S C6
  go_wp2_with fail
  with_reducible refine C.out.mono ?_
  rintro x w6 ⟨rfl, hR6, hK6⟩
  have hD6 := hD.out.rd hK6 hB.out
  have S := hD6.set_ hR6 5 (.int .i64 nx) ⟨A, D, fl, hd, lg, nx⟩ rfl rfl rfl
  clear qc qf qs
  obtain ⟨qc, qf⟩ := hD6.seesE
  obtain ⟨p6, c6, q0, q1⟩ := hR6.seesR
  clear hK6 C hD hB hD6 hR6
  obtain ⟨pa, ca, rfl⟩ := S.1.add.slice
  obtain ⟨pd, cd, rfl⟩ := S.1.drop.slice
  have Sd := Lib.hid S.1
  have Sr := Lib.hid S.2
  dsimp only at qc
  clear S
  have hFin : finR r6 = if r6.l ≠ [] then r6.took 0 9 else r6 := rfl
  obtain ⟨L, hL⟩ : ∃ L, r6.l.length = L := ⟨_, rfl⟩
  rw [hL] at q0
  by_cases hl : r6.l = []
  · rw [if_neg (by simpa using hl)] at hFin
    rw [hFin] at hDec'
    have hL0 : L = 0 := by rw [← hL, hl]; rfl
    subst hL0
    by_cases he : r6.e = 0
    · have t1 : (r6.e != 0) = false := by simpa using he
      have hP : decodeE l = (⟨A, D, fl, hd, lg, nx⟩, 0) := by rw [hDec'.out, if_neg (by simpa using he)]
      have hP' := Lib.hid hP
      generalize r6.e = q at *
      clear hP hFin hL hl he hDec'
      have qz := fun i => Sd.out.z.cell i
      have qzf := fun i => Sd.out.z.frozen i
      go_wp2
      obtain ⟨W, eW, bZ, kZ⟩ := put_six rfl Sd.out.z (.slice pa A.length ca) (.slice pd D.length cd) (.int .u64 fl) (.int .u64 hd) (.int .i64 lg) (.int .i64 nx)
      rw [eW]
      have cz := bZ.cell
      refine bodyPost_ret (v := .tuple #[.agg #[.slice pa A.length ca, .slice pd D.length cd, .int .u64 fl, .int .u64 hd, .int .i64 lg, .int .i64 nx], .int .i64 0]) (by simp [results, Tryz.results61, go_sem, cz]) rfl ?_
      exact dec_good Sd.out kZ hP'.out
    · have t1 : (r6.e != 0) = true := by simpa using he
      have hP : decodeE l = (Edt.zero, r6.e) := by rw [hDec'.out, if_pos he]
      have hP' := Lib.hid hP
      have hBl := Sd.out.below
      have hZ := Sd.out.z
      have q1' : (w6.setCell ⟨E, 5, none⟩ (.int .i64 nx)).cell? ⟨R, 1, none⟩ = some (.int .i64 r6.e) := by
        obtain ⟨_, _, _, h⟩ := Sr.out.seesR; exact h
      obtain ⟨q, hq⟩ : ∃ q, r6.e = q := ⟨_, rfl⟩
      rw [hq] at t1 hP' q1 q1'
      have q1'' := Lib.hid q1'
      have hBl' := Lib.hid hBl
      have hZ' := Lib.hid hZ
      clear hP hFin hL hl he hDec' hBl hZ q1' hq
      go_wp2
      have qv := q1''.out
      obtain ⟨V, eV⟩ : ∃ V, w6.setCell ⟨E, 5, none⟩ (.int .i64 nx) = V := ⟨_, rfl⟩
      rw [eV] at qv hBl' hZ' ⊢
      have hRZ : R ≠ w.heap.size := Sd.out.nz.2.symm
      clear eV qc qf q0 q1
      refine wp_region_s (fun w' => w'.cell? ⟨R, 1, none⟩ = some (.int .i64 q)) [] [(true, 0), (true, 1), (true, 2), (true, 3), (true, 4), (false, 5), (true, 6)] (by kernel_rfl) (by kernel_rfl) (by kernel_rfl) (by kernel_rfl) (fun _ _ _ _ _ h => h) qv ?_
      refine wpS_take (v := ?_) rfl (.inl ⟨by rfl, fun w' hS => ?_⟩) ?_
      rotate_left
      · (try dsimp only at hS); go_simp; try with_reducible rfl
      simp only [Act.put, List.setIfInBounds_toArray, List.set_cons_zero, List.set_cons_succ]
      refine wpS_take (v := ?_) rfl (.inl ⟨by rfl, fun w' hS => ?_⟩) ?_
      rotate_left
      · (try dsimp only at hS); go_simp; try with_reducible rfl
      simp only [Act.put, List.setIfInBounds_toArray, List.set_cons_zero, List.set_cons_succ]
      refine wpS_take (v := ?_) rfl (.inl ⟨by rfl, fun w' hS => ?_⟩) ?_
      rotate_left
      · (try dsimp only at hS); go_simp; try with_reducible rfl
      simp only [Act.put, List.setIfInBounds_toArray, List.set_cons_zero, List.set_cons_succ]
      refine wpS_take (v := ?_) rfl (.inl ⟨by rfl, fun w' hS => ?_⟩) ?_
      rotate_left
      · (try dsimp only at hS); go_simp; try with_reducible rfl
      simp only [Act.put, List.setIfInBounds_toArray, List.set_cons_zero, List.set_cons_succ]
      refine wpS_take (v := ?_) rfl (.inl ⟨by rfl, fun w' hS => ?_⟩) ?_
      rotate_left
      · (try dsimp only at hS); go_simp; try with_reducible rfl
      simp only [Act.put, List.setIfInBounds_toArray, List.set_cons_zero, List.set_cons_succ]
      have hZd := hZ'.out.drew
      have qz := hZd.cell
      have qzf := hZd.frozen
      have hBd := Lib.hid (hBl'.out.drew)
      have qv : V.drew.cell? ⟨R, 1, none⟩ = some (.int .i64 q) := qv
      generalize V.drew = V' at *
      obtain ⟨W, eW, bZ, kZ⟩ := put_six rfl hZd (.slice none 0 0) (.slice none 0 0) (.int .u64 0) (.int .u64 0) (.int .i64 0) (.int .i64 0)
      refine wpS_go rfl ?_
      go_wp2
      (try rw [eW])
      have cz := bZ.cell
      have qR : W.cell? ⟨R, 1, none⟩ = some (.int .i64 q) := by rw [← qv]; exact World.cell?_of_block (kZ.block R (cell_lt qv) hRZ)
      refine ⟨by first | exact qR | exact fun _ => qR, ?_⟩
      refine wpS_take (v := ?_) rfl (.inl ⟨by rfl, fun w' hS => ?_⟩) ?_
      rotate_left
      · (try dsimp only at hS); go_simp; try with_reducible rfl
      simp only [Act.put, List.setIfInBounds_toArray, List.set_cons_zero, List.set_cons_succ]
      refine wpS_end ?_
      go_wp2
      refine bodyPost_ret (v := .tuple #[.agg #[.slice none 0 0, .slice none 0 0, .int .u64 0, .int .u64 0, .int .i64 0, .int .i64 0], .int .i64 q]) (by simp [results, Tryz.results61, go_sem, cz]) rfl ?_
      exact dec_bad hBd.out kZ hP'.out
  · rw [if_pos hl] at hFin
    have he : (r6.took 0 9).e ≠ 0 := by
      intro h; exact absurd (took_e h).2.1 (by decide)
    have t1 : ((r6.took 0 9).e != 0) = true := by simpa using he
    have hP : decodeE l = (Edt.zero, (r6.took 0 9).e) := by rw [hDec'.out, hFin, if_pos he]
    have hP' := Lib.hid hP
    have hL0 : (0 : Int) < (L : Int) := by
      have : 0 < r6.l.length := List.length_pos_iff.2 hl
      omega
    have T : Calls Tryz.prog 109 #[.pointer (some ⟨R, 0, none⟩), .int .i64 0, .int .i64 9] (w6.setCell ⟨E, 5, none⟩ (.int .i64 nx)) (TookPost w.heap.size R (w6.setCell ⟨E, 5, none⟩ (.int .i64 nx)) (r6.took 0 9)) := took_calls w.heap.size R r6 0 9 _ Sr.out (Nat.zero_le _)
    have T' := Lib.hid T
    obtain ⟨q, hq⟩ : ∃ q, (r6.took 0 9).e = q := ⟨_, rfl⟩
    rw [hq] at t1 hP'
    have hq' := Lib.hid hq
    clear hP hFin hL hl he hDec' T hq
    go_wp2_with fail
    with_reducible refine T'.out.mono ?_
    rintro x w7 ⟨rfl, hR7, hK7⟩
    have hD7 := Sd.out.rd hK7 Sr.out.blk
    obtain ⟨_, _, _, q1'⟩ := hR7.seesR
    rw [hq'.out] at q1'
    have hBl' := Lib.hid hD7.below
    have hZ' := Lib.hid hD7.z
    have hRZ' := Lib.hid hD7.nz.2.symm
    clear hR7 hK7 hD7 T' qc qf q0 q1
    go_wp2
    have qv : w7.drew.cell? ⟨R, 1, none⟩ = some (.int .i64 q) := q1'
    have hRZ := hRZ'.out
    obtain ⟨V, eV⟩ : ∃ V, w7 = V := ⟨_, rfl⟩
    rw [eV] at qv hBl' hZ' ⊢
    clear eV q1'
    refine wp_region_s (fun w' => w'.cell? ⟨R, 1, none⟩ = some (.int .i64 q)) [] [(true, 0), (true, 1), (true, 2), (true, 3), (true, 4), (false, 5), (true, 6)] (by kernel_rfl) (by kernel_rfl) (by kernel_rfl) (by kernel_rfl) (fun _ _ _ _ _ h => h) qv ?_
    refine wpS_take (v := ?_) rfl (.inl ⟨by rfl, fun w' hS => ?_⟩) ?_
    rotate_left
    · (try dsimp only at hS); go_simp; try with_reducible rfl
    simp only [Act.put, List.setIfInBounds_toArray, List.set_cons_zero, List.set_cons_succ]
    refine wpS_take (v := ?_) rfl (.inl ⟨by rfl, fun w' hS => ?_⟩) ?_
    rotate_left
    · (try dsimp only at hS); go_simp; try with_reducible rfl
    simp only [Act.put, List.setIfInBounds_toArray, List.set_cons_zero, List.set_cons_succ]
    refine wpS_take (v := ?_) rfl (.inl ⟨by rfl, fun w' hS => ?_⟩) ?_
    rotate_left
    · (try dsimp only at hS); go_simp; try with_reducible rfl
    simp only [Act.put, List.setIfInBounds_toArray, List.set_cons_zero, List.set_cons_succ]
    refine wpS_take (v := ?_) rfl (.inl ⟨by rfl, fun w' hS => ?_⟩) ?_
    rotate_left
    · (try dsimp only at hS); go_simp; try with_reducible rfl
    simp only [Act.put, List.setIfInBounds_toArray, List.set_cons_zero, List.set_cons_succ]
    refine wpS_take (v := ?_) rfl (.inl ⟨by rfl, fun w' hS => ?_⟩) ?_
    rotate_left
    · (try dsimp only at hS); go_simp; try with_reducible rfl
    simp only [Act.put, List.setIfInBounds_toArray, List.set_cons_zero, List.set_cons_succ]
    have hZd := hZ'.out.drew
    have qz := hZd.cell
    have qzf := hZd.frozen
    have hBd := Lib.hid (hBl'.out.drew)
    have qv : V.drew.cell? ⟨R, 1, none⟩ = some (.int .i64 q) := qv
    generalize V.drew = V' at *
    obtain ⟨W, eW, bZ, kZ⟩ := put_six rfl hZd (.slice none 0 0) (.slice none 0 0) (.int .u64 0) (.int .u64 0) (.int .i64 0) (.int .i64 0)
    refine wpS_go rfl ?_
    go_wp2
    (try rw [eW])
    have cz := bZ.cell
    have qR : W.cell? ⟨R, 1, none⟩ = some (.int .i64 q) := by rw [← qv]; exact World.cell?_of_block (kZ.block R (cell_lt qv) hRZ)
    refine ⟨by first | exact qR | exact fun _ => qR, ?_⟩
    refine wpS_take (v := ?_) rfl (.inl ⟨by rfl, fun w' hS => ?_⟩) ?_
    rotate_left
    · (try dsimp only at hS); go_simp; try with_reducible rfl
    simp only [Act.put, List.setIfInBounds_toArray, List.set_cons_zero, List.set_cons_succ]
    refine wpS_end ?_
    go_wp2
    refine bodyPost_ret (v := .tuple #[.agg #[.slice none 0 0, .slice none 0 0, .int .u64 0, .int .u64 0, .int .i64 0, .int .i64 0], .int .i64 q]) (by simp [results, Tryz.results61, go_sem, cz]) rfl ?_
    exact dec_bad hBd.out kZ hP'.out
end Go.Proofs.YtabcdodjkfknlaaGreatDoor
