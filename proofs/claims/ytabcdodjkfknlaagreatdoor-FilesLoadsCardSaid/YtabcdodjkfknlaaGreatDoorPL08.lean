/- Walks: a number, a text put behind bytes. Walks: a number, a text read out of bytes. Walks: a text read out of bytes. Walks: the reader of an edit: took, number, small, text. Walks: the reader of an edit: number, small, text. A statement that draws its order, walked in one order: what only reads cells that nobody writes ahead of it is taken first; the others come one behind the other, as they must. -/
import Derived.Test.YtabcdodjkfknlaaGreatDoorPL07
import Derived.Test.YtabcdodjkfknlaaGreatDoorPL06
import Derived.IntWalk
import Derived.Laws.BitsAllLaws
import Derived.Laws.BytesArg
import Derived.OrdersHeld
import Derived.Test.YtabcdodjkfknlaaGreatDoorPL04
namespace Go.Proofs.YtabcdodjkfknlaaGreatDoor
open Go.RowKit
attribute [local go_sem ↓] dapp_op dslK_op
/-- bytes that grow: the argument's own, with no room, or a row that this call has made -/
def RoomB (w wr : World) (b : Value) (l : List UInt8) : Prop := Below w.heap.size w wr ∧ ∃ p c, b = .slice p l.length c ∧ (BOwn w.heap.size wr b l ∨ (c = l.length ∧ Bytes wr b l))
theorem RoomB.put {w wr : World} {b : Value} {l : List UInt8} (h : RoomB w wr b l) (x : UInt8) (hl : l.length ≤ 1000000000) :
    ∃ p c w', (dappOp #[43, 43] 43 #[b, .slice (some ⟨wr.heap.size, 0, none⟩) 1 1]).run Tryz.prog (wr.alloc (.cells #[.int .u8 x.toNat] 5)) = .ok (.slice p (l.length + 1) c) w' ∧
      BOwn w.heap.size w' (.slice p (l.length + 1) c) (l ++ [x]) ∧ Below w.heap.size w w' := by
  obtain ⟨hb, p, c, rfl, h⟩ := h
  have hz := hb.size
  have hal : Below w.heap.size w (wr.alloc (.cells #[.int .u8 x.toNat] 5)) := hb.alloc hz _
  have hA := (Below.refl wr.heap.size wr).alloc (Nat.le_refl _) (.cells #[.int .u8 x.toNat] 5)
  have hx : Bytes (wr.alloc (.cells #[.int .u8 x.toNat] 5)) (.slice (some ⟨wr.heap.size, 0, none⟩) 1 1) [x] := by
    refine .inl (.inr ⟨_, _, _, rfl, Nat.le_refl _, fun i y hy => ?_⟩)
    have := (List.getElem?_eq_some_iff.1 hy).1
    obtain rfl : i = 0 := by simpa using this
    obtain rfl : x = y := by simpa using hy
    rw [(Blk.new wr 5 #[.int .u8 x.toNat]).cell]
    rfl
  rcases h with h | ⟨rfl, h⟩
  · have h' := h.later hA
    obtain ⟨p', c', w', h1, h2, h3⟩ := h'.put hx (by simp; omega) (by simp; omega)
    simp only [List.length_cons, List.length_nil, Nat.zero_add] at h1 h2
    exact ⟨p', c', w', h1, h2, Keeps.below_step hal hal.size h3 fun j e => (h'.lt j e).1⟩
  · have h' := h.later hA
    obtain ⟨p', c', w', h1, h2, h3⟩ := Bytes.put h' hx (by omega) (by simp; omega)
    simp only [List.length_cons, List.length_nil, Nat.zero_add] at h1 h2
    exact ⟨p', c', w', h1, h2.mono (by simp; omega), hal.trans (h3.mono hal.size)⟩
theorem or80 (m : Nat) : bits .or .u8 ((m : Int) % 256) 128 = ((UInt8.ofNat (m % 128 + 128)).toNat : Int) := by
  have h : ∀ a : Fin 256, bits .or .u8 ((a.val : Nat) : Int) 128 = ((UInt8.ofNat (a.val % 128 + 128)).toNat : Int) := by decide +kernel
  have := h ⟨m % 256, by omega⟩
  simp only at this
  rw [show (m : Int) % 256 = ((m % 256 : Nat) : Int) by omega, this, show m % 256 % 128 = m % 128 by omega]
set_option maxHeartbeats 1000000 in
set_option maxRecDepth 100000 in
theorem put_calls (v : Value) (l : List UInt8) (n : Nat) (w : World) (hv : Bytes w v l) (hl : l.length ≤ 100000000) (hn : n < 18446744073709551616) :
    Calls Tryz.prog 90 #[v, .int .u64 n] w (MadeB w (l ++ uv n)) := by
  obtain ⟨p, c, rfl⟩ := hv.slice
  have hs := fun W => bsl_full p l.length c hv.len.2 W
  have hR : RoomB w w (.slice p l.length l.length) l := ⟨Below.refl _ _, p, _, rfl, .inr ⟨rfl, hv.full⟩⟩
  have hR' := Lib.hid hR
  clear hv hR
  go_enter Tryz.func90, Tryz.ntmps90
  go_wp2
  go_loopw [0, 1] (fun b v wr => ∃ (x : List UInt8) (m : Nat), v = .int .u64 m ∧ m < 18446744073709551616 ∧ l ++ uv n = x ++ uv m ∧ RoomB w wr b x) (fun _ v _ => (intOf v).toNat)
  case atStart => exact ⟨l, n, rfl, hn, rfl, hR'.out⟩
  case round =>
    obtain ⟨x, m, rfl, hm, hu, hR⟩ := hrel
    have hlen : (l ++ uv n).length = x.length + (uv m).length := by rw [hu, List.length_append]
    have hlen2 := uv_len10 hn
    have hlen3 := uv_len10 hm
    rw [List.length_append] at hlen
    have hx : x.length ≤ 1000000000 := by omega
    obtain ⟨_, p1, c1, rfl, _⟩ := id hR
    by_cases hlt : m < 128
    · have ht : ¬ (127 : Int) < (m : Int) := by omega
      obtain ⟨p2, c2, w2, e2, o2, b2⟩ := hR.put (UInt8.ofNat m) hx
      rw [ofNat_toNat (by omega)] at e2
      rw [uv_small hlt] at hu
      have o2' := Lib.hid o2
      have hu' := Lib.hid hu
      clear hlen hR hR' hu o2 hlen2 hlen3
      go_wp2
      go_ret
      rw [hu'.out]
      exact ⟨p2, c2, by simp, by simpa using o2'.out, b2⟩
    · have ht : (127 : Int) < (m : Int) := by omega
      obtain ⟨p2, c2, w2, e2, o2, b2⟩ := hR.put (UInt8.ofNat (m % 128 + 128)) hx
      rw [← or80] at e2
      rw [uv_big hlt] at hu
      have o2' := Lib.hid o2
      have hu' := Lib.hid hu
      clear hlen hR hR' hu o2 hlen2 hlen3
      go_wp2
      go_roundw
      case rel => exact ⟨x ++ [UInt8.ofNat (m % 128 + 128)], m / 128, by go_num, by omega, by rw [hu'.out]; simp, b2, p2, c2, by simp, .inl (by simpa using o2'.out)⟩
      case measure => simp [intOf]; omega
set_option maxHeartbeats 1000000 in
set_option maxRecDepth 100000 in
theorem putText_calls (v : Value) (l : List UInt8) (s : ByteArray) (w : World) (hv : Bytes w v l) (hl : l.length ≤ 90000000) (hs : s.size ≤ 1000000) :
    Calls Tryz.prog 91 #[v, .string s] w (MadeB w (l ++ utx s)) := by
  have hP := Lib.hid (put_calls v l s.size w hv (by omega) (by omega))
  have hu := uv_len10 (n := s.size) (by omega)
  have hs2 : s.size < 9223372036854775808 := by omega
  clear hv
  go_enter Tryz.func91, Tryz.ntmps91
  go_wp2_with fail
  refine hP.out.mono ?_
  rintro e w1 ⟨p1, c1, rfl, o1, b1⟩
  obtain ⟨x, hx⟩ : ∃ x, l ++ uv s.size = x := ⟨_, rfl⟩
  have hxl : x.length = l.length + (uv s.size).length := by rw [← hx, List.length_append]
  rw [hx] at o1 ⊢
  obtain ⟨p2, c2, w2, e2, o2, k2⟩ := o1.putS (s := s) (by omega) b1.size
  have b2 := Lib.hid (Keeps.below_step b1 b1.size k2 fun j e => (o1.lt j e).1)
  have he : x ++ s.data.toList = l ++ utx s := by rw [← hx]; unfold utx; rw [List.append_assoc]
  rw [he] at e2 o2
  obtain ⟨N, hN⟩ : ∃ N, (l ++ utx s).length = N := ⟨_, rfl⟩
  have o2' := Lib.hid o2
  rw [hN] at e2
  have hN' := Lib.hid hN
  clear hP hu hxl hx he k2 o1 o2 b1 hN
  go_wp2_with fail
  go_ret
  exact ⟨p2, c2, by rw [hN'.out]; rfl, o2'.out, b2.out⟩
end Go.Proofs.YtabcdodjkfknlaaGreatDoor
namespace Go.Proofs.YtabcdodjkfknlaaGreatDoor
open Go.RowKit
attribute [local go_sem ↓] dapp_op dslK_op
def GotPost (w : World) (g : Got) (e : Ending) (w' : World) : Prop := e = .returned (.tuple #[.int .u64 g.v, .int .i64 g.n, .int .i64 g.e]) ∧ w = w'
theorem u64w {a : Int} (h1 : 0 ≤ a) (h2 : a < 18446744073709551616) : IntKind.u64.wrap a = a := by
  simp [IntKind.wrap, IntKind.bits, IntKind.signed]; omega
theorem and7f (d : Nat) (h : d < 256) : bits .and .u8 (d : Int) 127 = ((d % 128 : Nat) : Int) := by
  have h : ∀ a : Fin 256, bits .and .u8 ((a.val : Nat) : Int) 127 = ((a.val % 128 : Nat) : Int) := by decide +kernel
  exact h ⟨d, by omega⟩
/-- seven bits more -/
theorem more7 {m d k : Nat} (hd : d < 256) (hm : m < 128 ^ k) (hb : m + d % 128 * 128 ^ k < 18446744073709551616) :
    bits .or .u64 (m : Int) (IntKind.u64.wrap (IntKind.u64.wrap (bits .and .u8 (d : Int) 127) * 2 ^ (7 * k))) = ((m + d % 128 * 128 ^ k : Nat) : Int) := by
  have e1 : (128 : Nat) ^ k = 2 ^ (7 * k) := by rw [Nat.pow_mul]
  rw [and7f d hd, u64w (a := ((d % 128 : Nat) : Int)) (by omega) (by omega)]
  have e2 : ((d % 128 : Nat) : Int) * 2 ^ (7 * k) = ((d % 128 * 128 ^ k : Nat) : Int) := by
    rw [e1]; simp
  rw [e2, u64w (by omega) (by omega), u64_or_nat _ _ (by omega) (by omega)]
  congr 1
  rw [e1] at hm ⊢
  rw [← Nat.shiftLeft_eq, Nat.or_comm, ← Nat.shiftLeft_add_eq_or_of_lt hm, Nat.add_comm]
theorem pow128_le {k : Nat} (h : k ≤ 9) : (128 : Nat) ^ k ≤ 9223372036854775808 := by
  have h2 : (128 : Nat) ^ k ≤ 128 ^ 9 := Nat.pow_le_pow_right (by decide) h
  have h3 : (128 : Nat) ^ 9 = 9223372036854775808 := by decide
  omega
theorem drop_at {l : List UInt8} {k : Nat} {x : UInt8} (h : l[k]? = some x) : l.drop k = x :: l.drop (k + 1) := by
  obtain ⟨h1, h2⟩ := List.getElem?_eq_some_iff.1 h
  rw [List.drop_eq_getElem_cons h1, h2]
set_option maxHeartbeats 2000000 in
set_option maxRecDepth 100000 in
theorem get_calls (v : Value) (l : List UInt8) (w : World) (hv : Bytes w v l) (hl : l.length ≤ 100000000) :
    Calls Tryz.prog 145 #[v] w (GotPost w (getN l)) := by
  obtain ⟨p, c, rfl⟩ := hv.slice
  have hv' := Lib.hid hv
  clear hv
  go_enter Tryz.func145, Tryz.ntmps145
  go_wp2
  go_loop [5, 10] (fun a i => ∃ (k m : Nat), k ≤ l.length ∧ k ≤ 9 ∧ m < 128 ^ k ∧ i = .int .i64 k ∧ a = .int .u64 m ∧ getN l = getA k m (l.drop k)) (fun _ i => l.length - (intOf i).toNat)
  case atStart => exact ⟨0, 0, by omega, by omega, by decide, rfl, rfl, rfl⟩
  case round =>
    obtain ⟨k, m, hk, hk9, hm, rfl, rfl, hg⟩ := hrel
    have hpw := pow128_le hk9
    by_cases hlt : k < l.length
    · obtain ⟨x, hx⟩ : ∃ x, l[k]? = some x := ⟨_, List.getElem?_eq_getElem hlt⟩
      obtain ⟨g, o, rfl, hc⟩ := hv'.out.cellAt hx
      have hx1 : x.toNat < 256 := x.toNat_lt
      rw [drop_at hx] at hg
      unfold getA at hg
      have hd128 : x.toNat % 128 < 128 := Nat.mod_lt _ (by decide)
      have hmx : m + x.toNat % 128 * 128 ^ k < 128 ^ (k + 1) := by
        have : x.toNat % 128 * 128 ^ k ≤ 127 * 128 ^ k := Nat.mul_le_mul_right _ (by omega)
        rw [Nat.pow_succ]; omega
      have hmm : ¬ (k = 9 ∧ 1 < x.toNat) → m + x.toNat % 128 * 128 ^ k < 18446744073709551616 := by
        intro h
        by_cases h9 : k = 9
        · have h1 : x.toNat % 128 * 128 ^ k ≤ 1 * 128 ^ k := Nat.mul_le_mul_right _ (by omega)
          omega
        · have h2 : 128 ^ (k + 1) ≤ 9223372036854775808 := pow128_le (by omega)
          omega
      have hm7 := fun h => more7 (m := m) (k := k) hx1 hm (hmm h)
      generalize hdx : x.toNat = d at *
      clear hdx hx
      by_cases hA : (k = 9 ∧ 1 < d) ∨ (d = 0 ∧ 0 < k)
      · rw [if_pos hA] at hg
        have hg' := Lib.hid hg
        clear hg hm7 hmm hmx
        by_cases h9 : k = 9 ∧ 1 < d
        · obtain ⟨rfl, h1⟩ := h9
          have t1 : (1 : Int) < (d : Int) := by omega
          go_wp2
          go_ret3
          exact ⟨by rw [hg'.out]; rfl, rfl⟩
        · obtain ⟨rfl, h0⟩ : d = 0 ∧ 0 < k := by omega
          have hA' := Lib.hid hA
          clear hA h9
          by_cases h9 : k = 9
          · subst h9
            go_wp2
            go_ret3
            exact ⟨by rw [hg'.out]; rfl, rfl⟩
          · have t0 : ((k : Int) == 9) = false := by simp; omega
            go_wp2
            go_ret3
            exact ⟨by rw [hg'.out]; rfl, rfl⟩
      · rw [if_neg hA] at hg
        have hq := hm7 (by omega)
        have hm' := hmm (by omega)
        obtain ⟨m', hme⟩ : ∃ m', m + d % 128 * 128 ^ k = m' := ⟨_, rfl⟩
        rw [hme] at hg hq hm' hmx
        have hg' := Lib.hid hg
        have hmx' := Lib.hid hmx
        have t0 : ((d : Int) == 0) = false ∨ (((d : Int) == 0) = true ∧ ¬ (0 : Int) < (k : Int)) := by
          by_cases h0 : d = 0
          · exact .inr ⟨by simp [h0], by omega⟩
          · exact .inl (by simp; omega)
        have t1 : ((k : Int) == 9) = false ∨ (((k : Int) == 9) = true ∧ ¬ (1 : Int) < (d : Int)) := by
          by_cases h0 : k = 9
          · exact .inr ⟨by simp [h0], by omega⟩
          · exact .inl (by simp; omega)
        have h9' : ¬ d < 128 → k + 1 ≤ 9 := by omega
        by_cases h8 : d < 128
        · have t2 : (d : Int) < 128 := by omega
          rw [if_pos h8] at hg
          have hg' := Lib.hid hg
          have hr : GotPost w (getN l) (.returned (.tuple #[.int .u64 m', .int .i64 (k + 1), .int .i64 0])) w := by rw [hg]; exact ⟨by rfl, rfl⟩
          have hr' := Lib.hid hr
          clear hg hA hm7 hmm hme hmx hpw hm h9' hr
          rcases t0 with t0 | ⟨t0, t3⟩ <;> rcases t1 with t1 | ⟨t1, t4⟩
          all_goals
            go_wp2
            go_ret3
            exact hr'.out
        · have t2 : ¬ (d : Int) < 128 := by omega
          rw [if_neg h8] at hg
          have hg' := Lib.hid hg
          have h9 := Lib.hid (h9' h8)
          have t3 : ((d : Int) == 0) = false := by simp; omega
          have t4 : ((k : Int) == 9) = false := by simp; omega
          clear hg hA hm7 hmm hme hmx hpw hm h9' h8 t0 t1
          go_wp2
          go_round
          case rel => exact ⟨k + 1, m', by omega, h9.out, hmx'.out, by go_num, rfl, hg'.out⟩
          case measure => simp [intOf]; omega
    · have hk' : l.drop k = [] := List.drop_of_length_le (by omega)
      rw [hk'] at hg
      have hr : GotPost w (getN l) (.returned (.tuple #[.int .u64 0, .int .i64 0, .int .i64 7])) w := by rw [hg]; exact ⟨by rfl, rfl⟩
      have hr' := Lib.hid hr
      clear hg hr hk' hm hpw
      go_wp2
      go_ret3
      exact hr'.out
end Go.Proofs.YtabcdodjkfknlaaGreatDoor
namespace Go.Proofs.YtabcdodjkfknlaaGreatDoor
open Go.RowKit
attribute [local go_sem ↓] dapp_op dslK_op
/-- string(v) -/
theorem bytes_str {w : World} {v : Value} {l : List UInt8} (h : Bytes w v l) : (convert 43 9 v).run Tryz.prog w = .ok (.string ⟨l.toArray⟩) w := by
  rcases h with (⟨rfl, rfl⟩ | ⟨g, o, c, rfl, hc, h⟩) | ⟨a, c, rfl, rfl⟩
  · have := run_convert_bytes_nil (P := Tryz.prog) (w := w) 43 5 Tryz.underlying43 Tryz.underlying5 0 0 9 Tryz.underlying9
    exact this
  · have := run_convert_bytes_arg (P := Tryz.prog) (w := w) 43 5 Tryz.underlying43 Tryz.underlying5 g o l.length c (l.map fun x => (x.toNat : Int)) (by simp) (fun i hi => by
      obtain ⟨x, hx⟩ : ∃ x, l[i]? = some x := ⟨_, List.getElem?_eq_getElem hi⟩
      rw [h i x hx]
      simp [List.getD, hx]) 9 Tryz.underlying9
    rw [this]
    refine congrArg (fun s => Result.ok (Value.string s) w) ?_
    apply ByteArray.ext
    apply Array.toList_inj.1
    rw [strOfNums_data, List.map_map]
    show _ = l
    conv => rhs; rw [← List.map_id l]
    apply List.map_congr_left
    intro x _
    simp
  · exact run_convert_bytes_back w 43 9 5 a c [] Tryz.underlying43 Tryz.underlying5 Tryz.underlying9 (fun j hj => absurd hj (Nat.not_lt_zero _))
def GotTPost (w : World) (g : GotT) (e : Ending) (w' : World) : Prop := e = .returned (.tuple #[.string g.s, .int .i64 g.n, .int .i64 g.e]) ∧ w = w'
set_option maxHeartbeats 400000 in
set_option maxRecDepth 100000 in
theorem getText_calls (v : Value) (l : List UInt8) (w : World) (hv : Bytes w v l) (hl : l.length ≤ 100000000) :
    Calls Tryz.prog 144 #[v] w (GotTPost w (getT l)) := by
  have hG := Lib.hid (get_calls v l w hv hl)
  have hT : getT l = if (getN l).e ≠ 0 then ⟨⟨#[]⟩, 0, (getN l).e⟩ else if l.length - (getN l).n < (getN l).v then ⟨⟨#[]⟩, 0, 7⟩ else ⟨⟨((l.drop (getN l).n).take (getN l).v).toArray⟩, (getN l).n + (getN l).v, 0⟩ := rfl
  obtain ⟨hg1, hg2, hg3⟩ := getN_le l
  obtain ⟨p, c, rfl⟩ := hv.slice
  have hlen := hv.len.2
  obtain ⟨⟨gv, gn, ge⟩, hg⟩ : ∃ g, getN l = g := ⟨_, rfl⟩
  rw [hg] at hG hT hg1 hg2 hg3
  simp only at hT hg1 hg2 hg3
  clear hg
  by_cases h0 : ge = 0
  · subst h0
    rw [if_neg (by simp)] at hT
    obtain ⟨L, hL⟩ : ∃ L, l.length = L := ⟨_, rfl⟩
    rw [hL] at hG hT hg2 hl hlen
    rw [hL] at hv ⊢
    obtain ⟨r, hr⟩ : ∃ r : Nat, L - gn = r := ⟨_, rfl⟩
    have hsub : (L : Int) - (gn : Int) = (r : Int) := by omega
    have hr2 : r ≤ 100000000 := by omega
    rw [hr] at hT
    by_cases h1 : r < gv
    · rw [if_pos h1] at hT
      have t1 : (r : Int) < (gv : Int) := by omega
      have hP : GotTPost w (getT l) (.returned (.tuple #[.string ⟨#[]⟩, .int .i64 0, .int .i64 7])) w := by rw [hT]; exact ⟨rfl, rfl⟩
      have hP' := Lib.hid hP
      clear hP hT hv hL hr hg3 h1
      go_enter Tryz.func144, Tryz.ntmps144
      go_wp2_with fail
      with_reducible refine hG.out.mono ?_
      rintro e w1 ⟨rfl, rfl⟩
      go_wp2
      go_ret3
      exact hP'.out
    · rw [if_neg h1] at hT
      have t1 : ¬ (r : Int) < (gv : Int) := by omega
      have t2 : gv ≤ 100000000 := by omega
      obtain ⟨j, hj⟩ : ∃ j : Nat, gn + gv = j := ⟨_, rfl⟩
      have hadd : (gn : Int) + (gv : Int) = (j : Int) := by omega
      have t3 : j ≤ 100000000 := by omega
      obtain ⟨q, hq⟩ : ∃ q, (if c = gn then p else p.map (·.add gn)) = q := ⟨_, rfl⟩
      have hm := fun W => bsl_mid p L c gn j (by omega) (by omega) W
      have hb := (hv.drop hg2).take (j := j - gn) (by omega)
      rw [hq] at hb
      simp only [hq] at hm
      have hs := bytes_str hb
      rw [show j - gn = gv by omega] at hs hm
      have hP : GotTPost w (getT l) (.returned (.tuple #[.string ⟨((l.drop gn).take gv).toArray⟩, .int .i64 j, .int .i64 0])) w := by rw [hT]; exact ⟨by rw [← hj], rfl⟩
      have hP' := Lib.hid hP
      generalize (⟨((l.drop gn).take gv).toArray⟩ : ByteArray) = S at *
      clear hP hT hv hL hr hg3 h1 hb hq hj
      go_enter Tryz.func144, Tryz.ntmps144
      go_wp2_with fail
      with_reducible refine hG.out.mono ?_
      rintro e w1 ⟨rfl, rfl⟩
      go_wp2
      go_ret3
      exact hP'.out
  · rw [if_pos h0] at hT
    have t1 : (ge != 0) = true := by simpa using h0
    have hP : GotTPost w (getT l) (.returned (.tuple #[.string ⟨#[]⟩, .int .i64 0, .int .i64 ge])) w := by rw [hT]; exact ⟨rfl, rfl⟩
    have hP' := Lib.hid hP
    clear hP hT hv hg3 h0
    go_enter Tryz.func144, Tryz.ntmps144
    go_wp2_with fail
    with_reducible refine hG.out.mono ?_
    rintro e w1 ⟨rfl, rfl⟩
    go_wp2
    go_ret3
    exact hP'.out
end Go.Proofs.YtabcdodjkfknlaaGreatDoor
namespace Go.Proofs.YtabcdodjkfknlaaGreatDoor
open Go.RowKit
attribute [local go_sem ↓] dapp_op dslK_op
/-- a reader at block R, its bytes below block B -/
def RdAt (B : Nat) (w : World) (R : Nat) (r : Rdr) : Prop := B ≤ R ∧ ∃ bv, Blk w R 144 #[bv, .int .i64 r.e] ∧ Bytes w bv r.l ∧ (∀ g, bv.ownBlock = some g → r.l ≠ [] → g < B) ∧ r.l.length ≤ 90000000
/-- all stands but the reader's block -/
def RdKeeps (R : Nat) (w w' : World) : Prop := Keeps (fun j => j = R) w w'
section
variable {w w' w'' : World} {B R : Nat} {r : Rdr}
theorem RdAt.keeps {S : Nat → Prop} (h : RdAt B w R r) (hk : Keeps S w w') (hs : ∀ j, S j → B ≤ j ∧ j ≠ R) : RdAt B w' R r := by
  obtain ⟨h0, bv, h1, h2, h3, h4⟩ := h
  exact ⟨h0, bv, h1.keeps hk fun e => (hs R e).2 rfl, h2.keepsP hk fun g hg hl hS => by have := h3 g hg hl; have := (hs g hS).1; omega, h3, h4⟩
theorem RdAt.later (h : RdAt B w R r) (hb : Below w.heap.size w w') : RdAt B w' R r := h.keeps (S := fun _ => False) (.of_below hb) fun _ e => e.elim
theorem RdKeeps.refl (R : Nat) (w : World) : RdKeeps R w w := Keeps.refl _ _
theorem RdKeeps.trans (h : RdKeeps R w w') (h' : RdKeeps R w' w'') : RdKeeps R w w'' := Keeps.trans h h'
/-- the error laid -/
theorem RdAt.set_e (h : RdAt B w R r) (e : Int) : RdAt B (w.setCell ⟨R, 1, none⟩ (.int .i64 e)) R ⟨r.l, e⟩ ∧ RdKeeps R w (w.setCell ⟨R, 1, none⟩ (.int .i64 e)) := by
  obtain ⟨h0, bv, h1, h2, h3, h4⟩ := h
  have hk : Keeps (fun j => j = R) w (w.setCell ⟨R, 1, none⟩ (.int .i64 e)) := (Keeps.refl (fun j => j = R) w).setCell (p := ⟨R, 1, none⟩) (.inl rfl) _
  exact ⟨⟨h0, bv, h1.set_ 1 _, h2.keepsP hk fun g hg hl hS => by have := h3 g hg hl; omega, h3, h4⟩, hk⟩
/-- the bytes cut -/
theorem RdAt.cut {p : Option Addr} {m c : Nat} {bv : Value} (h0 : B ≤ R) (h1 : Blk w R 144 #[bv, .int .i64 r.e]) (hv : bv = .slice p m c) (h2 : Bytes w bv r.l) (h3 : ∀ g, bv.ownBlock = some g → r.l ≠ [] → g < B) (h4 : r.l.length ≤ 90000000) {n : Nat} (hn : n ≤ m) :
    RdAt B (w.setCell ⟨R, 0, none⟩ (.slice (if c = n then p else p.map (·.add n)) (m - n) (c - n))) R ⟨r.l.drop n, r.e⟩ ∧ RdKeeps R w (w.setCell ⟨R, 0, none⟩ (.slice (if c = n then p else p.map (·.add n)) (m - n) (c - n))) := by
  have hk : Keeps (fun j => j = R) w (w.setCell ⟨R, 0, none⟩ (.slice (if c = n then p else p.map (·.add n)) (m - n) (c - n))) := (Keeps.refl (fun j => j = R) w).setCell (p := ⟨R, 0, none⟩) (.inl rfl) _
  subst hv
  have hb : ∀ g, (Value.slice (if c = n then p else p.map (·.add n)) (m - n) (c - n)).ownBlock = some g → r.l.drop n ≠ [] → g < B := by
    intro g hg hl
    refine h3 g ?_ (fun e => by rw [e] at hl; simp at hl)
    cases p with
    | none => split at hg <;> cases hg
    | some a =>
      split at hg
      · exact hg
      · have : (Value.slice (some a) m c).ownBlock = (Value.slice (some (a.add n)) (m - n) (c - n)).ownBlock := by
          show some a.block = some (a.add n).block
          rw [addK_blk]
        rw [this]; exact hg
  exact ⟨⟨h0, _, h1.set_ 0 _, (h2.drop hn).keepsP hk fun g hg hl hS => by have := hb g hg hl; omega, hb, by rw [List.length_drop]; omega⟩, hk⟩
end
def TookPost (B R : Nat) (w : World) (r : Rdr) (e : Ending) (w' : World) : Prop := e = .returned (.bool (decide (r.e = 0))) ∧ RdAt B w' R r ∧ RdKeeps R w w'
set_option maxHeartbeats 1000000 in
set_option maxRecDepth 100000 in
theorem took_calls (B R : Nat) (r : Rdr) (n : Nat) (e : Int) (w : World) (h : RdAt B w R r) (hn : n ≤ r.l.length) :
    Calls Tryz.prog 109 #[.pointer (some ⟨R, 0, none⟩), .int .i64 n, .int .i64 e] w (TookPost B R w (r.took n e)) := by
  have hT : r.took n e = if r.e ≠ 0 then r else if e ≠ 0 then ⟨r.l, e⟩ else ⟨r.l.drop n, 0⟩ := rfl
  have hset := h.set_e e
  obtain ⟨h0, bv, h1, h2, h3, h4⟩ := id h
  have hc := h1.cell
  have hf := h1.frozen
  by_cases hr : r.e = 0
  · rw [if_neg (by simpa using hr)] at hT
    have t1 : (r.e == 0) = true := by simpa using hr
    by_cases he : e = 0
    · subst he
      rw [if_neg (by simp)] at hT
      obtain ⟨p, c, rfl⟩ := h2.slice
      have hs := fun W => bsl_from p r.l.length c n hn W
      have h1' := h1.set_ 1 (.int .i64 0)
      have hcut := RdAt.cut (r := ⟨r.l, 0⟩) h0 h1' rfl (h2.keepsP hset.2 fun g hg hl hS => by have := h3 g hg hl; omega) h3 h4 hn
      obtain ⟨q, hq⟩ : ∃ q, (if c = n then p else p.map (·.add n)) = q := ⟨_, rfl⟩
      rw [hq] at hcut
      simp only [hq] at hs
      have hP : TookPost B R w (r.took n 0) (.returned (.bool true)) ((w.setCell ⟨R, 1, none⟩ (.int .i64 0)).setCell ⟨R, 0, none⟩ (.slice q (r.l.length - n) (c - n))) := by
        rw [hT]
        exact ⟨by rfl, hcut.1, hset.2.trans hcut.2⟩
      have hP' := Lib.hid hP
      generalize r.took n 0 = T at *
      obtain ⟨re, hre⟩ : ∃ re, r.e = re := ⟨_, rfl⟩
      obtain ⟨L, hL⟩ : ∃ L, r.l.length = L := ⟨_, rfl⟩
      rw [hre] at hc t1
      rw [hL] at hc hs hP' hn
      clear hP hT hcut hset hq h1 h2 h3 h1' hr h hre hL h4
      go_enter Tryz.func109, Tryz.ntmps109
      go_wp2
      go_ret
      exact hP'.out
    · rw [if_pos he] at hT
      have t2 : (e != 0) = true := by simpa using he
      have hP : TookPost B R w (r.took n e) (.returned (.bool false)) (w.setCell ⟨R, 1, none⟩ (.int .i64 e)) := by
        rw [hT]
        exact ⟨by simp [he], hset⟩
      have hP' := Lib.hid hP
      generalize r.took n e = T at *
      obtain ⟨re, hre⟩ : ∃ re, r.e = re := ⟨_, rfl⟩
      rw [hre] at hc t1
      clear hP hT hset h1 h2 h3 hr h hre he h4
      go_enter Tryz.func109, Tryz.ntmps109
      go_wp2
      go_ret
      exact hP'.out
  · rw [if_pos hr] at hT
    have t1 : (r.e == 0) = false := by simpa using hr
    have t2 : (r.e != 0) = true := by simpa using hr
    have hP : TookPost B R w (r.took n e) (.returned (.bool false)) w := by
      rw [hT]
      exact ⟨by simp [hr], h, RdKeeps.refl _ _⟩
    have hP' := Lib.hid hP
    generalize r.took n e = T at *
    obtain ⟨re, hre⟩ : ∃ re, r.e = re := ⟨_, rfl⟩
    rw [hre] at hc t1 t2
    clear hP hT hset h1 h2 h3 hr h hre h4
    go_enter Tryz.func109, Tryz.ntmps109
    go_wp2
    go_ret
    exact hP'.out
end Go.Proofs.YtabcdodjkfknlaaGreatDoor
namespace Go.Proofs.YtabcdodjkfknlaaGreatDoor
open Go.RowKit
attribute [local go_sem ↓] dapp_op dslK_op
def NumPost (B R : Nat) (w : World) (v : Value) (r : Rdr) (e : Ending) (w' : World) : Prop := e = .returned v ∧ RdAt B w' R r ∧ RdKeeps R w w'
set_option maxHeartbeats 1000000 in
set_option maxRecDepth 100000 in
theorem number_calls (B R : Nat) (r : Rdr) (w : World) (h : RdAt B w R r) :
    Calls Tryz.prog 108 #[.pointer (some ⟨R, 0, none⟩)] w (NumPost B R w (.int .u64 r.num) r.numR) := by
  obtain ⟨h0, bv, h1, h2, h3, h4⟩ := id h
  have hc : w.cell? ⟨R, 0, none⟩ = some bv := by rw [h1.cell]; rfl
  have hG := Lib.hid (get_calls bv r.l w h2 (by omega))
  have hg2 := (getN_le r.l).2.1
  have hT := Lib.hid (took_calls B R r (getN r.l).n (getN r.l).e w h hg2)
  have hN : r.num = if r.numR.e ≠ 0 then 0 else (getN r.l).v := rfl
  have hR : r.numR = r.took (getN r.l).n (getN r.l).e := rfl
  rw [← hR] at hT
  obtain ⟨⟨gv, gn, ge⟩, hg⟩ : ∃ g, getN r.l = g := ⟨_, rfl⟩
  rw [hg] at hG hT hN
  simp only at hN
  obtain ⟨r', hr'⟩ : ∃ r', r.numR = r' := ⟨_, rfl⟩
  rw [hr'] at hT hN ⊢
  obtain ⟨p, c, rfl⟩ := h2.slice
  by_cases he : r'.e = 0
  · rw [if_neg (by simpa using he)] at hN
    have hb : decide (r'.e = 0) = true := by simpa using he
    rw [hN]
    have hb' := Lib.hid hb
    clear h hN hR hr' h1 h2 h3 h4 hg2 hg he hb
    go_enter Tryz.func108, Tryz.ntmps108
    go_wp2_with fail
    with_reducible refine hG.out.mono ?_
    rintro e w1 ⟨rfl, rfl⟩
    go_wp2_with fail
    with_reducible refine hT.out.mono ?_
    rintro e w1 ⟨rfl, hA, hK⟩
    rw [hb'.out]
    go_wp2
    go_ret
    exact ⟨rfl, hA, hK⟩
  · rw [if_pos he] at hN
    have hb : decide (r'.e = 0) = false := by simpa using he
    rw [hN]
    have hb' := Lib.hid hb
    clear h hN hR hr' h1 h2 h3 h4 hg2 hg he hb
    go_enter Tryz.func108, Tryz.ntmps108
    go_wp2_with fail
    with_reducible refine hG.out.mono ?_
    rintro e w1 ⟨rfl, rfl⟩
    go_wp2_with fail
    with_reducible refine hT.out.mono ?_
    rintro e w1 ⟨rfl, hA, hK⟩
    rw [hb'.out]
    go_wp2
    go_ret
    exact ⟨rfl, hA, hK⟩
theorem num_lt (r : Rdr) : r.num < 18446744073709551616 := by
  unfold Rdr.num
  split
  · decide
  · exact (getN_le r.l).1
set_option maxHeartbeats 1000000 in
set_option maxRecDepth 100000 in
theorem small_calls (B R : Nat) (r : Rdr) (w : World) (h : RdAt B w R r) :
    Calls Tryz.prog 103 #[.pointer (some ⟨R, 0, none⟩)] w (NumPost B R w (.int .i64 r.small) r.smallR) := by
  have hN := Lib.hid (number_calls B R r w h)
  have hT0 : ∀ (W : World), RdAt B W R r.numR → Calls Tryz.prog 109 #[.pointer (some ⟨R, 0, none⟩), .int .i64 0, .int .i64 9] W (TookPost B R W (r.numR.took 0 9)) := fun W hW => took_calls B R r.numR 0 9 W hW (Nat.zero_le _)
  have hlt := num_lt r
  have hS : r.small = if 4611686018427387904 ≤ r.num then 0 else (r.num : Int) := rfl
  have hS2 : r.smallR = if 4611686018427387904 ≤ r.num then r.numR.took 0 9 else r.numR := rfl
  obtain ⟨m, hm⟩ : ∃ m, r.num = m := ⟨_, rfl⟩
  obtain ⟨r', hr'⟩ : ∃ r', r.numR = r' := ⟨_, rfl⟩
  rw [hm] at hN hlt hS hS2
  rw [hr'] at hN hT0 hS2
  have hT := Lib.hid hT0
  clear hT0
  by_cases hb : 4611686018427387904 ≤ m
  · rw [if_pos hb] at hS hS2
    have t1 : (0 : Int) < (m : Int) / 4611686018427387904 := by omega
    rw [hS, hS2]
    clear hS hS2 hm hr' h
    go_enter Tryz.func103, Tryz.ntmps103
    go_wp2_with fail
    with_reducible refine hN.out.mono ?_
    rintro e w1 ⟨rfl, hA, hK⟩
    have hT' := Lib.hid (hT.out w1 hA)
    have hK' := Lib.hid hK
    clear hA hK hT
    go_wp2_with fail
    with_reducible refine hT'.out.mono ?_
    rintro e w2 ⟨rfl, hA, hK⟩
    have hA' := Lib.hid hA
    have hK2 := Lib.hid (hK'.out.trans hK)
    clear hA hK
    go_wp2
    go_ret
    exact ⟨rfl, hA'.out, hK2.out⟩
  · rw [if_neg hb] at hS hS2
    have t1 : ¬ (0 : Int) < (m : Int) / 4611686018427387904 := by omega
    have t2 : m < 4611686018427387904 := by omega
    rw [hS, hS2]
    clear hS hS2 hm hr' h hb hlt
    go_enter Tryz.func103, Tryz.ntmps103
    go_wp2_with fail
    with_reducible refine hN.out.mono ?_
    rintro e w1 ⟨rfl, hA, hK⟩
    have hA' := Lib.hid hA
    have hK2 := Lib.hid hK
    clear hA hK
    go_wp2
    go_ret
    exact ⟨rfl, hA'.out, hK2.out⟩
set_option maxHeartbeats 1000000 in
set_option maxRecDepth 100000 in
theorem text_calls (B R : Nat) (r : Rdr) (w : World) (h : RdAt B w R r) :
    Calls Tryz.prog 104 #[.pointer (some ⟨R, 0, none⟩)] w (NumPost B R w (.string r.text) r.textR) := by
  obtain ⟨h0, bv, h1, h2, h3, h4⟩ := id h
  have hc : w.cell? ⟨R, 0, none⟩ = some bv := by rw [h1.cell]; rfl
  have hG := Lib.hid (getText_calls bv r.l w h2 (by omega))
  have hg2 := (getT_le r.l).2.1
  have hT := Lib.hid (took_calls B R r (getT r.l).n (getT r.l).e w h hg2)
  have hN : r.text = if r.textR.e ≠ 0 then ⟨#[]⟩ else (getT r.l).s := rfl
  have hR : r.textR = r.took (getT r.l).n (getT r.l).e := rfl
  rw [← hR] at hT
  obtain ⟨⟨gv, gn, ge⟩, hg⟩ : ∃ g, getT r.l = g := ⟨_, rfl⟩
  rw [hg] at hG hT hN
  simp only at hN
  obtain ⟨r', hr'⟩ : ∃ r', r.textR = r' := ⟨_, rfl⟩
  rw [hr'] at hT hN ⊢
  obtain ⟨p, c, rfl⟩ := h2.slice
  by_cases he : r'.e = 0
  · rw [if_neg (by simpa using he)] at hN
    have hb : decide (r'.e = 0) = true := by simpa using he
    rw [hN]
    have hb' := Lib.hid hb
    clear h hN hR hr' h1 h2 h3 h4 hg2 hg he hb
    go_enter Tryz.func104, Tryz.ntmps104
    go_wp2_with fail
    with_reducible refine hG.out.mono ?_
    rintro e w1 ⟨rfl, rfl⟩
    go_wp2_with fail
    with_reducible refine hT.out.mono ?_
    rintro e w1 ⟨rfl, hA, hK⟩
    rw [hb'.out]
    go_wp2
    go_ret
    exact ⟨rfl, hA, hK⟩
  · rw [if_pos he] at hN
    have hb : decide (r'.e = 0) = false := by simpa using he
    rw [hN]
    have hb' := Lib.hid hb
    clear h hN hR hr' h1 h2 h3 h4 hg2 hg he hb
    go_enter Tryz.func104, Tryz.ntmps104
    go_wp2_with fail
    with_reducible refine hG.out.mono ?_
    rintro e w1 ⟨rfl, rfl⟩
    go_wp2_with fail
    with_reducible refine hT.out.mono ?_
    rintro e w1 ⟨rfl, hA, hK⟩
    rw [hb'.out]
    go_wp2
    go_ret
    exact ⟨rfl, hA, hK⟩
end Go.Proofs.YtabcdodjkfknlaaGreatDoor
namespace Go.Proofs.YtabcdodjkfknlaaGreatDoor
open Go.RowKit
section
variable {P : Program} {ops : Array Oper} {Q : Exit → Act → World → Prop} {md : Region.Mode} {S : World → Prop} {E : Nat → Bool}
/-- whatever order is picked; S holds behind each operation that is not of E -/
def wpAnyX (P : Program) (md : Region.Mode) (ops : Array Oper) (Q : Exit → Act → World → Prop) (S : World → Prop) (E : Nat → Bool) : Nat → Array Bool → Act → World → Prop
  | 0, listed, a, w => Region.ready md ops listed = [] ∧ Q .normal a w
  | fuel + 1, listed, a, w =>
    (Region.ready md ops listed = [] → Q .normal a w) ∧
    ∀ i ∈ Region.ready md ops listed, wpOp P ops Q i (fun a' w' => (E i = false → S w') ∧ wpAnyX P md ops Q S E fuel (listed.setIfInBounds i true) a' w') a w
theorem wpAny_of_x : ∀ (fuel : Nat) (listed : Array Bool) (a : Act) (w : World), wpAnyX P md ops Q S E fuel listed a w → wpAny P md ops Q fuel listed a w
  | 0, _, _, _, h => h
  | fuel + 1, _, _, _, h => ⟨h.1, fun i hi => wpOp_mono (fun a' w' h' => wpAny_of_x fuel _ a' w' h'.2) (h.2 i hi)⟩
/-- an operation waits for number i -/
def waitsFor (md : Region.Mode) (o : Oper) (i : Nat) : Bool := o.after.any fun e => Region.binds md e && e.on == i
theorem wpAnyX_first {i : Nat} {oi : Oper} {v : Value} (hi : ops[i]? = some oi) (hsel : ∀ (j : Nat) (o : Oper) cs b, ops[j]? = some o → o.op ≠ .select cs b)
    (hQ : ∀ c a w, Q (.panic c) (a.put oi.dst v) w → Q (.panic c) a w) (hE : ∀ j oj, ops[j]? = some oj → E j = true → waitsFor md oj i = true) (hEi : E i = false) :
    ∀ (fuel : Nat) (listed : Array Bool) (a : Act) (w : World),
      (∀ j oj, ops[j]? = some oj → j ≠ i → listed.getD j true = false → (∀ e ∈ oj.after, Region.binds md e = true → e.on ≠ i) → oi.apart ops oj = true) →
      i ∈ Region.ready md ops listed → YieldsIf P ops S oi v a → S w →
      wpAnyX P md ops Q S E fuel (listed.setIfInBounds i true) (a.put oi.dst v) w → wpAnyX P md ops Q S E (fuel + 1) listed a w := by
  intro fuel
  induction fuel with
  | zero =>
    intro listed a w _ hr hy hS H
    refine ⟨fun h => (by rw [h] at hr; cases hr), fun j hj => ?_⟩
    by_cases hji : j = i
    · subst hji; exact hy.wpOp hi hS ⟨fun _ => hS, H⟩
    · have := ready_mono hj hji
      rw [H.1] at this
      cases this
  | succ fuel ih =>
    intro listed a w hfree hr hy hS H
    refine ⟨fun h => (by rw [h] at hr; cases hr), fun j hj => ?_⟩
    by_cases hji : j = i
    · subst hji; exact hy.wpOp hi hS ⟨fun _ => hS, H⟩
    · have h1 := H.2 j (ready_mono hj hji)
      obtain ⟨hjun, oj, hoj, hall⟩ := mem_ready.1 hj
      have hnot : ∀ e ∈ oj.after, Region.binds md e = true → e.on ≠ i := fun e he hb heq => by
        have h1 := hall e he hb
        have h0 := (mem_ready.1 hr).1
        rw [heq] at h1
        rcases Nat.lt_or_ge i listed.size with h' | h'
        · simp [h'] at h0 h1; rw [h0] at h1; cases h1
        · simp [Array.getElem?_eq_none h'] at h1
      have hEj : E j = false := by
        cases hc : E j with
        | false => rfl
        | true =>
          have := hE j oj hoj hc
          unfold waitsFor at this
          obtain ⟨e, he, hb⟩ := Array.any_eq_true'.1 this
          simp only [Bool.and_eq_true, beq_iff_eq] at hb
          exact absurd hb.2 (hnot e he hb.1)
      have h2 := wpOp_putIf hoj (hfree j oj hoj hji hjun hnot) (fun cs b => hsel i oi cs b hi) (fun cs b => hsel j oj cs b hoj) hQ hy h1
      have hfree' : ∀ k ok, ops[k]? = some ok → k ≠ i → (listed.setIfInBounds j true).getD k true = false →
          (∀ e ∈ ok.after, Region.binds md e = true → e.on ≠ i) → oi.apart ops ok = true := fun k ok hk hki hun hno => by
        refine hfree k ok hk hki ?_ hno
        by_cases hjk : j = k
        · subst hjk; exact hjun
        · rw [Go.getD_set_ne true hjk] at hun; exact hun
      refine wpOp_mono (fun a' w' h3 => ⟨h3.2.1, ih (listed.setIfInBounds j true) a' w' hfree' (ready_mono hr (Ne.symm hji)) h3.1 (h3.2.1 hEj) ?_⟩) h2
      rw [Array.setIfInBounds_comm _ _ hji]
      exact h3.2.2
/-- a way through: what is taken first (true), and what comes because nothing else can (false) -/
def okS (md : Region.Mode) (ops : Array Oper) (Es : List Nat) : List (Bool × Nat) → Array Bool → Bool
  | [], listed => (Region.ready md ops listed).isEmpty
  | (true, i) :: r, listed => (Region.ready md ops listed).contains i && Region.free md ops listed i && !Es.contains i && Es.all (fun j => (ops[j]?).all fun oj => waitsFor md oj i && !listed.getD j true) && okS md ops Es r (listed.setIfInBounds i true)
  | (false, j) :: r, listed => (Region.ready md ops listed == [j]) && okS md ops Es r (listed.setIfInBounds j true)
def wpS (P : Program) (ops : Array Oper) (Q : Exit → Act → World → Prop) (S : World → Prop) (Es : List Nat) : List (Bool × Nat) → Act → World → Prop
  | [], a, w => Q .normal a w
  | (true, i) :: r, a, w => ∃ oi v, ops[i]? = some oi ∧ YieldsIf P ops S oi v a ∧ wpS P ops Q S Es r (a.put oi.dst v) w
  | (false, j) :: r, a, w => wpOp P ops Q j (fun a' w' => (Es.contains j = false → S w') ∧ wpS P ops Q S Es r a' w') a w
theorem wpS_take {Es : List Nat} {i : Nat} {r : List (Bool × Nat)} {d : Option Tmp} {op : Op} {ty : TypeId} {pos : String} {af : Array Edge} {g : Option (Nat × Bool)} {v : Value} {a : Act} {w : World} (hi : ops[i]? = some ⟨d, op, ty, pos, af, g⟩) (hy : YieldsIf P ops S ⟨d, op, ty, pos, af, g⟩ v a) (h : wpS P ops Q S Es r (a.put d v) w) : wpS P ops Q S Es ((true, i) :: r) a w := ⟨_, v, hi, hy, h⟩
theorem wpS_go {Es : List Nat} {j : Nat} {r : List (Bool × Nat)} {d : Option Tmp} {op : Op} {ty : TypeId} {pos : String} {af : Array Edge} {g : Option (Nat × Bool)} {a : Act} {w : World} (hj : ops[j]? = some ⟨d, op, ty, pos, af, g⟩) (h : wpList P ops (onNormal (fun a' w' => (Es.contains j = false → S w') ∧ wpS P ops Q S Es r a' w') Q) [⟨d, op, ty, pos, af, g⟩] a w) : wpS P ops Q S Es ((false, j) :: r) a w := wpOp_one hj h
theorem wpS_end {Es : List Nat} {a : Act} {w : World} (h : Q .normal a w) : wpS P ops Q S Es [] a w := h
theorem wpAnyX_of_s {Es : List Nat} (hsel : Region.noSelect ops = true) (hQ : ∀ c a t v w, Q (.panic c) (a.put (some t) v) w → Q (.panic c) a w) : ∀ (sc : List (Bool × Nat)) (fuel : Nat) (listed : Array Bool) (a : Act) (w : World),
    okS md ops Es sc listed = true → sc.length ≤ fuel → ((∀ j ∈ Es, (ops[j]?).isSome = true → listed.getD j true = false) → S w) → wpS P ops Q S Es sc a w → wpAnyX P md ops Q S (fun j => Es.contains j) fuel listed a w
  | [], fuel, listed, a, w, hok, _, _, h => by
    have hr : Region.ready md ops listed = [] := List.isEmpty_iff.1 hok
    cases fuel with
    | zero => exact ⟨hr, h⟩
    | succ f => exact ⟨fun _ => h, by rw [hr]; simp⟩
  | (true, i) :: r, 0, listed, a, w, _, hf, _, _ => by simp at hf
  | (false, i) :: r, 0, listed, a, w, _, hf, _, _ => by simp at hf
  | (true, i) :: r, fuel + 1, listed, a, w, hok, hf, hS, h => by
    unfold okS at hok
    simp only [Bool.and_eq_true, Bool.not_eq_true', List.all_eq_true] at hok
    obtain ⟨⟨⟨⟨h1, h2⟩, h3⟩, h4⟩, h5⟩ := hok
    obtain ⟨oi, v, hi, hy, h⟩ := h
    have hun : ∀ j ∈ Es, (ops[j]?).isSome = true → listed.getD j true = false := by
      intro j hj hs
      obtain ⟨oj, ho⟩ := Option.isSome_iff_exists.1 hs
      have := h4 j hj
      rw [ho] at this
      simp only [Option.all_some, Bool.and_eq_true, Bool.not_eq_true'] at this
      exact this.2
    have hSw := hS hun
    refine wpAnyX_first hi (Region.noSelect_spec hsel) (fun c a w hh => by
      cases hd : oi.dst with
      | none => rw [hd] at hh; exact hh
      | some t => rw [hd] at hh; exact hQ c a t _ w hh) (fun j oj ho hj => ?_) h3 fuel listed a w (Region.free_spec hi h2) (by simpa using h1) hy hSw ?_
    · have := h4 j (by simpa using hj)
      rw [ho] at this
      simp only [Option.all_some, Bool.and_eq_true] at this
      exact this.1
    · exact wpAnyX_of_s hsel hQ r fuel _ _ _ h5 (by simpa using hf) (fun _ => hSw) h
  | (false, j) :: r, fuel + 1, listed, a, w, hok, hf, _, h => by
    unfold okS at hok
    simp only [Bool.and_eq_true, beq_iff_eq] at hok
    obtain ⟨h1, h2⟩ := hok
    refine ⟨fun h0 => (by rw [h0] at h1; cases h1), fun i hi => ?_⟩
    rw [h1] at hi
    obtain rfl : i = j := by simpa using hi
    refine wpOp_mono (fun a' w' h3 => ⟨h3.1, wpAnyX_of_s hsel hQ r fuel _ a' w' h2 (by simpa using hf) (fun hno => h3.1 ?_) h3.2⟩) h
    cases hc : Es.contains i with
    | false => rfl
    | true =>
      have hiE : i ∈ Es := by simpa using hc
      have hir : i ∈ Region.ready md ops listed := by rw [h1]; simp
      obtain ⟨hjun, oj, hoj, _⟩ := mem_ready.1 hir
      have := hno i hiE (by rw [hoj]; rfl)
      have hlt : i < listed.size := by
        rcases Nat.lt_or_ge i listed.size with h' | h'
        · exact h'
        · rw [Array.getD, dif_neg (by omega)] at hjun; cases hjun
      rw [Array.getD, dif_pos (by simpa using hlt)] at this
      simp at this
/-- the beginning: S is what the taken ones lean on; Es come behind all of them, and S is not asked behind these -/
theorem wp_region_s {id : Nat} {a : Act} {w : World} (S : World → Prop) (Es : List Nat) (sc : List (Bool × Nat)) (hm : P.follows .mixedOrders = true) (hsel : Region.noSelect ops = true) (hok : okS .any ops Es sc (Array.replicate ops.size false) = true) (hlen : sc.length = ops.size)
    (hQ : ∀ c a t v w, Q (.panic c) (a.put (some t) v) w → Q (.panic c) a w) (hS : S w.drew) (h : wpS P ops Q S Es sc a w.drew) : (Code.region id ops true).wp P Q a w :=
  wp_region_any hm (wpAny_of_x _ _ _ _ (wpAnyX_of_s hsel hQ sc _ _ _ _ hok (Nat.le_of_eq hlen) (fun _ => hS) h))
end
end Go.Proofs.YtabcdodjkfknlaaGreatDoor
