/- Walks: a number read out of bytes, the document's way. Walk: a text read out of bytes, the document's way. Walks: the document's reader of an edit: number, small, text. What stands in memory while the document's Decode reads an edit. -/
import Derived.Test.YtabcdodjkfknlaaGreatDoorPL08
import Derived.Test.YtabcdodjkfknlaaGreatDoorPL09
namespace Go.Proofs.YtabcdodjkfknlaaGreatDoor
open Go.RowKit
attribute [local go_sem ↓] dapp_op dslK_op
attribute [local go_sem] Oper.semAt_some
/-- the number that bytes tell, seven bits each, the lowest first -/
def valL : List UInt8 → Nat
  | [] => 0
  | c :: l => valL l * 128 + c.toNat % 128
theorem valL_app : ∀ a b : List UInt8, valL (a ++ b) = valL a + valL b * 128 ^ a.length
  | [], b => by simp [valL]
  | c :: a, b => by
    show valL (a ++ b) * 128 + _ = valL a * 128 + _ + _
    rw [valL_app a b, List.length_cons, Nat.pow_succ, Nat.add_mul, Nat.mul_assoc]
    omega
theorem valL_drop_le (l : List UInt8) (j : Nat) : valL (l.drop j) ≤ valL l := by
  have h := valL_app (l.take j) (l.drop j)
  rw [List.take_append_drop] at h
  have : valL (l.drop j) * 1 ≤ valL (l.drop j) * 128 ^ (l.take j).length := Nat.mul_le_mul_left _ (Nat.pow_pos (by decide))
  omega
theorem valL_take {l : List UInt8} {k : Nat} {x : UInt8} (h : l[k]? = some x) : valL (l.take (k + 1)) = valL (l.take k) + x.toNat % 128 * 128 ^ k := by
  have hk := (List.getElem?_eq_some_iff.1 h).1
  rw [List.take_add_one, h, valL_app]
  show _ + valL [x] * _ = _
  rw [List.length_take, Nat.min_eq_left (by omega)]
  show _ + (0 * 128 + x.toNat % 128) * _ = _
  rw [Nat.zero_mul, Nat.zero_add]
set_option maxHeartbeats 2000000 in
set_option maxRecDepth 100000 in
theorem get02_calls (v : Value) (l : List UInt8) (w : World) (hv : Bytes w v l) (hl : l.length ≤ 100000000) :
    Calls Tryz.prog 153 #[v] w (GotPost w (getN l)) := by
  obtain ⟨p, c, rfl⟩ := hv.slice
  have hv' := Lib.hid hv
  clear hv
  obtain ⟨PP, hPP⟩ : ∃ PP, GotPost w (getN l) = PP := ⟨_, rfl⟩
  rw [hPP]
  have hPP' := Lib.hid hPP
  obtain ⟨L, hL⟩ : ∃ L, l.length = L := ⟨_, rfl⟩
  rw [hL] at hv' hl ⊢
  have hL' := Lib.hid hL
  clear hL hPP
  go_enter Tryz.func153, Tryz.ntmps153
  go_wp2
  go_loopw [5] (fun i wr => ∃ k : Nat, k ≤ L ∧ k ≤ 9 ∧ i = .int .i64 k ∧ getN l = getA k (valL (l.take k)) (l.drop k) ∧ wr = w) (fun i _ => L - (intOf i).toNat)
  case atStart => exact ⟨0, Nat.zero_le _, by omega, rfl, rfl, rfl⟩
  case round =>
    obtain ⟨k, hk, hk9, rfl, hg, hwr⟩ := hrel
    by_cases hlt : k < L
    · obtain ⟨x, hx⟩ : ∃ x, l[k]? = some x := ⟨_, List.getElem?_eq_getElem (by rw [hL'.out]; exact hlt)⟩
      obtain ⟨g, o, rfl, hc⟩ := hv'.out.cellAt hx
      have hx1 : x.toNat < 256 := x.toNat_lt
      rw [drop_at hx] at hg
      unfold getA at hg
      have hvt := valL_take hx
      have n1 : 0 < L := by omega
      subst hwr
      obtain ⟨wo, rfl⟩ : ∃ wo : World, wo = wr := ⟨_, rfl⟩
      by_cases h8 : x.toNat < 128
      · by_cases hA : (k = 9 ∧ 1 < x.toNat) ∨ (x.toNat = 0 ∧ 0 < k)
        · rw [if_pos hA] at hg
          have hr : GotPost wo (getN l) (.returned (.tuple #[.int .u64 0, .int .i64 0, .int .i64 9])) wo := by rw [hg]; exact ⟨by rfl, rfl⟩
          rw [hPP'.out] at hr
          have hr' := Lib.hid hr
          clear hg hr hvt
          have hne : ¬ (k : Int) = (L : Int) := by omega
          obtain ⟨d, hd⟩ : ∃ d, x.toNat = d := ⟨_, rfl⟩
          rw [hd] at hc hA h8 hx1
          clear hd hx
          by_cases h0 : d = 0
          · subst h0
            by_cases hk0 : k = 0
            · omega
            · have hk1 : (0 : Int) < (k : Int) := by omega
              go_wp2
              first
                | exact hr'.out
                | (go_ret3; exact hr'.out)
          · obtain ⟨rfl, h1⟩ : k = 9 ∧ 1 < d := by omega
            have h0' : ((d : Int) == 0) = false := by simp; omega
            have h1' : (1 : Int) < (d : Int) := by omega
            go_wp2
            first
              | exact hr'.out
              | (go_ret3; exact hr'.out)
        · rw [if_neg hA, if_pos h8, ← hvt] at hg
          have hvl : valL (l.take (k + 1)) < 18446744073709551616 := by
            have := (getA_le l 0 0 (by omega) (by decide)).1
            have e : getA 0 0 l = getN l := rfl
            rw [e, hg] at this
            exact this
          have hr : GotPost wo (getN l) (.returned (.tuple #[.int .u64 (valL (l.take (k + 1)) : Nat), .int .i64 ((k : Int) + 1), .int .i64 0])) wo := by rw [hg]; exact ⟨by rfl, rfl⟩
          rw [hPP'.out] at hr
          have hr' := Lib.hid hr
          have hvl' := Lib.hid hvl
          clear hg hr hvt hvl
          have hne : ¬ (k : Int) = (L : Int) := by omega
          obtain ⟨d, hd⟩ : ∃ d, x.toNat = d := ⟨_, rfl⟩
          rw [hd] at hc hA h8 hx1
          clear hd hx
          have t0 : ((d : Int) == 0) = false ∨ (((d : Int) == 0) = true ∧ ¬ (0 : Int) < (k : Int)) := by
            by_cases h0 : d = 0
            · exact .inr ⟨by simp [h0], by omega⟩
            · exact .inl (by simp; omega)
          have t1 : ((k : Int) == 9) = false ∨ (((k : Int) == 9) = true ∧ ¬ (1 : Int) < (d : Int)) := by
            by_cases h0 : k = 9
            · exact .inr ⟨by simp [h0], by omega⟩
            · exact .inl (by simp; omega)
          rcases t0 with t0 | ⟨t0, t3⟩ <;> rcases t1 with t1 | ⟨t1, t4⟩
          case inr.inr => exfalso; have := eq_of_beq t1; omega
          all_goals
            go_wp2
            go_loopw [6, 7] (fun a i wr' => ∃ (j : Nat) (z : Int), z = (j : Int) - 1 ∧ j ≤ k + 1 ∧ i = .int .i64 z ∧ a = .int .u64 (valL ((l.take (k + 1)).drop j) : Nat) ∧ wr' = wo) (fun _ i _ => (intOf i + 1).toNat)
            case atStart =>
              refine ⟨k + 1, _, rfl, Nat.le_refl _, by go_num, ?_, rfl⟩
              rw [List.drop_of_length_le (by rw [List.length_take]; omega)]
              rfl
            case round =>
              obtain ⟨j, z, hz, hj, rfl, rfl, hwr⟩ := hrel
              subst hwr
              by_cases h0 : j = 0
              · subst h0
                have hzn : z < 0 := by omega
                have hz2 : ¬ 0 ≤ z := by omega
                clear hz
                rw [List.drop_zero]
                go_wp2
                first
                  | exact hr'.out
                  | (go_ret3; exact hr'.out)
                  | (go_ret3; (obtain rfl : k = 0 := by omega); exact hr'.out)
                  | ((obtain rfl : k = 0 := by omega); exact hr'.out)
              · obtain ⟨i, rfl⟩ : ∃ i, j = i + 1 := ⟨j - 1, by omega⟩
                obtain rfl : z = (i : Int) := by omega
                obtain ⟨y, hy⟩ : ∃ y, l[i]? = some y := ⟨_, List.getElem?_eq_getElem (by rw [hL'.out]; omega)⟩
                obtain ⟨g2, o2, e2, hc2⟩ := hv'.out.cellAt hy
                obtain ⟨rfl, rfl⟩ : g = g2 ∧ o = o2 := by injection e2 with e2; injection e2 with x y; exact ⟨x, y⟩
                have hy1 : y.toNat < 256 := y.toNat_lt
                have hdr := drop_at (l := l.take (k + 1)) (k := i) (x := y) (by rw [List.getElem?_take_of_lt (by omega)]; exact hy)
                have hle := valL_drop_le (l.take (k + 1)) i
                have hle2 := hvl'.out
                have hval : valL ((l.take (k + 1)).drop i) = valL ((l.take (k + 1)).drop (i + 1)) * 128 + y.toNat % 128 := by rw [hdr]; rfl
                have hval' := Lib.hid hval
                obtain ⟨V, hV⟩ : ∃ V, valL ((l.take (k + 1)).drop (i + 1)) = V := ⟨_, rfl⟩
                rw [hV] at hval hval' ⊢
                obtain ⟨d2, hd2⟩ : ∃ d, y.toNat = d := ⟨_, rfl⟩
                rw [hd2] at hc2 hy1 hval hval'
                obtain ⟨m, hm⟩ : ∃ m, d2 % 128 = m := ⟨_, rfl⟩
                rw [hm] at hval hval'
                have r0 : ((d2 : Int)).tmod 128 = (m : Int) := by rw [Int.tmod_eq_emod_of_nonneg (by omega)]; omega
                have r1 : ((d2 : Int)) % 128 = (m : Int) := by omega
                have r2 : IntKind.u8.wrap (m : Int) = (m : Int) := (show ∀ n : Nat, n < 128 → IntKind.u8.wrap (n : Int) = (n : Int) by decide) m (by omega)
                have r3 : IntKind.u64.wrap (m : Int) = (m : Int) := u64w (by omega) (by omega)
                have r4 : IntKind.u64.wrap ((V : Int) * 128) = (V : Int) * 128 := u64w (by omega) (by omega)
                have r5 : IntKind.u64.wrap ((V : Int) * 128 + m) = (V : Int) * 128 + m := u64w (by omega) (by omega)
                have n2 : i < L := by omega
                clear hdr hle hle2 hval hV hy e2 hz h0 hd2 hm
                go_wp2
                go_roundw
                case rel => exact ⟨i, _, rfl, by omega, by go_num, by rw [hval'.out, Int.natCast_add, Int.natCast_mul]; rfl, trivial⟩
                case measure => first | (simp [intOf]; done) | (simp [intOf]; omega)
      · have t2 : ¬ (x.toNat : Int) < 128 := by omega
        have t3 : (128 : Int) ≤ (x.toNat : Int) := by omega
        obtain ⟨d, hd⟩ : ∃ d, x.toNat = d := ⟨_, rfl⟩
        rw [hd] at hc h8 hx1 hg hvt t2 t3
        clear hd hx
        by_cases h9 : k = 9
        · subst h9
          rw [if_pos (.inl ⟨rfl, by omega⟩)] at hg
          have hr : GotPost wo (getN l) (.returned (.tuple #[.int .u64 0, .int .i64 0, .int .i64 9])) wo := by rw [hg]; exact ⟨by rfl, rfl⟩
          rw [hPP'.out] at hr
          have hr' := Lib.hid hr
          clear hg hr hvt
          go_wp2
          first
            | exact hr'.out
            | (go_ret3; exact hr'.out)
        · rw [if_neg (by omega), if_neg h8, ← hvt] at hg
          have hg' := Lib.hid hg
          have t4 : ((k : Int) + 1 == 10) = false := by simp; omega
          clear hg hvt
          go_wp2
          go_roundw
          case rel => exact ⟨k + 1, by omega, by omega, by go_num, hg'.out, trivial⟩
          case measure => simp [intOf]; omega
    · obtain rfl : k = L := by omega
      have hk' : l.drop k = [] := List.drop_of_length_le (Nat.le_of_eq hL'.out)
      rw [hk'] at hg
      subst hwr
      obtain ⟨wo, rfl⟩ : ∃ wo : World, wo = wr := ⟨_, rfl⟩
      have hr : GotPost wo (getN l) (.returned (.tuple #[.int .u64 0, .int .i64 0, .int .i64 7])) wo := by rw [hg]; exact ⟨by rfl, rfl⟩
      rw [hPP'.out] at hr
      have hr' := Lib.hid hr
      clear hg hr hk'
      go_wp2
      first
        | exact hr'.out
        | (go_ret3; exact hr'.out)
end Go.Proofs.YtabcdodjkfknlaaGreatDoor
namespace Go.Proofs.YtabcdodjkfknlaaGreatDoor
open Go.RowKit
attribute [local go_sem ↓] dapp_op dslK_op
set_option maxHeartbeats 400000 in
set_option maxRecDepth 100000 in
theorem getText02_calls (v : Value) (l : List UInt8) (w : World) (hv : Bytes w v l) (hl : l.length ≤ 100000000) :
    Calls Tryz.prog 154 #[v] w (GotTPost w (getT l)) := by
  have hG := Lib.hid (get02_calls v l w hv hl)
  have hT : getT l = if (getN l).e ≠ 0 then ⟨⟨#[]⟩, 0, (getN l).e⟩ else if l.length - (getN l).n < (getN l).v then ⟨⟨#[]⟩, 0, 7⟩ else ⟨⟨((l.drop (getN l).n).take (getN l).v).toArray⟩, (getN l).n + (getN l).v, 0⟩ := rfl
  obtain ⟨hg1, hg2, hg3⟩ := getN_le l
  obtain ⟨p, c, rfl⟩ := hv.slice
  have hlen := hv.len.2
  obtain ⟨⟨gv, gn, ge⟩, hg⟩ : ∃ g, getN l = g := ⟨_, rfl⟩
  rw [hg] at hG hT hg1 hg2 hg3
  simp only at hT hg1 hg2 hg3
  clear hg
  by_cases h0 : ge = 0
  · subst h0
    rw [if_neg (by simp)] at hT
    obtain ⟨L, hL⟩ : ∃ L, l.length = L := ⟨_, rfl⟩
    rw [hL] at hG hT hg2 hl hlen
    rw [hL] at hv ⊢
    obtain ⟨r, hr⟩ : ∃ r : Nat, L - gn = r := ⟨_, rfl⟩
    have hsub : (L : Int) - (gn : Int) = (r : Int) := by omega
    have hr2 : r ≤ 100000000 := by omega
    rw [hr] at hT
    by_cases h1 : r < gv
    · rw [if_pos h1] at hT
      have t1 : (r : Int) < (gv : Int) := by omega
      have hP : GotTPost w (getT l) (.returned (.tuple #[.string ⟨#[]⟩, .int .i64 0, .int .i64 7])) w := by rw [hT]; exact ⟨rfl, rfl⟩
      have hP' := Lib.hid hP
      clear hP hT hv hL hr hg3 h1
      go_enter Tryz.func154, Tryz.ntmps154
      go_wp2_with fail
      with_reducible refine hG.out.mono ?_
      rintro e w1 ⟨rfl, rfl⟩
      go_wp2
      go_ret3
      exact hP'.out
    · rw [if_neg h1] at hT
      have t1 : ¬ (r : Int) < (gv : Int) := by omega
      have t2 : gv ≤ 100000000 := by omega
      obtain ⟨j, hj⟩ : ∃ j : Nat, gn + gv = j := ⟨_, rfl⟩
      have hadd : (gn : Int) + (gv : Int) = (j : Int) := by omega
      have t3 : j ≤ 100000000 := by omega
      obtain ⟨q, hq⟩ : ∃ q, (if c = gn then p else p.map (·.add gn)) = q := ⟨_, rfl⟩
      have hm := fun W => bsl_mid p L c gn j (by omega) (by omega) W
      have hb := (hv.drop hg2).take (j := j - gn) (by omega)
      rw [hq] at hb
      simp only [hq] at hm
      have hs := bytes_str hb
      rw [show j - gn = gv by omega] at hs hm
      have hP : GotTPost w (getT l) (.returned (.tuple #[.string ⟨((l.drop gn).take gv).toArray⟩, .int .i64 j, .int .i64 0])) w := by rw [hT]; exact ⟨by rw [← hj], rfl⟩
      have hP' := Lib.hid hP
      generalize (⟨((l.drop gn).take gv).toArray⟩ : ByteArray) = S at *
      clear hP hT hv hL hr hg3 h1 hb hq hj
      go_enter Tryz.func154, Tryz.ntmps154
      go_wp2_with fail
      with_reducible refine hG.out.mono ?_
      rintro e w1 ⟨rfl, rfl⟩
      go_wp2
      go_ret3
      exact hP'.out
  · rw [if_pos h0] at hT
    have t1 : (ge != 0) = true := by simpa using h0
    have hP : GotTPost w (getT l) (.returned (.tuple #[.string ⟨#[]⟩, .int .i64 0, .int .i64 ge])) w := by rw [hT]; exact ⟨rfl, rfl⟩
    have hP' := Lib.hid hP
    clear hP hT hv hg3 h0
    go_enter Tryz.func154, Tryz.ntmps154
    go_wp2_with fail
    with_reducible refine hG.out.mono ?_
    rintro e w1 ⟨rfl, rfl⟩
    go_wp2
    go_ret3
    exact hP'.out
end Go.Proofs.YtabcdodjkfknlaaGreatDoor
namespace Go.Proofs.YtabcdodjkfknlaaGreatDoor
open Go.RowKit
attribute [local go_sem ↓] dapp_op dslK_op
attribute [local go_sem] Oper.semAt_some
/-- a reader at block R, its bytes below block B -/
def RfAt (B : Nat) (w : World) (R : Nat) (r : Rdr) : Prop := B ≤ R ∧ ∃ bv, Blk w R 163 #[bv, .int .i64 r.e] ∧ Bytes w bv r.l ∧ (∀ g, bv.ownBlock = some g → r.l ≠ [] → g < B) ∧ r.l.length ≤ 90000000
section
variable {w w' w'' : World} {B R : Nat} {r : Rdr}
theorem RfAt.lt (h : RfAt B w R r) : B ≤ R ∧ R < w.heap.size := by obtain ⟨h0, _, h1, _⟩ := h; exact ⟨h0, h1.lt⟩
theorem RfAt.keeps {S : Nat → Prop} (h : RfAt B w R r) (hk : Keeps S w w') (hs : ∀ j, S j → B ≤ j ∧ j ≠ R) : RfAt B w' R r := by
  obtain ⟨h0, bv, h1, h2, h3, h4⟩ := h
  exact ⟨h0, bv, h1.keeps hk fun e => (hs R e).2 rfl, h2.keepsP hk fun g hg hl hS => by have := h3 g hg hl; have := (hs g hS).1; omega, h3, h4⟩
theorem RfAt.later (h : RfAt B w R r) (hb : Below w.heap.size w w') : RfAt B w' R r := h.keeps (S := fun _ => False) (.of_below hb) fun _ e => e.elim
/-- the error laid -/
theorem RfAt.set_e (h : RfAt B w R r) (e : Int) : RfAt B (w.setCell ⟨R, 1, none⟩ (.int .i64 e)) R ⟨r.l, e⟩ ∧ RdKeeps R w (w.setCell ⟨R, 1, none⟩ (.int .i64 e)) := by
  obtain ⟨h0, bv, h1, h2, h3, h4⟩ := h
  have hk : Keeps (fun j => j = R) w (w.setCell ⟨R, 1, none⟩ (.int .i64 e)) := (Keeps.refl (fun j => j = R) w).setCell (p := ⟨R, 1, none⟩) (.inl rfl) _
  exact ⟨⟨h0, bv, h1.set_ 1 _, h2.keepsP hk fun g hg hl hS => by have := h3 g hg hl; omega, h3, h4⟩, hk⟩
/-- the bytes cut -/
theorem RfAt.cut {p : Option Addr} {m c : Nat} {bv : Value} (h0 : B ≤ R) (h1 : Blk w R 163 #[bv, .int .i64 r.e]) (hv : bv = .slice p m c) (h2 : Bytes w bv r.l) (h3 : ∀ g, bv.ownBlock = some g → r.l ≠ [] → g < B) (h4 : r.l.length ≤ 90000000) {n : Nat} (hn : n ≤ m) :
    RfAt B (w.setCell ⟨R, 0, none⟩ (.slice (if c = n then p else p.map (·.add n)) (m - n) (c - n))) R ⟨r.l.drop n, r.e⟩ ∧ RdKeeps R w (w.setCell ⟨R, 0, none⟩ (.slice (if c = n then p else p.map (·.add n)) (m - n) (c - n))) := by
  have hk : Keeps (fun j => j = R) w (w.setCell ⟨R, 0, none⟩ (.slice (if c = n then p else p.map (·.add n)) (m - n) (c - n))) := (Keeps.refl (fun j => j = R) w).setCell (p := ⟨R, 0, none⟩) (.inl rfl) _
  subst hv
  have hb : ∀ g, (Value.slice (if c = n then p else p.map (·.add n)) (m - n) (c - n)).ownBlock = some g → r.l.drop n ≠ [] → g < B := by
    intro g hg hl
    refine h3 g ?_ (fun e => by rw [e] at hl; simp at hl)
    cases p with
    | none => split at hg <;> cases hg
    | some a =>
      split at hg
      · exact hg
      · have : (Value.slice (some a) m c).ownBlock = (Value.slice (some (a.add n)) (m - n) (c - n)).ownBlock := by
          show some a.block = some (a.add n).block
          rw [addK_blk]
        rw [this]; exact hg
  exact ⟨⟨h0, _, h1.set_ 0 _, (h2.drop hn).keepsP hk fun g hg hl hS => by have := hb g hg hl; omega, hb, by rw [List.length_drop]; omega⟩, hk⟩
end
def RfPost (B R : Nat) (w : World) (v : Value) (r : Rdr) (e : Ending) (w' : World) : Prop := e = .returned v ∧ RfAt B w' R r ∧ RdKeeps R w w'
set_option maxHeartbeats 1000000 in
set_option maxRecDepth 100000 in
theorem rnumber_calls (B R : Nat) (r : Rdr) (w : World) (h : RfAt B w R r) :
    Calls Tryz.prog 121 #[.pointer (some ⟨R, 0, none⟩)] w (RfPost B R w (.int .u64 r.num) r.numR) := by
  obtain ⟨h0, bv, h1, h2, h3, h4⟩ := id h
  have hc := h1.cell
  have hf := h1.frozen
  have hT : r.numR = if r.e ≠ 0 then r else if (getN r.l).e ≠ 0 then ⟨r.l, (getN r.l).e⟩ else ⟨r.l.drop (getN r.l).n, 0⟩ := rfl
  have hN : r.num = if r.numR.e ≠ 0 then 0 else (getN r.l).v := rfl
  by_cases hr : r.e = 0
  · rw [if_neg (by simpa using hr)] at hT
    have hG := get02_calls bv r.l w h2 (by omega)
    have hg2 := (getN_le r.l).2.1
    obtain ⟨p, c, rfl⟩ := h2.slice
    have hs := fun W => bsl_from p r.l.length c (getN r.l).n hg2 W
    have hcut := RfAt.cut h0 h1 rfl h2 h3 h4 hg2
    have hset := h.set_e (getN r.l).e
    obtain ⟨⟨gv, gn, ge⟩, hg⟩ : ∃ g, getN r.l = g := ⟨_, rfl⟩
    rw [hg] at hG hT hN hs hcut hset hg2
    simp only at hN hT hs hcut hset hg2
    by_cases he : ge = 0
    · subst he
      rw [if_neg (by simp)] at hT
      rw [hT, if_neg (by simp)] at hN
      have hcut' : RfAt B (w.setCell ⟨R, 0, none⟩ (.slice (if c = gn then p else p.map (·.add gn)) (r.l.length - gn) (c - gn))) R r.numR ∧ RdKeeps R w (w.setCell ⟨R, 0, none⟩ (.slice (if c = gn then p else p.map (·.add gn)) (r.l.length - gn) (c - gn))) := by rw [hT]; rw [hr] at hcut; exact hcut
      rw [hN]
      have hcut2 := Lib.hid hcut'
      have hG' := Lib.hid hG
      obtain ⟨q, hq⟩ : ∃ q, (if c = gn then p else p.map (·.add gn)) = q := ⟨_, rfl⟩
      rw [hq] at hs hcut2
      obtain ⟨r', hr'⟩ : ∃ r', r.numR = r' := ⟨_, rfl⟩
      rw [hr'] at hcut2 ⊢
      rw [hr] at hc
      obtain ⟨L, hL⟩ : ∃ L, r.l.length = L := ⟨_, rfl⟩
      rw [hL] at hs hcut2 hc hG'
      clear hT hN h h1 h2 h3 h4 hcut hcut' hset hG hg hq hr' hr hL hg2
      go_enter Tryz.func121, Tryz.ntmps121
      go_wp2_with fail
      refine hG'.out.mono ?_
      rintro e w1 ⟨rfl, rfl⟩
      go_wp2
      go_ret
      exact ⟨rfl, hcut2.out⟩
    · rw [if_pos he] at hT
      rw [hT, if_pos he] at hN
      rw [hN, hT]
      have hset' := Lib.hid hset
      have hG' := Lib.hid hG
      have t1 : (ge != 0) = true := by simpa using he
      rw [hr] at hc
      obtain ⟨L, hL⟩ : ∃ L, r.l.length = L := ⟨_, rfl⟩
      rw [hL] at hc hG'
      clear hT hN h h1 h2 h3 h4 hcut hset hG hg hr hL hg2 hs he
      go_enter Tryz.func121, Tryz.ntmps121
      go_wp2_with fail
      refine hG'.out.mono ?_
      rintro e w1 ⟨rfl, rfl⟩
      go_wp2
      go_ret
      exact ⟨rfl, hset'.out⟩
  · rw [if_pos hr] at hT
    rw [hT, if_pos hr] at hN
    rw [hN, hT]
    have h' := Lib.hid h
    have t1 : (r.e != 0) = true := by simpa using hr
    clear hT hN h h1 h2 h3 h4 hr
    go_enter Tryz.func121, Tryz.ntmps121
    go_wp2
    go_ret
    exact ⟨rfl, h'.out, RdKeeps.refl _ _⟩
set_option maxHeartbeats 1000000 in
set_option maxRecDepth 100000 in
theorem rsmall_calls (B R : Nat) (r : Rdr) (w : World) (h : RfAt B w R r) :
    Calls Tryz.prog 122 #[.pointer (some ⟨R, 0, none⟩)] w (RfPost B R w (.int .i64 r.small) r.smallR) := by
  have hN := Lib.hid (rnumber_calls B R r w h)
  have hlt := num_lt r
  have hS : r.small = if 4611686018427387904 ≤ r.num then 0 else (r.num : Int) := rfl
  have hR : r.smallR = if 4611686018427387904 ≤ r.num then r.numR.took 0 9 else r.numR := rfl
  have hz : r.numR.e ≠ 0 → r.num = 0 := fun e => by unfold Rdr.num; rw [if_pos e]
  obtain ⟨n, hn⟩ : ∃ n, r.num = n := ⟨_, rfl⟩
  obtain ⟨r1, hr1⟩ : ∃ r1, r.numR = r1 := ⟨_, rfl⟩
  rw [hn, hr1] at hN hR hz
  rw [hn] at hS hlt
  by_cases hb : 4611686018427387904 ≤ n
  · rw [if_pos hb] at hS hR
    have h0 : r1.e = 0 := by
      by_cases e : r1.e = 0
      · exact e
      · have := hz e; omega
    have hk : r1.took 0 9 = ⟨r1.l, 9⟩ := by unfold Rdr.took; rw [if_neg (by simpa using h0), if_pos (by decide)]
    rw [hS, hR, hk]
    have t1 : (4611686018427387904 : Int) ≤ (n : Int) := by omega
    have h0' := Lib.hid h0
    clear hz hS hR hk hb h hn hr1 h0
    go_enter Tryz.func122, Tryz.ntmps122
    go_wp2_with fail
    refine hN.out.mono ?_
    rintro e w1 ⟨rfl, hA, hK⟩
    have hset := Lib.hid (hA.set_e 9)
    have hK' := Lib.hid hK
    obtain ⟨_, bv, h1, _⟩ := hA
    have hc := h1.cell
    have hf := h1.frozen
    rw [h0'.out] at hc
    clear h1 hK hN
    go_wp2
    go_ret
    exact ⟨rfl, hset.out.1, hK'.out.trans hset.out.2⟩
  · rw [if_neg hb] at hS hR
    rw [hS, hR]
    have t1 : ¬ (4611686018427387904 : Int) ≤ (n : Int) := by omega
    have t2 : n < 4611686018427387904 := by omega
    have t3 : decide ((4611686018427387904 : Int) ≤ (n : Int)) = false := by simpa using t1
    clear hz hS hR hb h hn hr1 hlt
    go_enter Tryz.func122, Tryz.ntmps122
    go_wp2_with fail
    refine hN.out.mono ?_
    rintro e w1 ⟨rfl, hA, hK⟩
    have hA' := Lib.hid hA
    have hK' := Lib.hid hK
    clear hA hK hN
    go_wp2
    go_ret
    exact ⟨rfl, hA'.out, hK'.out⟩
set_option maxHeartbeats 1000000 in
set_option maxRecDepth 100000 in
theorem rtext_calls (B R : Nat) (r : Rdr) (w : World) (h : RfAt B w R r) :
    Calls Tryz.prog 123 #[.pointer (some ⟨R, 0, none⟩)] w (RfPost B R w (.string r.text) r.textR) := by
  obtain ⟨h0, bv, h1, h2, h3, h4⟩ := id h
  have hc := h1.cell
  have hf := h1.frozen
  have hT : r.textR = if r.e ≠ 0 then r else if (getT r.l).e ≠ 0 then ⟨r.l, (getT r.l).e⟩ else ⟨r.l.drop (getT r.l).n, 0⟩ := rfl
  have hN : r.text = if r.textR.e ≠ 0 then ⟨#[]⟩ else (getT r.l).s := rfl
  by_cases hr : r.e = 0
  · rw [if_neg (by simpa using hr)] at hT
    have hG := getText02_calls bv r.l w h2 (by omega)
    have hg2 := (getT_le r.l).2.1
    obtain ⟨p, c, rfl⟩ := h2.slice
    have hs := fun W => bsl_from p r.l.length c (getT r.l).n hg2 W
    have hcut := RfAt.cut h0 h1 rfl h2 h3 h4 hg2
    have hset := h.set_e (getT r.l).e
    obtain ⟨⟨gv, gn, ge⟩, hg⟩ : ∃ g, getT r.l = g := ⟨_, rfl⟩
    rw [hg] at hG hT hN hs hcut hset hg2
    simp only at hN hT hs hcut hset hg2
    by_cases he : ge = 0
    · subst he
      rw [if_neg (by simp)] at hT
      rw [hT, if_neg (by simp)] at hN
      have hcut' : RfAt B (w.setCell ⟨R, 0, none⟩ (.slice (if c = gn then p else p.map (·.add gn)) (r.l.length - gn) (c - gn))) R r.textR ∧ RdKeeps R w (w.setCell ⟨R, 0, none⟩ (.slice (if c = gn then p else p.map (·.add gn)) (r.l.length - gn) (c - gn))) := by rw [hT]; rw [hr] at hcut; exact hcut
      rw [hN]
      have hcut2 := Lib.hid hcut'
      have hG' := Lib.hid hG
      obtain ⟨q, hq⟩ : ∃ q, (if c = gn then p else p.map (·.add gn)) = q := ⟨_, rfl⟩
      rw [hq] at hs hcut2
      obtain ⟨r', hr'⟩ : ∃ r', r.textR = r' := ⟨_, rfl⟩
      rw [hr'] at hcut2 ⊢
      rw [hr] at hc
      obtain ⟨L, hL⟩ : ∃ L, r.l.length = L := ⟨_, rfl⟩
      rw [hL] at hs hcut2 hc hG'
      clear hT hN h h1 h2 h3 h4 hcut hcut' hset hG hg hq hr' hr hL hg2
      go_enter Tryz.func123, Tryz.ntmps123
      go_wp2_with fail
      refine hG'.out.mono ?_
      rintro e w1 ⟨rfl, rfl⟩
      go_wp2
      go_ret
      exact ⟨rfl, hcut2.out⟩
    · rw [if_pos he] at hT
      rw [hT, if_pos he] at hN
      rw [hN, hT]
      have hset' := Lib.hid hset
      have hG' := Lib.hid hG
      have t1 : (ge != 0) = true := by simpa using he
      rw [hr] at hc
      obtain ⟨L, hL⟩ : ∃ L, r.l.length = L := ⟨_, rfl⟩
      rw [hL] at hc hG'
      clear hT hN h h1 h2 h3 h4 hcut hset hG hg hr hL hg2 hs he
      go_enter Tryz.func123, Tryz.ntmps123
      go_wp2_with fail
      refine hG'.out.mono ?_
      rintro e w1 ⟨rfl, rfl⟩
      go_wp2
      go_ret
      exact ⟨rfl, hset'.out⟩
  · rw [if_pos hr] at hT
    rw [hT, if_pos hr] at hN
    rw [hN, hT]
    have h' := Lib.hid h
    have t1 : (r.e != 0) = true := by simpa using hr
    clear hT hN h h1 h2 h3 h4 hr
    go_enter Tryz.func123, Tryz.ntmps123
    go_wp2
    go_ret
    exact ⟨rfl, h'.out, RdKeeps.refl _ _⟩
end Go.Proofs.YtabcdodjkfknlaaGreatDoor
namespace Go.Proofs.YtabcdodjkfknlaaGreatDoor
open Go.RowKit
/-- the variables of the document's Decode: the reader at R, the edit at E, the result at Z -/
structure DfAt (B : Nat) (w0 w : World) (R E Z : Nat) (av dv : Value) (e : Edt) : Prop where
  low : B ≤ R ∧ B ≤ E ∧ B ≤ w0.heap.size
  nz : Z ≠ E ∧ Z ≠ R
  ne : E ≠ R
  below : Below B w0 w
  blk : Blk w E 33 #[av, dv, .int .u64 e.floor, .int .u64 e.head, .int .i64 e.log, .int .i64 e.next]
  add : rkT.Own B w av e.add
  drop : rkI.Own B w dv e.drop
  z : Blk w Z 33 #[.slice none 0 0, .slice none 0 0, .int .u64 0, .int .u64 0, .int .i64 0, .int .i64 0]
section
variable {B : Nat} {w0 w w' : World} {R E Z : Nat} {av dv : Value} {e : Edt} {r : Rdr}
theorem RfAt.blk (h : RfAt B w R r) : ∃ cs, Blk w R 163 cs := by obtain ⟨_, bv, h1, _⟩ := h; exact ⟨_, h1⟩
theorem DfAt.size (h : DfAt B w0 w R E Z av dv e) : B ≤ w.heap.size := Nat.le_trans h.low.2.2 h.below.size
theorem DfAt.keeps {S : Nat → Prop} (h : DfAt B w0 w R E Z av dv e) (hk : Keeps S w w') (hS : ∀ j, S j → B ≤ j ∧ j ≠ E ∧ av.ownBlock ≠ some j ∧ dv.ownBlock ≠ some j ∧ j ≠ Z) : DfAt B w0 w' R E Z av dv e :=
  ⟨h.low, h.nz, h.ne, Keeps.below_step h.below h.size hk fun j e => (hS j e).1, h.blk.keeps hk fun e => (hS _ e).2.1 rfl, h.add.keeps hk fun g hg e => (hS g e).2.2.1 hg, h.drop.keeps hk fun g hg e => (hS g e).2.2.2.1 hg, h.z.keeps hk fun e => (hS _ e).2.2.2.2 rfl⟩
theorem DfAt.rd (h : DfAt B w0 w R E Z av dv e) (hk : RdKeeps R w w') (hR2 : ∃ cs, Blk w R 163 cs) : DfAt B w0 w' R E Z av dv e := by
  obtain ⟨cR, bR⟩ := hR2
  refine h.keeps hk fun j e => ?_
  subst e
  exact ⟨h.low.1, h.ne.symm, h.add.blk_ne bR (by decide), h.drop.blk_ne bR (by decide), h.nz.2.symm⟩
theorem DfAt.later (h : DfAt B w0 w R E Z av dv e) (hb : Below w.heap.size w w') : DfAt B w0 w' R E Z av dv e := h.keeps (S := fun _ => False) (.of_below hb) fun _ e => e.elim
/-- a table put behind those of the edit -/
theorem DfAt.put (h : DfAt B w0 w R E Z av dv e) (hR : RfAt B w R r) (t : Tbl) (hl : e.add.length ≤ 1000000) :
    ∃ p c w1, (dappOp #[27, 27] 27 #[av, .slice (some ⟨w.heap.size, 0, none⟩) 1 1]).run Tryz.prog (w.alloc (.cells #[.int .i64 t.num, .int .i64 t.level, .int .i64 t.size, .string t.first, .string t.last] 76)) = .ok (.slice p (e.add.length + 1) c) w1 ∧
      w1.frozen? ⟨E, 0, none⟩ = false ∧ w1.cell? ⟨E, 0, none⟩ = some av ∧ DfAt B w0 (w1.setCell ⟨E, 0, none⟩ (.slice p (e.add.length + 1) c)) R E Z (.slice p (e.add.length + 1) c) dv { e with add := e.add ++ [t] } ∧ RfAt B (w1.setCell ⟨E, 0, none⟩ (.slice p (e.add.length + 1) c)) R r := by
  have hA := (Below.refl w.heap.size w).alloc (Nat.le_refl _) (.cells #[.int .i64 t.num, .int .i64 t.level, .int .i64 t.size, .string t.first, .string t.last] 76)
  have hx := Blk.new w 76 #[.int .i64 t.num, .int .i64 t.level, .int .i64 t.size, .string t.first, .string t.last]
  have h1 := h.later hA
  have hR1 := hR.later hA
  obtain ⟨p, c, w1, e1, o1, k1, n1⟩ := h1.add.app rkT_ok (t := t) h1.size (g := w.heap.size) (fun j u hj => by rw [hx.cell]; simpa [rkT, Tbl.cells] using hj) hl
  have hlow : ∀ j, av.ownBlock = some j → B ≤ j := fun j hj => (h1.add.lt j hj).1
  obtain ⟨cR, bR⟩ := hR1.blk
  have d1 : av.ownBlock ≠ some E := h1.add.blk_ne h1.blk (by decide)
  have d4 : av.ownBlock ≠ some R := h1.add.blk_ne bR (by decide)
  have bE := h1.blk.keeps k1 d1
  have hR2 := hR1.keeps k1 fun j hj => ⟨hlow j hj, fun e => d4 (e ▸ hj)⟩
  have hd : dv.ownBlock ≠ av.ownBlock ∨ dv.ownBlock = none := by
    cases hv : dv.ownBlock with
    | none => exact .inr rfl
    | some g =>
      refine .inl fun e => ?_
      obtain ⟨cs, hb⟩ := own_blk h1.drop g hv
      exact h1.add.blk_ne hb (by decide) e.symm
  have dr := h1.drop.keeps k1 (fun g hg hs => by
    rcases hd with h | h
    · exact h (by rw [hg, hs])
    · rw [h] at hg; cases hg)
  have z1 := h1.z.keeps k1 (h1.add.blk_ne h1.z (by decide))
  have b1 := Keeps.below_step h1.below h1.size k1 hlow
  have ks : Keeps (fun j => j = E) w1 (w1.setCell ⟨E, 0, none⟩ (.slice p (e.add.length + 1) c)) := (Keeps.refl (fun j => j = E) w1).setCell (p := ⟨E, 0, none⟩) (.inl rfl) _
  have hE1 := bE.set_ 0 (.slice p (e.add.length + 1) c)
  refine ⟨p, c, w1, e1, bE.frozen 0, by rw [bE.cell]; rfl, ⟨h.low, h.nz, h.ne, Keeps.below_step b1 (Nat.le_trans h.low.2.2 b1.size) ks fun j e => by rw [e]; exact h.low.2.1, hE1, ?_, ?_, z1.keeps ks h.nz.1⟩, hR2.keeps ks fun j e => ⟨by rw [e]; exact h.low.2.1, by rw [e]; exact h.ne⟩⟩
  · have := o1.keeps ks fun g hg e => o1.blk_ne bE (by decide) (by rw [hg, e])
    exact this
  · exact dr.keeps ks fun g hg e => dr.blk_ne bE (by decide) (by rw [hg, e])
/-- a number put behind those of the edit -/
theorem DfAt.putI (h : DfAt B w0 w R E Z av dv e) (hR : RfAt B w R r) (t : Int) (hl : e.drop.length ≤ 1000000) :
    ∃ p c w1, (dappOp #[31, 31] 31 #[dv, .slice (some ⟨w.heap.size, 0, none⟩) 1 1]).run Tryz.prog (w.alloc (.cells #[.int .i64 t] 3)) = .ok (.slice p (e.drop.length + 1) c) w1 ∧
      w1.frozen? ⟨E, 1, none⟩ = false ∧ w1.cell? ⟨E, 1, none⟩ = some dv ∧ DfAt B w0 (w1.setCell ⟨E, 1, none⟩ (.slice p (e.drop.length + 1) c)) R E Z av (.slice p (e.drop.length + 1) c) { e with drop := e.drop ++ [t] } ∧ RfAt B (w1.setCell ⟨E, 1, none⟩ (.slice p (e.drop.length + 1) c)) R r := by
  have hA := (Below.refl w.heap.size w).alloc (Nat.le_refl _) (.cells #[.int .i64 t] 3)
  have hx := Blk.new w 3 #[.int .i64 t]
  have h1 := h.later hA
  have hR1 := hR.later hA
  obtain ⟨p, c, w1, e1, o1, k1, n1⟩ := h1.drop.app rkI_ok (t := t) h1.size (g := w.heap.size) (fun j u hj => by rw [hx.cell]; simpa [rkI] using hj) hl
  have hlow : ∀ j, dv.ownBlock = some j → B ≤ j := fun j hj => (h1.drop.lt j hj).1
  obtain ⟨cR, bR⟩ := hR1.blk
  have d1 : dv.ownBlock ≠ some E := h1.drop.blk_ne h1.blk (by decide)
  have d4 : dv.ownBlock ≠ some R := h1.drop.blk_ne bR (by decide)
  have bE := h1.blk.keeps k1 d1
  have hR2 := hR1.keeps k1 fun j hj => ⟨hlow j hj, fun e => d4 (e ▸ hj)⟩
  have hd : dv.ownBlock ≠ av.ownBlock ∨ dv.ownBlock = none := by
    cases hv : dv.ownBlock with
    | none => exact .inr rfl
    | some g =>
      refine .inl fun e => ?_
      obtain ⟨cs, hb⟩ := own_blk h1.drop g hv
      exact h1.add.blk_ne hb (by decide) e.symm
  have ad := h1.add.keeps k1 (fun g hg hs => by
    rcases hd with h | h
    · exact h (by rw [hg, hs])
    · rw [h] at hs; cases hs)
  have z1 := h1.z.keeps k1 (h1.drop.blk_ne h1.z (by decide))
  have b1 := Keeps.below_step h1.below h1.size k1 hlow
  have ks : Keeps (fun j => j = E) w1 (w1.setCell ⟨E, 1, none⟩ (.slice p (e.drop.length + 1) c)) := (Keeps.refl (fun j => j = E) w1).setCell (p := ⟨E, 1, none⟩) (.inl rfl) _
  have hE1 := bE.set_ 1 (.slice p (e.drop.length + 1) c)
  refine ⟨p, c, w1, e1, bE.frozen 1, by rw [bE.cell]; rfl, ⟨h.low, h.nz, h.ne, Keeps.below_step b1 (Nat.le_trans h.low.2.2 b1.size) ks fun j e => by rw [e]; exact h.low.2.1, hE1, ?_, ?_, z1.keeps ks h.nz.1⟩, hR2.keeps ks fun j e => ⟨by rw [e]; exact h.low.2.1, by rw [e]; exact h.ne⟩⟩
  · exact ad.keeps ks fun g hg e => ad.blk_ne bE (by decide) (by rw [hg, e])
  · have := o1.keeps ks fun g hg e => o1.blk_ne bE (by decide) (by rw [hg, e])
    exact this
end
end Go.Proofs.YtabcdodjkfknlaaGreatDoor
