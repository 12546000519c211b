/- Walks: the document's frames: a number of four bytes, Next. Walk: the document's All: the frames of bytes, one behind the other. Walks: Extra, Clean, the document's Extra; both disks laid. Walk: files laid on both disks. -/
import Derived.Test.YtabcdodjkfknlaaGreatDoorPL20
import Derived.Test.YtabcdodjkfknlaaGreatDoorPL14
import Derived.Test.YtabcdodjkfknlaaGreatDoorPL09
import Derived.Test.YtabcdodjkfknlaaGreatDoorPL15
namespace Go.Proofs.YtabcdodjkfknlaaGreatDoor
open Go.RowKit
attribute [local go_sem ↓] dapp_op dslK_op
theorem sum4 {A B D F : Nat} (ha : A < 256) (hb : B < 256) (hd : D < 256) (hf : F < 256) :
    IntKind.u64.wrap (IntKind.u64.wrap (IntKind.u64.wrap (IntKind.u64.wrap (IntKind.u64.wrap (IntKind.u64.wrap (IntKind.u64.wrap (A : Int) * 256) + IntKind.u64.wrap (B : Int)) * 256) + IntKind.u64.wrap (D : Int)) * 256) + IntKind.u64.wrap (F : Int)) = ((((A * 256 + B) * 256 + D) * 256 + F : Nat) : Int) := by
  rw [u64w (a := (A : Int)) (by omega) (by omega), u64w (a := (B : Int)) (by omega) (by omega), u64w (a := (D : Int)) (by omega) (by omega), u64w (a := (F : Int)) (by omega) (by omega), u64w (a := (A : Int) * 256) (by omega) (by omega), u64w (a := (A : Int) * 256 + B) (by omega) (by omega), u64w (a := ((A : Int) * 256 + B) * 256) (by omega) (by omega), u64w (a := ((A : Int) * 256 + B) * 256 + D) (by omega) (by omega), u64w (a := (((A : Int) * 256 + B) * 256 + D) * 256) (by omega) (by omega), u64w (by omega) (by omega)]
  omega
set_option maxHeartbeats 2000000 in
set_option maxRecDepth 100000 in
theorem number03_calls (v : Value) (l : List UInt8) (w : World) (h : Bytes w v l) (hl : 4 ≤ l.length) (hl2 : l.length ≤ 100000000) :
    Calls Tryz.prog 152 #[v] w fun e w' => e = .returned (.int .u64 (rd32 l)) ∧ w.drew = w' := by
  obtain ⟨p, c, rfl⟩ := h.slice
  obtain ⟨a, hx0⟩ : ∃ a, l[0]? = some a := ⟨_, List.getElem?_eq_getElem (by omega)⟩
  obtain ⟨b, hx1⟩ : ∃ a, l[1]? = some a := ⟨_, List.getElem?_eq_getElem (by omega)⟩
  obtain ⟨d, hx2⟩ : ∃ a, l[2]? = some a := ⟨_, List.getElem?_eq_getElem (by omega)⟩
  obtain ⟨e, hx3⟩ : ∃ a, l[3]? = some a := ⟨_, List.getElem?_eq_getElem (by omega)⟩
  obtain ⟨g, o, rfl, c0⟩ := h.cellAt hx0
  obtain ⟨g1, o1, e1, c1⟩ := h.cellAt hx1
  obtain ⟨rfl, rfl⟩ : g = g1 ∧ o = o1 := by injection e1 with e1; injection e1 with x y; exact ⟨x, y⟩
  obtain ⟨g2, o2, e2, c2⟩ := h.cellAt hx2
  obtain ⟨rfl, rfl⟩ : g = g2 ∧ o = o2 := by injection e2 with e2; injection e2 with x y; exact ⟨x, y⟩
  obtain ⟨g3, o3, e3, c3⟩ := h.cellAt hx3
  obtain ⟨rfl, rfl⟩ : g = g3 ∧ o = o3 := by injection e3 with e3; injection e3 with x y; exact ⟨x, y⟩
  have hr : rd32 l = ((a.toNat * 256 + b.toNat) * 256 + d.toNat) * 256 + e.toNat := by
    match l, hl with
    | x0 :: x1 :: x2 :: x3 :: r, _ =>
      obtain rfl : x0 = a := by simpa using hx0
      obtain rfl : x1 = b := by simpa using hx1
      obtain rfl : x2 = d := by simpa using hx2
      obtain rfl : x3 = e := by simpa using hx3
      rfl
  rw [hr]
  have ha := a.toNat_lt
  have hb := b.toNat_lt
  have hd := d.toNat_lt
  have he := e.toNat_lt
  generalize a.toNat = A at *
  generalize b.toNat = B at *
  generalize d.toNat = D at *
  generalize e.toNat = F at *
  rw [Nat.add_zero] at c0
  obtain ⟨L, hL⟩ : ∃ L, l.length = L := ⟨_, rfl⟩
  rw [hL] at hl hl2 ⊢
  clear hr hx0 hx1 hx2 hx3 h e1 e2 e3 hL
  have b0 : (0 : Int) < (L : Int) := by omega
  have b1 : (1 : Int) < (L : Int) := by omega
  have b2 : (2 : Int) < (L : Int) := by omega
  have b3 : (3 : Int) < (L : Int) := by omega
  have n0 : 0 < L := by omega
  have n1 : 1 < L := by omega
  have n2 : 2 < L := by omega
  have n3 : 3 < L := by omega
  go_enter Tryz.func152, Tryz.ntmps152
  go_wp2
  refine wp_region_s (fun w' => w'.cell? ⟨g, o, none⟩ = some (.int .u8 A) ∧ w'.cell? ⟨g, o + 1, none⟩ = some (.int .u8 B) ∧ w'.cell? ⟨g, o + 2, none⟩ = some (.int .u8 D) ∧ w'.cell? ⟨g, o + 3, none⟩ = some (.int .u8 F)) [] [(true, 0), (true, 1), (true, 2), (true, 3), (true, 4), (true, 5), (true, 6), (true, 7), (true, 8), (true, 9), (true, 10), (true, 11), (true, 12), (true, 13), (true, 14), (true, 15), (true, 16), (true, 17), (true, 18), (true, 19), (true, 20), (true, 21), (true, 22)] (by kernel_rfl) (by kernel_rfl) (by kernel_rfl) (by kernel_rfl) (fun _ _ _ _ _ h => h) ⟨c0, c1, c2, c3⟩ ?_
  repeat
    refine wpS_take (v := ?_) rfl (.inl ⟨by rfl, fun w' hS => ?_⟩) ?_
    rotate_left
    · (try dsimp only at hS); go_simp; try with_reducible rfl
    simp only [Act.put, List.setIfInBounds_toArray, List.set_cons_zero, List.set_cons_succ]
  refine wpS_end ?_
  go_wp2
  go_ret
  exact ⟨ret_int (sum4 ha hb hd he), rfl⟩
/-- what the document's Next answers: bytes that lie where the frame's do -/
def Next03 (v : Value) (l : List UInt8) (w : World) (r : Nat × List UInt8) (e : Ending) (w' : World) : Prop := Below w.heap.size w w' ∧
  ((r.1 ≠ 0 ∧ e = .returned (.tuple #[.slice none 0 0, .int .i64 0, .int .i64 r.1])) ∨
   (r.1 = 0 ∧ ∃ p c, e = .returned (.tuple #[.slice p r.2.length c, .int .i64 ((8 + r.2.length : Nat) : Int), .int .i64 0]) ∧ ∀ W, Bytes W v l → Bytes W (.slice p r.2.length c) r.2))
set_option maxHeartbeats 2000000 in
set_option maxRecDepth 100000 in
theorem next03_calls (v : Value) (l : List UInt8) (w : World) (hv : Bytes w v l) (hl : l.length ≤ 100000000) :
    Calls Tryz.prog 120 #[v] w (Next03 v l w (nextL l)) := by
  obtain ⟨p, c, rfl⟩ := hv.slice
  have hlc := hv.len.2
  have hrl := rd32_lt l
  have hsm := sumOf_lt ((l.drop 8).take (rd32 l))
  have hrl2 := rd32_lt (l.drop 4)
  obtain ⟨r, hr⟩ : ∃ r, nextL l = r := ⟨_, rfl⟩
  have hr' := Lib.hid hr
  rw [hr]
  unfold nextL at hr
  have hG := fun W (h : Below w.heap.size w W) (h4 : 4 ≤ l.length) => number03_calls (.slice p l.length c) l W (hv.later h) h4 hl
  have hB : ∀ n, n ≤ l.length - 8 → 8 ≤ l.length → Bytes w (.slice (if c = 8 then p else p.map (·.add 8)) n (c - 8)) ((l.drop 8).take n) := fun n h1 h2 => (hv.drop h2).take h1
  have hD : 4 ≤ l.length → Bytes w (.slice (if c = 4 then p else p.map (·.add 4)) (l.length - 4) (c - 4)) (l.drop 4) := fun h => hv.drop h
  by_cases h8 : l.length < 8
  · rw [if_pos (.inl h8)] at hr
    subst hr
    clear hr' hB hD hG hv hsm hrl2
    obtain ⟨L, hL⟩ : ∃ L, l.length = L := ⟨_, rfl⟩
    rw [hL] at h8 hl hlc ⊢
    have t8 : (L : Int) < 8 := by omega
    go_enter Tryz.func120, Tryz.ntmps120
    go_wp2
    go_ret3
    exact ⟨Below.refl _ _, .inl ⟨by decide, rfl⟩⟩
  · have hc4 : 4 ≤ l.length := by omega
    have hG1 := Lib.hid (fun W h => hG W h hc4)
    have hD1 := Lib.hid (hD hc4)
    clear hG hD
    obtain ⟨n, hn⟩ : ∃ n, rd32 l = n := ⟨_, rfl⟩
    have hB1 := hB n
    rw [hn] at hr hsm hrl
    have hn' := Lib.hid hn
    have w1 : IntKind.i64.wrap (n : Int) = (n : Int) := IntWalk.i64_in _ (by omega)
    have w2 : IntKind.u64.wrap ((l.length : Int) - 8) = (l.length : Int) - 8 := u64w (by omega) (by omega)
    by_cases hs : l.length - 8 < n
    · rw [if_pos (.inr hs)] at hr
      subst hr
      clear hr' hB hB1 hD1 hv hsm hrl2
      obtain ⟨L, hL⟩ : ∃ L, l.length = L := ⟨_, rfl⟩
      rw [hL] at h8 hl hlc hs hc4 hG1 w2 ⊢
      have t8 : ¬ (L : Int) < 8 := by omega
      have t9 : (L : Int) - 8 < (n : Int) := by omega
      have t10 : (0 : Int) ≤ (L : Int) - 8 := by omega
      clear hL hn h8 hs
      go_enter Tryz.func120, Tryz.ntmps120
      go_wp2_with (go_at_call 152; with_reducible refine (hG1.out _ (Below.refl _ _)).mono ?_; rintro e w1 ⟨rfl, rfl⟩; rw [hn'.out])
      go_ret3
      exact ⟨(Below.refl _ _).drew, .inl ⟨by decide, rfl⟩⟩
    · have hB2 := hB1 (by omega) (by omega)
      have hB3 : ∀ W, Bytes W (.slice p l.length c) l → Bytes W (.slice (if c = 8 then p else p.map (·.add 8)) n (c - 8)) ((l.drop 8).take n) := fun W h => (h.drop (by omega)).take (by omega)
      rw [if_neg (by omega)] at hr
      have hlen : ((l.drop 8).take n).length = n := by rw [List.length_take, List.length_drop]; omega
      obtain ⟨q, hq⟩ : ∃ q, (l.drop 8).take n = q := ⟨_, rfl⟩
      rw [hq] at hr hsm hB2 hB3 hlen
      obtain ⟨m, hm⟩ : ∃ m, rd32 (l.drop 4) = m := ⟨_, rfl⟩
      have hm' := Lib.hid hm
      rw [hm] at hr hrl2
      have hS := fun W (h : Below w.heap.size w W) => sum03_is _ q W (hB2.later h) (by omega)
      have hG2 := fun W (h : Below w.heap.size w W) => number03_calls _ (l.drop 4) W (hD1.out.later h) (by rw [List.length_drop]; omega) (by rw [List.length_drop]; omega)
      have s1 := fun W => bsl_mid p l.length c 8 (8 + n) (by omega) (by omega) W
      have s2 := fun W => bsl_from p l.length c 4 (by omega) W
      rw [show 8 + n - 8 = n by omega] at s1
      simp only [Int.natCast_add] at s1
      obtain ⟨pA, hpA⟩ : ∃ pA, (if c = 8 then p else p.map (·.add 8)) = pA := ⟨_, rfl⟩
      obtain ⟨pB, hpB⟩ : ∃ pB, (if c = 4 then p else p.map (·.add 4)) = pB := ⟨_, rfl⟩
      rw [hpA] at s1 hS hB2 hB3
      rw [hpB] at s2 hG2
      have s1' : ∀ W, (dslK 43 (.slice p l.length c) (some (.int .i64 8)) (some (.int .i64 (8 + (n : Int)))) none).run Tryz.prog W = .ok (.slice pA n (c - 8)) W := s1
      have s2' : ∀ W, (dslK 43 (.slice p l.length c) (some (.int .i64 4)) none none).run Tryz.prog W = .ok (.slice pB (l.length - 4) (c - 4)) W := s2
      have hS' := Lib.hid hS
      have hG2' := Lib.hid hG2
      have hlen' := Lib.hid hlen
      have hB2' := Lib.hid hB3
      have w3 : IntKind.u64.wrap (sumOf q : Int) = (sumOf q : Int) := u64w (by omega) (by omega)
      clear s1 s2 hS hG2 hB hB1 hB2 hB3 hD1 hv hq hm hn hpA hpB hlen
      obtain ⟨L, hL⟩ : ∃ L, l.length = L := ⟨_, rfl⟩
      rw [hL] at h8 hl hlc hs hc4 hG1 s1' s2' hG2' w2 hB2' ⊢
      have t8 : ¬ (L : Int) < 8 := by omega
      have t9 : ¬ (L : Int) - 8 < (n : Int) := by omega
      have t10 : (0 : Int) ≤ (L : Int) - 8 := by omega
      clear hL h8 hs
      go_enter Tryz.func120, Tryz.ntmps120
      go_wp2_with fail
      refine (hG1.out _ (Below.refl _ _)).mono ?_
      rintro e w1 ⟨rfl, rfl⟩
      rw [hn'.out]
      go_wp2_with fail
      refine (hG1.out _ ((Below.refl _ _).drew)).mono ?_
      rintro e w1 ⟨rfl, rfl⟩
      rw [hn'.out]
      go_wp2_with fail
      refine wp_region_s (fun w' => Below w.heap.size w w') [] [(true, 0), (true, 3), (true, 4), (false, 1), (true, 2), (false, 5), (true, 6)] (by kernel_rfl) (by kernel_rfl) (by kernel_rfl) (by kernel_rfl) (fun _ _ _ _ _ h => h) (Below.refl _ _).drew.drew.drew ?_
      repeat
        refine wpS_take (v := ?_) rfl (.inl ⟨by rfl, fun w' hS => ?_⟩) ?_
        rotate_left
        · (try dsimp only at hS); go_simp; try with_reducible rfl
        simp only [Act.put, List.setIfInBounds_toArray, List.set_cons_zero, List.set_cons_succ]
      refine wpS_go rfl ?_
      go_wp2_with fail
      refine (hS'.out _ (Below.refl _ _).drew.drew.drew).mono ?_
      rintro e w1 ⟨rfl, rfl⟩
      go_wp2_with fail
      refine ⟨fun _ => (Below.refl _ _).drew.drew.drew, ?_⟩
      repeat
        refine wpS_take (v := ?_) rfl (.inl ⟨by rfl, fun w' hS => ?_⟩) ?_
        rotate_left
        · (try dsimp only at hS); go_simp; try with_reducible rfl
        simp only [Act.put, List.setIfInBounds_toArray, List.set_cons_zero, List.set_cons_succ]
      refine wpS_go rfl ?_
      go_wp2_with fail
      refine (hG2'.out _ (Below.refl _ _).drew.drew.drew).mono ?_
      rintro e w2 ⟨rfl, rfl⟩
      rw [hm'.out]
      go_wp2_with fail
      refine ⟨fun _ => (Below.refl _ _).drew.drew.drew.drew, ?_⟩
      refine wpS_take (v := ?_) rfl (.inl ⟨by rfl, fun w' hS => ?_⟩) ?_
      rotate_left
      · (try dsimp only at hS); go_simp; try with_reducible rfl
      simp only [Act.put, List.setIfInBounds_toArray, List.set_cons_zero, List.set_cons_succ]
      refine wpS_end ?_
      by_cases he : sumOf q = m
      · rw [if_neg (by simpa using he)] at hr
        subst hr
        have te : ((sumOf q : Int) == (m : Int)) = true := by simp [he]
        go_wp2_with fail
        go_ret3
        exact ⟨(Below.refl _ _).drew.drew.drew.drew, .inr ⟨rfl, pA, c - 8, by rw [hlen'.out, Int.natCast_add]; rfl, by rw [hlen'.out]; exact hB2'.out⟩⟩
      · rw [if_pos he] at hr
        subst hr
        have te : ((sumOf q : Int) == (m : Int)) = false := by simp; omega
        go_wp2
        go_ret3
        exact ⟨(Below.refl _ _).drew.drew.drew.drew, .inl ⟨by decide, rfl⟩⟩
end Go.Proofs.YtabcdodjkfknlaaGreatDoor
namespace Go.Proofs.YtabcdodjkfknlaaGreatDoor
open Go.RowKit
attribute [local go_sem ↓] dapp_op dslK_op
attribute [local go_sem] Oper.semAt_some
/-- the frames of bytes -/
def allL (b : List UInt8) : List (List UInt8) :=
  if h : (nextL b).1 = 0 then (nextL b).2 :: allL (b.drop (8 + (nextL b).2.length)) else []
termination_by b.length
decreasing_by
  have := nextL_len h
  rw [List.length_drop]
  omega
theorem allL_end {b : List UInt8} (h : (nextL b).1 ≠ 0) : allL b = [] := by rw [allL, dif_neg h]
theorem allL_next {b : List UInt8} (h : (nextL b).1 = 0) : allL b = (nextL b).2 :: allL (b.drop (8 + (nextL b).2.length)) := by rw [allL, dif_pos h]
/-- where a slice lies -/
abbrev SlH := Option Addr × Nat × Nat
def rkB : RowK SlH := ⟨58, 43, 1, fun z => [.slice z.1 z.2.1 z.2.2]⟩
theorem rkB_ok : rkB.Ok Tryz.prog where
  hs := Tryz.underlying58
  info := info_partsK (show (Tryz.prog.info? 43).map (fun i => (i.zero, i.size, i.bytes)) = some (some (.slice none 0 0), 1, 24) by kernel_rfl) rfl (by decide)
  size := fun w => Tryz.sizeOf43 w
  pos := by decide
  len := fun _ => rfl
  one := fun a u hu => by simp [rkB] at hu; rw [hu]; rfl
/-- rows of bytes that lie in memory -/
def BytesRow (w : World) (zs : List SlH) (fs : List (List UInt8)) : Prop := zs.length = fs.length ∧ ∀ (i : Nat) (z : SlH), zs[i]? = some z → ∃ f, fs[i]? = some f ∧ Bytes w (.slice z.1 z.2.1 z.2.2) f
theorem BytesRow.nil (w : World) : BytesRow w [] [] := ⟨rfl, fun i z h => by simp at h⟩
theorem BytesRow.app {w : World} {zs : List SlH} {fs : List (List UInt8)} (h : BytesRow w zs fs) {z : SlH} {f : List UInt8} (hb : Bytes w (.slice z.1 z.2.1 z.2.2) f) : BytesRow w (zs ++ [z]) (fs ++ [f]) := by
  obtain ⟨h1, h2⟩ := h
  refine ⟨by simp [h1], fun i y hy => ?_⟩
  by_cases hi : i < zs.length
  · rw [List.getElem?_append_left hi] at hy
    obtain ⟨g, hg, hb'⟩ := h2 i y hy
    exact ⟨g, by rw [List.getElem?_append_left (by omega)]; exact hg, hb'⟩
  · rw [List.getElem?_append_right (by omega)] at hy
    have hz : i - zs.length = 0 := by
      have := (List.getElem?_eq_some_iff.1 hy).1
      simp at this
      omega
    rw [hz] at hy
    obtain rfl : z = y := by simpa using hy
    exact ⟨f, by rw [List.getElem?_append_right (by omega), show i - fs.length = 0 by omega]; rfl, hb⟩
theorem BytesRow.later {w w' : World} {zs : List SlH} {fs : List (List UInt8)} (h : BytesRow w zs fs) (hb : Below w.heap.size w w') : BytesRow w' zs fs :=
  ⟨h.1, fun i z hz => by obtain ⟨f, h1, h2⟩ := h.2 i z hz; exact ⟨f, h1, h2.later hb⟩⟩
def AllPost (w : World) (fs : List (List UInt8)) (e : Ending) (w' : World) : Prop := ∃ p c zs n, e = .returned (.tuple #[.slice p fs.length c, .int .i64 n]) ∧ rkB.Own w.heap.size w' (.slice p fs.length c) zs ∧ BytesRow w zs fs ∧ Below w.heap.size w w'
set_option maxHeartbeats 4000000 in
set_option maxRecDepth 100000 in
theorem all03_calls (v : Value) (l : List UInt8) (w : World) (hv : Bytes w v l) (hl : l.length ≤ 1000000) :
    Calls Tryz.prog 74 #[v] w (AllPost w (allL l)) := by
  obtain ⟨p, c, rfl⟩ := hv.slice
  have hlc := hv.len.2
  obtain ⟨PP, hPP⟩ : ∃ PP, AllPost w (allL l) = PP := ⟨_, rfl⟩
  rw [hPP]
  have hPP' := Lib.hid hPP
  obtain ⟨L, hL⟩ : ∃ L, l.length = L := ⟨_, rfl⟩
  have hv' := Lib.hid hv
  have hL' := Lib.hid hL
  rw [hL] at hl hlc hv' ⊢
  clear hPP hv hL
  go_enter Tryz.func74, Tryz.ntmps74
  go_wp2
  go_loopw [4, 5, 6, 7, 8] (fun out at_ _ _ _ wr => ∃ (k : Nat) (po : Option Addr) (co : Nat) (zs : List SlH) (fs : List (List UInt8)), at_ = .int .i64 k ∧ k ≤ L ∧ out = .slice po fs.length co ∧ rkB.Own w.heap.size wr out zs ∧ BytesRow w zs fs ∧ fs ++ allL (l.drop k) = allL l ∧ fs.length ≤ k ∧ Below w.heap.size w wr) (fun _ at_ _ _ _ _ => L - (intOf at_).toNat)
  case atStart => exact ⟨0, none, 0, [], [], rfl, Nat.zero_le _, rfl, RowK.Own.nil _ _ _, BytesRow.nil _, rfl, Nat.le_refl _, Below.refl _ _⟩
  case round =>
    obtain ⟨k, po, co, zs, fs, rfl, hk, rfl, ho, hr, hfs, hfk, hb⟩ := hrel
    obtain ⟨wo, rfl⟩ : ∃ wo : World, wo = wr := ⟨_, rfl⟩
    obtain ⟨M, hM⟩ : ∃ M, fs.length = M := ⟨_, rfl⟩
    rw [hM] at ho hfk ⊢
    have s1 := fun W => bsl_from p L c k hk W
    have hd := hv'.out.drop hk
    obtain ⟨pK, hpK⟩ : ∃ pK, (if c = k then p else p.map (·.add k)) = pK := ⟨_, rfl⟩
    rw [hpK] at s1 hd
    have hN := next03_calls _ (l.drop k) wo (hd.later hb) (by rw [List.length_drop, hL'.out]; omega)
    obtain ⟨r, hr_⟩ : ∃ r, nextL (l.drop k) = r := ⟨_, rfl⟩
    rw [hr_] at hN
    have hN' := Lib.hid hN
    have ho' := Lib.hid ho
    have hr' := Lib.hid hr
    have hfs' := Lib.hid hfs
    have hb' := Lib.hid hb
    have hM' := Lib.hid hM
    have hr_' := Lib.hid hr_
    have hd' := Lib.hid hd
    clear hN ho hr hfs hb hM hr_ hpK hd
    go_wp2_with fail
    refine hN'.out.mono ?_
    rintro e w1 ⟨b1, ⟨hne, rfl⟩ | ⟨he, p1, c1, rfl, hby⟩⟩
    · have hb1 := Lib.hid (hb'.out.trans (b1.mono hb'.out.size))
      have ho1 := Lib.hid (ho'.out.later b1)
      have hne2 : ((r.1 : Int) == 0) = false := by simpa using hne
      have hne3 : ¬ (r.1 : Int) = 0 := by omega
      have hend := Lib.hid (allL_end (b := l.drop k) (by rw [hr_'.out]; exact hne))
      clear b1 hN' ho' hb'
      obtain ⟨E, hE⟩ : ∃ E : Nat, r.1 = E := ⟨_, rfl⟩
      rw [hE] at hne hne2 hne3 ⊢
      clear hE
      go_wp2_with fail
      have hfin : fs = allL l := by rw [← hfs'.out, hend.out, List.append_nil]
      rw [← hPP'.out, ← hfin]
      exact ⟨po, co, zs, k, by rw [hM'.out]; rfl, by rw [hM'.out]; exact ho1.out, hr'.out, hb1.out⟩
    · have hq : k + (8 + r.2.length) ≤ L := by
        have := nextL_len (b := l.drop k) (by rw [hr_'.out]; exact he)
        rw [hr_'.out, List.length_drop, hL'.out] at this
        omega
      have hnx := allL_next (b := l.drop k) (by rw [hr_'.out]; exact he)
      rw [hr_'.out, List.drop_drop] at hnx
      have hfs2 : (fs ++ [r.2]) ++ allL (l.drop (k + (8 + r.2.length))) = allL l := by rw [List.append_assoc, List.singleton_append, ← hnx]; exact hfs'.out
      have hby0 : Bytes w (.slice p1 r.2.length c1) r.2 := hby w (hd'.out)
      obtain ⟨q, hq_⟩ : ∃ q, r.2 = q := ⟨_, rfl⟩
      rw [hq_] at hq hfs2 hby0 ⊢
      obtain ⟨Q, hQ⟩ : ∃ Q, q.length = Q := ⟨_, rfl⟩
      rw [hQ] at hq hfs2 hby0 ⊢
      have hr2 := Lib.hid (hr'.out.app (z := (p1, Q, c1)) hby0)
      have hfs2' := Lib.hid hfs2
      have hb1 := hb'.out.trans (b1.mono hb'.out.size)
      obtain ⟨W2, hW2⟩ : ∃ W2, w1.alloc (.cells #[.slice p1 Q c1] 43) = W2 := ⟨_, rfl⟩
      have hA2 : Below w1.heap.size w1 W2 := by rw [← hW2]; exact (Below.refl _ w1).alloc (Nat.le_refl _) _
      have bN : Blk W2 w1.heap.size 43 #[.slice p1 Q c1] := by rw [← hW2]; exact Blk.new w1 _ _
      have hb2 := hb1.trans (hA2.mono hb1.size)
      obtain ⟨p3, c3, w3, e3, o3, k3, _⟩ := RowK.Own.app rkB_ok (t := (p1, Q, c1)) ((ho'.out.later b1).later hA2) hb2.size (g := w1.heap.size) (fun j u hj => by rw [bN.cell]; simpa [rkB] using hj) (by rw [hr'.out.1, hM'.out]; omega)
      have hb3 := hb2.trans (k3.below (fun j _ e => (((ho'.out.later b1).later hA2).lt j e).1) hb2.size)
      rw [hr'.out.1, hM'.out] at e3 o3
      have e3 : (dappOp #[58, 58] 58 #[.slice po M co, .slice (some ⟨w1.heap.size, 0, none⟩) 1 1]).run Tryz.prog W2 = .ok (.slice p3 (M + 1) c3) w3 := e3
      obtain ⟨G, hG⟩ : ∃ G, w1.heap.size = G := ⟨_, rfl⟩
      rw [hG] at e3
      have o3' := Lib.hid o3
      have hb3' := Lib.hid hb3
      clear hN' ho' hb' b1 hby hby0 hb1 hA2 bN hb2 k3 o3 hb3 hfs2 hnx hq_ hr'
      go_wp2
      refine ⟨⟨k + (8 + Q), p3, c3, zs ++ [(p1, Q, c1)], fs ++ [q], by go_num, by omega, by rw [List.length_append, hM'.out]; rfl, o3'.out, hr2.out, hfs2'.out, by rw [List.length_append, hM'.out]; show M + 1 ≤ _; omega, hb3'.out⟩, ?_⟩
      simp only [intOf]; omega
end Go.Proofs.YtabcdodjkfknlaaGreatDoor
namespace Go.Proofs.YtabcdodjkfknlaaGreatDoor
open Go.RowKit
attribute [local go_sem ↓] dapp_op dslK_op
attribute [local go_sem] Oper.semAt_some
abbrev Ver.agg (p : Option Addr) (c : Nat) (x : Ver) : Value := .agg #[.slice p x.tables.length c, .int .u64 x.floor, .int .u64 x.head, .int .i64 x.log, .int .i64 x.next]
abbrev Ver.cellsA (p : Option Addr) (c : Nat) (x : Ver) : Array Value := #[.slice p x.tables.length c, .int .u64 x.floor, .int .u64 x.head, .int .i64 x.log, .int .i64 x.next]
set_option maxHeartbeats 2000000 in
set_option maxRecDepth 100000 in
theorem extra_calls {w0 w : World} {L : Nat → Prop} {D g m : Nat} {rp rr : RD} (h : Two w0 w L D g rp rr m) (hm : m < 4000) (hs : StdF w) (hl : ∀ s ∈ rp.list, s.length ≤ 10000000) (pv : Option Addr) (cv : Nat) (x : Ver) (num : Int) (hx : VerIs w (Ver.agg pv cv x) x) :
    Calls Tryz.prog 31 #[.pointer (some ⟨D, 0, none⟩), Ver.agg pv cv x, .int .i64 num] w (ExtraPost w.heap.size w (extraP x num rp.list)) := by
  obtain ⟨X, hX⟩ : ∃ X, extraP x num rp.list = X := ⟨_, rfl⟩
  rw [hX]
  obtain ⟨W2, hW2⟩ : ∃ W2, (w.alloc (.cells (Ver.cellsA pv cv x) 30)).alloc (.cells #[.int .i64 num] 3) = W2 := ⟨_, rfl⟩
  have b4 : Blk W2 w.heap.size 30 (Ver.cellsA pv cv x) := by rw [← hW2]; exact (Blk.new w _ _).alloc _
  have b5 : Blk W2 (w.heap.size + 1) 3 #[.int .i64 num] := by rw [← hW2]; have := Blk.new (w.alloc (.cells (Ver.cellsA pv cv x) 30)) 3 #[.int .i64 num]; rw [World.size_alloc] at this; exact this
  have hB2 : Below w.heap.size w W2 := by rw [← hW2]; exact ((Below.refl _ w).alloc (Nat.le_refl _) _).alloc (by simp) _
  have hS2 : SeesV w W2 w.heap.size (w.heap.size + 1) pv cv x num := ⟨b4, b5, hB2⟩
  have hP := Lib.hid (p_list (h.later hB2) hm)
  have hS2' := Lib.hid hS2
  have hx' := Lib.hid hx
  have hs' := Lib.hid hs
  have hl' := Lib.hid hl
  have hX' := Lib.hid hX
  clear hS2 b4 b5 hx hs hl h hB2 hX
  go_enter Tryz.func31, Tryz.ntmps31
  go_wp2_with fail
  refine hP.out.mono ?_
  rintro e w3 ⟨⟨v, rfl, hO, hn, hb3⟩, _⟩
  have hO2 : StO W2.heap.size w3 v rp.list := hO
  obtain ⟨p, c, rfl⟩ := hO2.slice
  have hS3 := hS2'.out.later hb3
  have hC := delF_calls p c rp.list w.heap.size (w.heap.size + 1) cv pv x num w w3 hl'.out (by omega) hs'.out hx'.out hS3 (hO2.mono hS2'.out.b.size)
  rw [hX'.out] at hC
  have hC' := Lib.hid hC
  clear hO hO2 hn hb3 hS3 hC
  generalize rp.list.length = N at *
  go_wp2_with fail
  refine hC'.out.mono ?_
  rintro e w4 ⟨p4, c4, rfl, hO4, hb4⟩
  have hO4' := Lib.hid hO4
  have hb4' := Lib.hid hb4
  clear hO4 hb4
  go_wp2_with fail
  go_ret
  exact ⟨p4, c4, rfl, hO4'.out, hb4'.out⟩
set_option maxHeartbeats 2000000 in
set_option maxRecDepth 100000 in
theorem extra21_calls {w0 w : World} {L : Nat → Prop} {D g m : Nat} {rp rr : RD} (h : Two w0 w L D g rp rr m) (hm : m < 4000) (hl : ∀ s ∈ rr.list, s.length ≤ 10000000) (pv : Option Addr) (cv : Nat) (x : Ver) (num : Int) (hx : VerIs w (Ver.agg pv cv x) x) :
    Calls Tryz.prog 30 #[.pointer (some ⟨g, 0, none⟩), Ver.agg pv cv x, .int .i64 num] w (ExtraPost w.heap.size w (extraP x num rr.list)) := by
  obtain ⟨W2, hW2⟩ : ∃ W2, w.alloc (.cells (Ver.cellsA pv cv x) 30) = W2 := ⟨_, rfl⟩
  have b4 : Blk W2 w.heap.size 30 (Ver.cellsA pv cv x) := by rw [← hW2]; exact Blk.new w _ _
  have hB2 : Below w.heap.size w W2 := by rw [← hW2]; exact (Below.refl _ w).alloc (Nat.le_refl _) _
  have hP0 := r_list (h.later hB2) hm
  obtain ⟨l, hll⟩ : ∃ l, rr.list = l := ⟨_, rfl⟩
  rw [hll] at hP0 hl ⊢
  have hP := Lib.hid hP0
  have b4' := Lib.hid b4
  have hB2' := Lib.hid hB2
  have hx' := Lib.hid hx
  have hl' := Lib.hid hl
  clear b4 hx hl h hB2 hP0 hll
  go_enter Tryz.func30, Tryz.ntmps30
  go_wp2_with fail
  refine hP.out.mono ?_
  rintro e w3 ⟨v, rfl, hO, hn, hb3⟩
  have hO2 : StO W2.heap.size w3 v l := hO
  obtain ⟨p, c, rfl⟩ := hO2.slice
  have hO3 := Lib.hid hO2
  have hb4 := Lib.hid (hB2'.out.trans (hb3.mono hB2'.out.size))
  have b5 := Lib.hid (b4'.out.below hb3 b4'.out.lt)
  clear hO hO2 hb3
  obtain ⟨N, hN⟩ : ∃ N, l.length = N := ⟨_, rfl⟩
  rw [hN] at hn hO3 ⊢
  have hN' := Lib.hid hN
  clear hN
  go_wp2_with fail
  go_loopw [7, 13] (fun out i wr => ∃ (k : Nat) (po : Option Addr) (co M : Nat) (xs : List (List UInt8)), i = .int .i64 k ∧ k ≤ N ∧ out = .slice po M co ∧ xs.length = M ∧ M ≤ k ∧ (l.take k).filter (fun s => !wantedP x num s) = xs ∧ StO w3.heap.size wr (.slice po M co) xs ∧ Below w3.heap.size w3 wr) (fun _ i _ => N - (intOf i).toNat)
  case atStart => exact ⟨0, none, 0, 0, [], rfl, Nat.zero_le _, rfl, rfl, Nat.le_refl _, rfl, World.ownsRow_nil _ _ _ _, Below.refl _ _⟩
  case round =>
    obtain ⟨wo, rfl⟩ : ∃ wo : World, wo = wr := ⟨_, rfl⟩
    obtain ⟨k, po, co, M, xs, rfl, hk, rfl, hM, hMk, hfil, hX, hb⟩ := hrel
    have hbv := b5.out.below hb b5.out.lt
    have hBw := hb4.out.trans (hb.mono hb4.out.size)
    by_cases hlt : k < N
    · obtain ⟨s, hs⟩ : ∃ t, l[k]? = some t := ⟨_, List.getElem?_eq_getElem (by rw [hN'.out]; exact hlt)⟩
      obtain ⟨gs, bs, rfl, _, hgl, hlc, q0, hbs⟩ := (hO3.out.later hb).cell hs
      have hC := wanted21_calls bs (Ver.agg pv cv x) x num wo (by rw [Lib.size_eq, hbs]; exact hl'.out s (List.mem_of_getElem? hs)) (hx'.out.later hBw)
      rw [hbs] at hC
      have hfs : (l.take (k + 1)).filter (fun s => !wantedP x num s) = xs ++ (if wantedP x num s then [] else [s]) := by
        rw [List.take_add_one, hs, List.filter_append, hfil]
        by_cases hw : wantedP x num s = true
        · simp [hw]
        · simp [hw]
      have hC' := Lib.hid hC
      have hX' := Lib.hid hX
      have hb' := Lib.hid hb
      have hBw' := Lib.hid hBw
      have hbv' := Lib.hid hbv
      have hfs' := Lib.hid hfs
      have hbs' := Lib.hid hbs
      have hM' := Lib.hid hM
      have cV := hbv.cell
      have n1 : 0 < N := by omega
      clear hC hX hb hBw hbv hfs hs hfil hbs hM
      go_wp2_with fail
      (with_reducible refine hC'.out.mono ?_)
      rintro e w5 ⟨rfl, hb5⟩
      have hX5 := Lib.hid (hX'.out.later hb5)
      have hb6 := Lib.hid (hb'.out.trans (hb5.mono hb'.out.size))
      have hBw6 := Lib.hid (hBw'.out.trans (hb5.mono hBw'.out.size))
      clear hb5 hC' hX' hb' hBw' hbv' cV q0
      by_cases ho : wantedP x num s = true
      · rw [ho]
        have hf2 := hfs'.out
        rw [ho, if_pos rfl, List.append_nil] at hf2
        have hf3 := Lib.hid hf2
        clear hf2 hfs' ho
        go_wp2_with fail
        go_roundw
        case rel => exact ⟨k + 1, po, co, M, xs, by go_num, by omega, rfl, hM'.out, by omega, hf3.out, hX5.out, hb6.out⟩
        case measure => simp [intOf]; omega
      · rw [Bool.not_eq_true] at ho
        rw [ho]
        have hf2 := hfs'.out
        rw [ho, if_neg (by simp)] at hf2
        have hf3 := Lib.hid hf2
        have hal := (Below.refl w5.heap.size w5).alloc (Nat.le_refl _) (.cells #[.string bs] 9)
        have hX6 := hX5.out.later hal
        have hX7 : (w5.alloc (.cells #[.string bs] 9)).ownsRow w3.heap.size 9 1 (.slice po M co) xs.length (xs.map encStr) := hX6
        obtain ⟨p7, c7, w7, e7, o7, b7⟩ := spush hX7 (by rw [hM'.out]; omega) (Nat.le_trans hb6.out.size hal.size) (Blk.new w5 9 #[.string bs])
        rw [hM'.out] at e7 o7
        have e7 : (dappOp #[51, 51] 51 #[.slice po M co, .slice (some ⟨w5.heap.size, 0, none⟩) 1 1]).run Tryz.prog (w5.alloc (.cells #[.string bs] 9)) = .ok (.slice p7 (M + 1) c7) w7 := e7
        have o8 : StO w3.heap.size w7 (.slice p7 (M + 1) c7) (xs ++ [s]) := by rw [← hbs'.out]; exact o7
        have o9 := Lib.hid o8
        have b9 := Lib.hid ((hb6.out.trans (hal.mono hb6.out.size)).trans b7)
        have hxl : (xs ++ [s]).length = M + 1 := by rw [List.length_append, hM'.out]; rfl
        have hxl' := Lib.hid hxl
        clear hf2 hfs' ho hal hX6 hX7 o7 b7 o8 hxl
        go_wp2_with fail
        go_roundw
        case rel => exact ⟨k + 1, p7, c7, M + 1, xs ++ [s], by go_num, by omega, rfl, hxl'.out, by omega, hf3.out, o9.out, b9.out⟩
        case measure => simp [intOf]; omega
    · obtain rfl : k = N := by omega
      rw [List.take_of_length_le (Nat.le_of_eq hN'.out)] at hfil
      have hfil2 : extraP x num l = xs := hfil
      have hR : ExtraPost w.heap.size w (extraP x num l) (.returned (.slice po M co)) wo := by
        rw [hfil2]
        exact ⟨po, co, by rw [hM], by rw [hM]; exact hX.mono hb4.out.size, hBw⟩
      have hR' := Lib.hid hR
      clear hR hfil2 hfil hX hb hBw hbv
      go_wp2_with fail
      go_ret
      exact hR'.out
theorem OkL.syncDir {r : RD} {c : Nat} (h : OkL r c) : r.syncDirE = 0 ∧ OkL r.syncDir c ∧ r.syncDir.dir = r.dir := by
  obtain ⟨h1, h2, h3, _, _⟩ := h.ok.syncDir
  have hd : r.syncDir.dir = r.dir := by
    unfold RD.syncDir
    rw [if_neg (by rw [h.ok.up]; simp), h.ok.burns, if_pos rfl, h.ok.burn]
  exact ⟨h1, ⟨h2, fun n hn => h.names n (by rw [hd] at hn; exact hn), fun s l e => h.view s l (by rw [h3] at e; exact e)⟩, hd⟩
/-- the disk when what doesn't count is gone -/
def CleanPost (w0 w : World) (L : Nat → Prop) (D g : Nat) (rp rr : RD) (m c : Nat) (xs : List (List UInt8)) (e : Ending) (w' : World) : Prop :=
  ∃ r', e = .returned (.int .i64 0) ∧ TwoPost w0 w L D g r' rr (m + xs.length + 1) w' ∧ OkL r' c ∧ r'.dir = rp.dir.filter fun n => !xs.contains n.1
set_option maxHeartbeats 2000000 in
set_option maxRecDepth 100000 in
theorem clean_calls {w0 w : World} {L : Nat → Prop} {D g m c : Nat} {rp rr : RD} (h : Two w0 w L D g rp rr m) (hm : m + (rp.list).length + 1 < 4000) (hs : StdF w) (hok : OkL rp c) (hl : ∀ s ∈ rp.list, s.length ≤ 10000000) (pv : Option Addr) (cv : Nat) (x : Ver) (num : Int) (hx : VerIs w (Ver.agg pv cv x) x) :
    Calls Tryz.prog 32 #[.pointer (some ⟨D, 0, none⟩), Ver.agg pv cv x, .int .i64 num] w (CleanPost w0 w L D g rp rr m c (extraP x num rp.list)) := by
  have hB1 : Below w.heap.size w (w.alloc (.cells (Ver.cellsA pv cv x) 30)) := (Below.refl _ w).alloc (Nat.le_refl _) _
  have hE := extra_calls (h.later hB1) (by omega) (hs.next hB1) hl pv cv x num (hx.later hB1)
  have cV := (Blk.new w 30 (Ver.cellsA pv cv x)).cell
  have hsub : ∀ s ∈ extraP x num rp.list, s ∈ rp.dir.map Prod.fst := fun s hs => by
    rw [← list_up hok.ok]; exact (List.mem_filter.1 hs).1
  have hnd : (extraP x num rp.list).Nodup := (List.filter_sublist).nodup (list_nodup hok.ok)
  have hle : (extraP x num rp.list).length ≤ rp.list.length := List.length_filter_le _ _
  have hls : ∀ s ∈ extraP x num rp.list, s.length ≤ 10000000 := fun s hs => hl s (List.mem_filter.1 hs).1
  obtain ⟨xs, hxs⟩ : ∃ xs, extraP x num rp.list = xs := ⟨_, rfl⟩
  rw [hxs] at hE hsub hnd hle hls ⊢
  obtain ⟨N, hN⟩ : ∃ N, xs.length = N := ⟨_, rfl⟩
  have hE' := Lib.hid hE
  have hB1' := Lib.hid hB1
  have h' := Lib.hid h
  have hsub' := Lib.hid hsub
  have hnd' := Lib.hid hnd
  have hls' := Lib.hid hls
  have hok' := Lib.hid hok
  have hmN : m + N + 1 < 4000 := by omega
  have hN' := Lib.hid hN
  clear hE hB1 h hsub hnd hls hok hx hl hs hxs hle hm hN
  go_enter Tryz.func32, Tryz.ntmps32
  go_wp2_with fail
  refine hE'.out.mono ?_
  rintro e w3 ⟨p, c3, rfl, hO, hb3⟩
  have hb4 := hB1'.out.trans (hb3.mono hB1'.out.size)
  have hT0 : Two w0 w3 (fun j => L j ∨ (w.heap.size ≤ j ∧ j < w3.heap.size)) D g rp rr m := h'.out.hold hb4 fun j hj => hj.elim .inl fun e => .inr (.inl e)
  have hT0' := Lib.hid hT0
  have hOb : ∀ j, (Value.slice p xs.length c3).ownBlock = some j → w.heap.size ≤ j ∧ j < w3.heap.size := fun j hj => by
    have h1 := hO.lt j hj
    have h2 := hB1'.out.size
    exact ⟨by omega, h1.2⟩
  have hOb' := Lib.hid hOb
  have hO' := Lib.hid hO
  have hb4' := Lib.hid hb4
  rw [hN'.out] at hO' hOb' ⊢
  clear hO hOb hb3 hb4 hT0 cV
  go_wp2_with fail
  go_loopw [17] (fun i wr => ∃ (k : Nat) (r' : RD), i = .int .i64 k ∧ k ≤ N ∧ OkL r' c ∧ (r'.dir = rp.dir.filter fun n => !(xs.take k).contains n.1) ∧ Two w0 wr (fun j => L j ∨ (w.heap.size ≤ j ∧ j < w3.heap.size)) D g r' rr (m + k) ∧ Keeps (fun j => ¬ (L j ∨ (w.heap.size ≤ j ∧ j < w3.heap.size))) w3 wr) (fun i _ => N - (intOf i).toNat)
  case atStart => exact ⟨0, rp, rfl, Nat.zero_le _, hok'.out, (List.filter_eq_self.2 fun n _ => by simp).symm, hT0'.out, Keeps.refl _ _⟩
  case round =>
    obtain ⟨wo, rfl⟩ : ∃ wo : World, wo = wr := ⟨_, rfl⟩
    obtain ⟨k, r', rfl, hk, hr', hd, hT, hK⟩ := hrel
    by_cases hlt : k < N
    · obtain ⟨s, hs⟩ : ∃ t, xs[k]? = some t := ⟨_, List.getElem?_eq_getElem (by rw [hN'.out]; exact hlt)⟩
      have hOk := hO'.out.keeps hK fun j hj e => e (.inr (hOb'.out j hj))
      obtain ⟨gs, bs, rfl, _, hgl, hlc, q0, hbs⟩ := hOk.cell hs
      obtain ⟨c1, c2, c3'⟩ := clean_step hr' hd hnd'.out hs (hsub'.out s (List.mem_of_getElem? hs))
      have hC := p_remove hT (by omega) bs (by rw [Lib.size_eq, hbs]; have := hls'.out s (List.mem_of_getElem? hs); unfold maxLen; omega)
      rw [hbs, c1] at hC
      have hC' := Lib.hid hC
      have hK' := Lib.hid hK
      have c2' := Lib.hid c2
      have c3'' := Lib.hid c3'
      have n1 : 0 < N := by omega
      clear hC hT hK hr' hd c1 c2 c3' hs hOk hbs
      go_wp2_with fail
      (with_reducible refine hC'.out.mono ?_)
      rintro e w5 ⟨rfl, hP⟩
      have hT5 := Lib.hid hP.1
      have hK5 := Lib.hid (hK'.out.trans hP.2)
      clear hP hC' hK' q0
      go_wp2_with fail
      go_roundw
      case rel => exact ⟨k + 1, r'.remove s, by go_num, by omega, c2'.out, c3''.out, hT5.out, hK5.out⟩
      case measure => simp [intOf]; omega
    · obtain rfl : k = N := by omega
      rw [List.take_of_length_le (Nat.le_of_eq hN'.out)] at hd
      have hfin : ∀ w' r2 m2, m2 ≤ m + k + 1 → Two w0 w' (fun j => L j ∨ (w.heap.size ≤ j ∧ j < w3.heap.size)) D g r2 rr m2 → Keeps (fun j => ¬ (L j ∨ (w.heap.size ≤ j ∧ j < w3.heap.size))) w3 w' → TwoPost w0 w L D g r2 rr (m + k + 1) w' := fun w' r2 m2 hm2 hT hK =>
        ⟨(hT.less (fun j => .inl)).more hm2, (Keeps.of_below hb4'.out).trans (hK.mono fun j _ e hj => e (.inl hj))⟩
      have hfin' := Lib.hid hfin
      have hT' := Lib.hid hT
      have hK' := Lib.hid hK
      have hr'' := Lib.hid hr'
      have hd' := Lib.hid hd
      clear hfin hT hK hr' hd
      by_cases h0 : k = 0
      · subst h0
        go_wp2_with fail
        go_ret
        exact ⟨r', rfl, by rw [hN'.out]; exact hfin'.out _ _ _ (by omega) hT'.out hK'.out, hr''.out, hd'.out⟩
      · have t1 : ((k : Int) == 0) = false := by rw [beq_eq_false_iff_ne]; omega
        obtain ⟨s1, s2, s3⟩ := hr''.out.syncDir
        have hC := p_syncDir hT'.out
        rw [s1] at hC
        have hC' := Lib.hid hC
        have s2' := Lib.hid s2
        have s3' := Lib.hid s3
        clear hC s1 s2 s3
        go_wp2_with fail
        (with_reducible refine hC'.out.mono ?_)
        rintro e w5 ⟨rfl, hP⟩
        have hP' := Lib.hid hP
        clear hP
        go_wp2_with fail
        go_ret
        exact ⟨r'.syncDir, rfl, by rw [hN'.out]; exact hfin'.out _ _ _ (Nat.le_refl _) hP'.out.1 (hK'.out.trans hP'.out.2), s2'.out, by rw [s3'.out]; exact hd'.out⟩
end Go.Proofs.YtabcdodjkfknlaaGreatDoor
namespace Go.Proofs.YtabcdodjkfknlaaGreatDoor
open Go.RowKit Go.Maps Go.Shelf
attribute [local go_sem ↓] dapp_op dslK_op
attribute [local go_sem] Oper.semAt_some
/-- names as an argument -/
def rkN : RowK ByteArray := ⟨51, 9, 1, fun s => [.string s]⟩
theorem rkN_ok : rkN.Ok Tryz.prog where
  hs := Tryz.underlying51
  info := info_partsK info_str1 rfl (by decide)
  size := fun w => Tryz.sizeOf9 w
  pos := by decide
  len := fun _ => rfl
  one := fun a u hu => by simp [rkN] at hu; rw [hu]; rfl
theorem Bytes.blk_lt {w : World} {v : Value} {l : List UInt8} (h : Bytes w v l) : ∀ g, v.ownBlock = some g → l ≠ [] → g < w.heap.size := by
  intro g hg hne
  rcases h with (⟨e, _⟩ | ⟨g', o, c3, e, _, hc⟩) | ⟨a', c3, e, e'⟩
  · rw [e] at hg; cases hg
  · rw [e] at hg
    obtain rfl := Option.some.inj hg
    cases hx : l with
    | nil => exact absurd hx hne
    | cons x l' => exact cell_lt (hc 0 x (by rw [hx]; rfl))
  · exact absurd e' hne
theorem two_new' {w w1 w2 : World} (cap : Int) {O : Nat → Prop} (h1 : Disk w1 w.heap.size (w.heap.size + 2) O (Dk.new cap)) (b1 : Below w.heap.size w w1) (h2 : RDisk w2 w.heap.size w1.heap.size (fun j => j = w1.heap.size) (RD.new cap)) (b2 : Below w1.heap.size w1 w2) : Two w w2 (fun j => j < w.heap.size) (w.heap.size + 2) w1.heap.size (RD.new cap) (RD.new cap) 0 :=
  ⟨Dk.new cap, [], O, _, Dk.new_ok cap, h1.later b2, Sim.new cap, Nat.le_refl _, h2, RDok.new cap, fun j hj e => by have := (h1.lt j hj).2; omega, fun j hj => ⟨fun e => by have := (h1.lt j e).1; omega, fun e => by have := b1.size; omega, by have := b1.size; have := b2.size; omega⟩, b1.trans (b2.mono b1.size)⟩
/-- the names in plain -/
def namesOf (ns : List ByteArray) : List (List UInt8) := ns.map fun s => s.data.toList
def bothR (ns : List ByteArray) (fs : List (List UInt8)) : RD := layAll (RD.new 16777216) (namesOf ns) fs
theorem bothR_ok {ns : List ByteArray} {fs : List (List UInt8)} (h : ∀ f ∈ fs, f.length ≤ 1000) (hn : ns.length ≤ 20) : OkL (bothR ns fs) 20000 :=
  (layAll_ok (namesOf ns) fs _ 0 (OkL.new _) h).more (by unfold namesOf; rw [List.length_map]; omega)
theorem lay_next {r : RD} {ns : List (List UInt8)} {fs : List (List UInt8)} {k : Nat} {n : List UInt8} (h : ns[k]? = some n) : layAll r (ns.drop k) (fs.drop k) = layAll (layOne r n fs[k]?) (ns.drop (k + 1)) (fs.drop (k + 1)) := by
  rw [drop_next h]
  show layAll (layOne r n (fs.drop k).head?) (ns.drop (k + 1)) (fs.drop k).tail = _
  rw [List.head?_drop, List.tail_drop]
set_option maxHeartbeats 4000000 in
set_option maxRecDepth 100000 in
theorem both21_calls (p q : Option Addr) (c d : Nat) (ns : List ByteArray) (zs : List SlH) (fs : List (List UInt8)) (w : World) (hN : rkN.At w p ns) (hnl : ns.length ≤ 20) (hns : ∀ s ∈ ns, s.size ≤ maxLen) (hZ : rkB.At w q zs) (hF : BytesRow w zs fs) (hfl : ∀ f ∈ fs, f.length ≤ 1000) (hzl : zs.length ≤ maxLen) :
    Calls Tryz.prog 28 #[.slice p ns.length c, .slice q zs.length d] w fun e w' => ∃ D g, e = .returned (.tuple #[.pointer (some ⟨D, 0, none⟩), .pointer (some ⟨g, 0, none⟩)]) ∧ Two w w' (fun j => j < w.heap.size) D g (bothR ns fs) (bothR ns fs) 80 := by
  obtain ⟨N, hNN⟩ : ∃ N, ns.length = N := ⟨_, rfl⟩
  obtain ⟨M, hM⟩ : ∃ M, zs.length = M := ⟨_, rfl⟩
  obtain ⟨R, hR⟩ : ∃ R, bothR ns fs = R := ⟨_, rfl⟩
  rw [hNN] at hnl ⊢
  rw [hM] at hzl ⊢
  rw [hR]
  have hzl' : M ≤ 9223372036854775807 := hzl
  have hN' := Lib.hid hN
  have hns' := Lib.hid hns
  have hZ' := Lib.hid hZ
  have hF' := Lib.hid hF
  have hfl' := Lib.hid hfl
  have hNN' := Lib.hid hNN
  have hM' := Lib.hid hM
  have hR' := Lib.hid hR
  clear hN hns hZ hF hfl hNN hM hR hzl
  go_enter Tryz.func28, Tryz.ntmps28
  have hN1 := dnew_calls 16777216 w
  go_wp2_with fail
  refine hN1.mono ?_
  clear hN1
  rintro e w3 ⟨rfl, ⟨O3, h3⟩, b3⟩
  have hN2 := rnew_calls 16777216 w3 w.heap.size b3.size
  have h3' := Lib.hid h3
  clear h3
  go_wp2_with fail
  refine hN2.mono ?_
  clear hN2
  rintro e w4 ⟨rfl, h4, b4⟩
  have hT := two_new' 16777216 h3'.out b3 h4 b4
  have hT' := Lib.hid hT
  clear h3' h4 b3 b4 hT
  obtain ⟨D, hD⟩ : ∃ D, w.heap.size + 2 = D := ⟨_, rfl⟩
  obtain ⟨g, hg⟩ : ∃ g, w3.heap.size = g := ⟨_, rfl⟩
  rw [hD, hg] at hT'
  rw [hD, hg]
  clear hD hg
  go_wp2_with fail
  go_loopw [14] (fun i wr => ∃ (k : Nat) (r : RD), i = .int .i64 k ∧ k ≤ N ∧ R = layAll r ((namesOf ns).drop k) (fs.drop k) ∧ Two w wr (fun j => j < w.heap.size) D g r r (4 * k)) (fun i _ => N - (intOf i).toNat)
  case atStart => exact ⟨0, RD.new 16777216, rfl, Nat.zero_le _, by rw [List.drop_zero, List.drop_zero]; exact hR'.out.symm, hT'.out⟩
  case round =>
    clear hT'
    obtain ⟨k, r, rfl, hk, hlay, hT⟩ := hrel
    obtain ⟨wo, rfl⟩ : ∃ wo : World, wo = wr := ⟨_, rfl⟩
    by_cases hlt : k < N
    · obtain ⟨s, hs⟩ : ∃ t, ns[k]? = some t := ⟨_, List.getElem?_eq_getElem (by rw [hNN'.out]; exact hlt)⟩
      obtain ⟨a, rfl, hab, hc⟩ := (hN'.out.below hT.below) k s hs
      have hc0 := hc 0 _ rfl
      rw [show rkN.K = 1 from rfl, Nat.mul_one, Nat.add_zero] at hc0
      have hsn : (namesOf ns)[k]? = some s.data.toList := by unfold namesOf; rw [List.getElem?_map, hs]; rfl
      have hlay2 := Lib.hid (hlay.trans (lay_next (fs := fs) (r := r) hsn))
      have hsz := hns'.out s (List.mem_of_getElem? hs)
      have hC1 := Lib.hid (p_create hT (by omega) s hsz)
      have n1 : 0 < N := by omega
      clear hlay hT hs hsn hc
      go_wp2_with fail
      refine hC1.out.mono ?_
      rintro e w5 ⟨rfl, hP5⟩
      have hC2 := Lib.hid (r_create hP5.1 (by omega) s hsz)
      clear hP5 hC1 hc0
      go_wp2_with fail
      refine hC2.out.mono ?_
      rintro e w6 ⟨rfl, hP6⟩
      have hT6 := Lib.hid hP6.1
      clear hP6 hC2
      by_cases hkM : k < M
      · obtain ⟨z, hz⟩ : ∃ z, zs[k]? = some z := ⟨_, List.getElem?_eq_getElem (by rw [hM'.out]; exact hkM)⟩
        obtain ⟨f, hf, hBy⟩ := hF'.out.2 k z hz
        have hblk := hBy.blk_lt
        have hzW := fun W (hb : Below w.heap.size w W) => (hZ'.out.below hb) k z hz
        obtain ⟨a2, rfl, _, _⟩ := hZ'.out k z hz
        have hcell : ∀ W, Below w.heap.size w W → W.cell? (a2.add k) = some (.slice z.1 z.2.1 z.2.2) := fun W hb => by
          obtain ⟨a3, e3, _, hc3⟩ := hzW W hb
          obtain rfl := Option.some.inj e3
          have := hc3 0 _ rfl
          rwa [show rkB.K = 1 from rfl, Nat.mul_one, Nat.add_zero] at this
        obtain ⟨z1, z2, z3⟩ := z
        simp only at hBy hcell hblk
        have hfl2 := hfl'.out f (List.mem_of_getElem? hf)
        rw [hf] at hlay2
        have hz6 := hcell _ hT6.out.below
        have hC3 := Lib.hid (p_append hT6.out (by omega) s hsz (hBy.later hT6.out.below) (fun j hj hn => hblk j hj hn) (by omega))
        have hcell' := Lib.hid hcell
        have hBy' := Lib.hid hBy
        have hblk' := Lib.hid hblk
        have m1 : 0 < M := by omega
        clear hzW hcell hBy hblk hz hf
        go_wp2_with fail
        refine hC3.out.mono ?_
        rintro e w7 ⟨rfl, hP7⟩
        have hz7 := hcell'.out _ hP7.1.below
        have hC4 := Lib.hid (r_append hP7.1 (by omega) s hsz (hBy'.out.later hP7.1.below) (fun j hj hn => hblk'.out j hj hn) (by omega))
        clear hP7 hC3 hz6 hT6
        go_wp2_with fail
        refine hC4.out.mono ?_
        rintro e w8 ⟨rfl, hP8⟩
        have hT8 := Lib.hid hP8.1
        clear hP8 hC4 hz7
        go_wp2_with fail
        go_roundw
        case rel => exact ⟨k + 1, layOne r s.data.toList (some f), by go_num, by omega, hlay2.out, hT8.out.more (by omega)⟩
        case measure => simp [intOf]; omega
      · have hfn : fs[k]? = none := List.getElem?_eq_none (by rw [← hF'.out.1, hM'.out]; omega)
        rw [hfn] at hlay2
        have t2 : ¬ (k : Int) < (M : Int) := by omega
        clear hfn
        go_wp2_with fail
        go_roundw
        case rel => exact ⟨k + 1, layOne r s.data.toList none, by go_num, by omega, hlay2.out, hT6.out.more (by omega)⟩
        case measure => simp [intOf]; omega
    · obtain rfl : k = N := by omega
      have hlay2 := hlay
      rw [show (namesOf ns).drop k = [] from List.drop_eq_nil_of_le (by unfold namesOf; rw [List.length_map, hNN'.out]; exact Nat.le_refl _)] at hlay2
      have hRr : R = r := hlay2
      have hT' := Lib.hid hT
      have hRr' := Lib.hid hRr
      clear hlay hT hlay2 hRr
      go_wp2_with fail
      go_ret2
      exact ⟨D, g, rfl, by rw [hRr'.out]; exact hT'.out.more (by omega)⟩
end Go.Proofs.YtabcdodjkfknlaaGreatDoor
