/- The law DiskKeeps: the walk. -/
import Derived.Test.YtgclancneohpbaaDKeep
namespace Go.Proofs.Ytgclancneohpbaa
open Go.RowKit Go.Maps Go.Shelf
section
variable {w0 w w1 w' : World} {D g m : Nat} {r rr : RD}
theorem append_at2 (h : At w0 w D r m) (s : ByteArray) {v : Value} {b : List UInt8} (hv : Bytes w v b) (hn : ∀ g, v.ownBlock = some g → b ≠ [] → g < w0.heap.size) (hs : s.size ≤ maxLen) (hm : m < 4000) (hl : b.length ≤ 65536) :
    Calls Try.prog 25 #[.pointer (some ⟨D, 0, none⟩), .string s, v] w fun e w' => e = .returned (.int .i64 (r.appE s.data.toList b.length)) ∧ At w0 w' D (r.append s.data.toList b) (m + 1) := by
  obtain ⟨k, bl, ⟨h1, hb, O, hd⟩, h2, h3⟩ := h
  exact (append_calls k _ D O s v b w hd h1 (by omega) hs hb.size hv (fun j hj hne ho => by have := hd.lt j ho; have := hn j hj hne; omega) hl).mono fun e w' ⟨he, hg⟩ => ⟨by rw [he, h2.appE], _, bl, .goes hb hd hg (Dk.apped_ok h1 hl), h2.append _ _, Nat.le_trans (apped_room k _ _) (by omega)⟩
theorem crash_at2 (h : At w0 w D r m) {v : Value} {b : List UInt8} (hv : Bytes w v b) (hn : ∀ g, v.ownBlock = some g → b ≠ [] → g < w0.heap.size) (hm : m < 4000) (hl : b.length ≤ 65536) :
    Calls Try.prog 28 #[.pointer (some ⟨D, 0, none⟩), v] w fun e w' => e = .returned (.tuple #[]) ∧ At w0 w' D (r.crash b) m := by
  obtain ⟨k, bl, ⟨h1, hb, O, hd⟩, h2, h3⟩ := h
  have hz := hb.size
  exact (crash_calls k _ D O v b w hd h1 (by omega) hb.size hv (fun j hj hne => ⟨fun ho => by have := hd.lt j ho; have := hn j hj hne; omega, by have := hn j hj hne; omega⟩) (by omega)).mono fun e w' ⟨he, ns, hN, hl, hg⟩ => ⟨he, _, bl, .goes hb hd hg (Dk.crashed_ok h1 (by omega) b ns hl hd.sound.1), h2.crash hd.sound.1 hN, h3⟩
/-- a disk of its own, and the document's beside it -/
theorem At.two (h : At w0 w D r m) (hb : Below w.heap.size w w') {O2 : Nat → Prop} (hr : RDisk w' w0.heap.size g O2 rr) (hO : ∀ j, O2 j → w.heap.size ≤ j) (hk : RDok rr m) {L : Nat → Prop} (hL : ∀ j, L j → j < w0.heap.size ∨ (w.heap.size ≤ j ∧ j < w'.heap.size ∧ ¬ O2 j)) : Two w0 w' L D g r rr m := by
  obtain ⟨k, bl, ⟨h1, hb0, O, hd⟩, h2, h3⟩ := h
  have hz := hb.size
  have hz0 := hb0.size
  refine ⟨k, bl, O, O2, h1, hd.later hb, h2, h3, hr, hk, fun j hj e => by have := hd.lt j hj; have := hO j e; omega, fun j hj => ?_, hb0.trans (hb.mono hz0)⟩
  rcases hL j hj with e | ⟨e1, e2, e3⟩
  · exact ⟨fun ho => by have := hd.lt j ho; omega, fun ho => by have := hO j ho; omega, by omega⟩
  · exact ⟨fun ho => by have := hd.lt j ho; omega, e3, e2⟩
theorem Two.at_ {L : Nat → Prop} (h : Two w0 w L D g r rr m) : At w0 w D r m := by
  obtain ⟨k, bl, O, O2, t⟩ := h
  exact ⟨k, bl, ⟨t.ok, t.below, O, t.disk⟩, t.sim, t.room⟩
end
theorem Bytes.pre {w : World} {p : Option Addr} {c : Nat} {l b : List UInt8} (h : Bytes w (.slice p l.length c) l) (hb : b <+: l) : Bytes w (.slice p b.length c) b := by
  obtain ⟨t, rfl⟩ := hb
  rcases h with (⟨h0, h⟩ | ⟨g, o, c', h0, hc, h⟩) | ⟨a, c', h0, h⟩
  · obtain ⟨rfl, rfl⟩ := List.append_eq_nil_iff.1 h
    exact .inl (.inl ⟨h0, rfl⟩)
  · injection h0 with e1 _ e3
    subst e1 e3
    refine .inl (.inr ⟨g, o, c, rfl, by rw [List.length_append] at hc; omega, fun i x hx => h i x ?_⟩)
    rw [List.getElem?_append_left (List.getElem?_eq_some_iff.1 hx).1]; exact hx
  · obtain ⟨rfl, rfl⟩ := List.append_eq_nil_iff.1 h
    injection h0 with e1 _ e3
    subst e1
    exact .inr ⟨a, c, rfl, rfl⟩
theorem k9_ne (k c : Nat) : (((k : Nat) : Int) % 9 != (c : Int)) = !decide (k % 9 = c) := by
  rw [Bool.eq_iff_iff]; simp; omega
theorem k9_eq (k c : Nat) : (((k : Nat) : Int) % 9 == (c : Int)) = decide (k % 9 = c) := by
  rw [Bool.eq_iff_iff]; simp; omega
theorem kept_eq (s : ByteArray) : (s.toList == [107, 101, 112, 116]) = decide (s.data.toList = kept) := by
  rw [Lib.toList_data, Bool.eq_iff_iff, beq_iff_eq, decide_eq_true_iff]; exact Iff.rfl
theorem kept_str : (⟨#[107, 101, 112, 116]⟩ : ByteArray).data.toList = kept := rfl
set_option maxHeartbeats 8000000 in
set_option maxRecDepth 100000 in
theorem diskKeeps_calls (vb : Value) (b : List UInt8) (l : List LAct) (p : Option Addr) (c : Nat) (vk : Value) (kp : List UInt8) (w : World) (hvb : Bytes w vb b) (hvbL : ∀ j, vb.ownBlock = some j → b ≠ [] → j < w.heap.size) (hbl : b.length ≤ maxLen) (hvk : Bytes w vk kp) (hvkL : ∀ j, vk.ownBlock = some j → kp ≠ [] → j < w.heap.size) (hkl : kp.length ≤ maxLen)
    (hl : l.length ≤ maxLen) (hh : holdsL w p 5 LAct.cells l) (hf : ∀ x ∈ l, x.fits w) :
    Calls Try.prog 10 #[vb, .slice p l.length c, vk] w fun e w' => e = .returned (.bool true) ∧ Below w.heap.size w w' := by
  obtain ⟨pb, cb, rfl⟩ := hvb.slice
  obtain ⟨pk, ck, rfl⟩ := hvk.slice
  have hvb' := Lib.hid hvb
  have hvk' := Lib.hid hvk
  have hvbL' := Lib.hid hvbL
  have hvkL' := Lib.hid hvkL
  have hh' := Lib.hid hh
  have hf' := Lib.hid hf
  have hF := fixed01_calls w
  have hF' := Lib.hid hF
  clear hF hf hvb hvk hvbL hvkL
  go_enter Try.func10, Try.ntmps10
  go_wp2_with fail
  refine hF'.out.mono ?_
  clear hF'
  rintro e w1 ⟨rfl, B1⟩
  have hW := few01_calls l p c w1 hl (hh.below (Nat.le_refl _) B1) (fun x hx => (hf'.out x hx).later B1)
  have hW' := Lib.hid hW
  clear hh hW
  unfold maxLen at hl hbl hkl
  go_wp2_with fail
  refine hW'.out.mono ?_
  clear hW'
  rintro e w2 ⟨rfl, hb2⟩
  have B2 := B1.trans (hb2.mono B1.size)
  have z2 := B2.size
  clear B1 hb2
  cases hfew : lfew l
  · go_wp2
    go_ret
    exact ⟨rfl, B2⟩
  by_cases hb300 : b.length ≤ 300
  case neg =>
    go_wp2
    go_ret
    exact ⟨rfl, B2⟩
  by_cases hk300 : kp.length ≤ 300
  case neg =>
    go_wp2
    go_ret
    exact ⟨rfl, B2⟩
  have h120 : l.length ≤ 120 := by
    unfold lfew at hfew
    rw [Bool.and_eq_true] at hfew
    exact of_decide_eq_true hfew.2
  have h300 : ∀ x ∈ l, x.bytes.length ≤ 300 := fun x hx => by
    unfold lfew at hfew
    rw [Bool.and_eq_true, List.all_eq_true] at hfew
    have := hfew.1 x hx
    unfold LAct.few at this
    rw [Bool.and_eq_true] at this
    exact of_decide_eq_true this.1
  have h300' := Lib.hid h300
  clear h300
  have hN1 := new_at 16777216 w2
  rw [k_new] at hN1
  go_wp2_with fail
  refine hN1.mono ?_
  clear hN1
  rintro e w3 ⟨rfl, h3⟩
  have c3 := create_at h3 ⟨#[107, 101, 112, 116]⟩ (by decide) (by omega)
  rw [kept_str, k_create.1, k_create.2] at c3
  have c3' := Lib.hid c3
  clear c3 h3
  go_wp2_with fail
  refine c3'.out.mono ?_
  rintro e w4 ⟨rfl, h4⟩
  have c4 := append_at2 h4 ⟨#[107, 101, 112, 116]⟩ (hvb'.out.later (B2.trans (h4.below.mono z2))) (fun j hj hn => by have := hvbL'.out j hj hn; omega) (by decide) (by omega) (by omega)
  rw [kept_str, (k_append hb300).1, (k_append hb300).2] at c4
  have c4' := Lib.hid c4
  clear c4 h4 c3'
  go_wp2_with fail
  refine c4'.out.mono ?_
  rintro e w5 ⟨rfl, h5⟩
  have c5 := sync_at h5 ⟨#[107, 101, 112, 116]⟩ (by decide)
  rw [kept_str, (k_sync b).1, (k_sync b).2] at c5
  have c5' := Lib.hid c5
  clear c5 h5 c4'
  go_wp2_with fail
  refine c5'.out.mono ?_
  rintro e w6 ⟨rfl, h6⟩
  have c6 := syncDir_at h6
  rw [(k_syncDir b).1, (k_syncDir b).2] at c6
  have c6' := Lib.hid c6
  clear c6 h6 c5'
  go_wp2_with fail
  refine c6'.out.mono ?_
  rintro e w7 ⟨rfl, h7⟩
  have h7' := Lib.hid h7
  have hI := Lib.hid (k_inv hb300)
  clear h7 c6'
  generalize w2.heap.size + 2 = D at *
  go_wp2_with fail
  go_loopw [13, 43] (fun _ i wr => ∃ (k : Nat) (r : RD), k ≤ l.length ∧ i = .int .i64 k ∧ KInv r (2 + 2 * k) b ∧ At w2 wr D r (2 + 2 * k)) (fun _ i _ => l.length - (intOf i).toNat)
  case atStart => exact ⟨0, _, Nat.zero_le _, rfl, hI.out, h7'.out⟩
  case round =>
    clear h7' hI
    obtain ⟨k, r, hk, rfl, hI, hA⟩ := hrel
    have hB := B2.trans (hA.below.mono z2)
    have hz := hB.size
    have hI' := Lib.hid hI
    have hA' := Lib.hid hA
    have zA := hA.below.size
    clear hI hA
    by_cases hlt : k < l.length
    · obtain ⟨x, hx⟩ : ∃ x, l[k]? = some x := ⟨_, List.getElem?_eq_getElem hlt⟩
      obtain ⟨a, bb, rfl, hab, hbb, q0, q1, q2, q3, q4⟩ := lact_at hh'.out (Nat.le_refl _) hB hx
      have hft := hf'.out x (List.mem_of_getElem? hx)
      have hxl := h300'.out x (List.mem_of_getElem? hx)
      obtain ⟨pv, cv, hvc⟩ := hft.v.slice
      rw [hvc] at q3
      have hkl9 := hft.kind
      clear hx
      have eA := kept_eq x.a
      have eB := kept_eq x.b
      have e1 : (((x.kind : Nat) : Int) % 9 != 1) = !decide (x.kind % 9 = 1) := k9_ne x.kind 1
      have e3 : (((x.kind : Nat) : Int) % 9 != 3) = !decide (x.kind % 9 = 3) := k9_ne x.kind 3
      have e8 : (((x.kind : Nat) : Int) % 9 == 8) = decide (x.kind % 9 = 8) := k9_eq x.kind 8
      by_cases hskip : (x.a.data.toList = kept ∧ x.kind % 9 ≠ 1 ∧ x.kind % 9 ≠ 3) ∨ x.b.data.toList = kept
      · have hend := (hA'.out.later ((Below.refl wr.heap.size wr).alloc (Nat.le_refl _) (.cells #[.int .u8 x.kind, .string x.a, .string x.b, .slice pv x.bytes.length cv, .int .i64 x.n] 64))).more (m' := 2 + 2 * (k + 1)) (by omega)
        have hend' := Lib.hid hend
        have hI2 := Lib.hid (hI'.out.more (m' := 2 + 2 * (k + 1)) (by omega))
        have hs : ∃ bA b1 b3 bB : Bool, decide (x.a.data.toList = kept) = bA ∧ decide (x.kind % 9 = 1) = b1 ∧ decide (x.kind % 9 = 3) = b3 ∧ decide (x.b.data.toList = kept) = bB ∧ ((bA && (!b1 && !b3)) || bB) = true := ⟨_, _, _, _, rfl, rfl, rfl, rfl, by simpa using hskip⟩
        obtain ⟨bA, b1, b3, bB, d1, d2, d3, d4, d5⟩ := hs
        rw [d1] at eA
        rw [d2] at e1
        rw [d3] at e3
        rw [d4] at eB
        clear hskip d1 d2 d3 d4 e8 hend hft hvc
        cases bA <;> cases b1 <;> cases b3 <;> cases bB <;> first
          | exact absurd d5 (by decide)
          | (go_wp2_with fail
             go_roundw
             case rel => exact ⟨k + 1, r, by omega, by go_num, hI2.out, hend'.out⟩
             case measure => simp [intOf]; omega)
      · obtain ⟨kd, hkd⟩ : ∃ kd, kd = if x.kind % 9 = 8 then 1 else x.kind := ⟨_, rfl⟩
        have hkdl : kd < 256 := by rw [hkd]; split <;> omega
        have hkd8 : kd % 9 ≠ 8 := by rw [hkd]; split <;> omega
        have hsp : LAct.spares ⟨kd, x.a, x.b, .slice pv x.bytes.length cv, x.bytes, x.n⟩ := by
          refine ⟨fun e => ?_, fun e => hskip (.inr e), hkd8, by show x.bytes.length ≤ _; omega, hft.n.2⟩
          have e' : x.a.data.toList = kept := e
          show kd % 9 = 1 ∨ kd % 9 = 3
          rw [hkd]
          split
          · exact .inl rfl
          · apply Classical.byContradiction
            intro hn
            exact hskip (.inl ⟨e', fun h1 => hn (.inl h1), fun h3 => hn (.inr h3)⟩)
        have hI2 := Lib.hid (hI'.out.step hsp)
        have BA : Below wr.heap.size wr (wr.alloc (.cells #[.int .u8 kd, .string x.a, .string x.b, .slice pv x.bytes.length cv, .int .i64 x.n] 64)).drew := ((Below.refl wr.heap.size wr).alloc (Nat.le_refl _) _).drew
        have bA := (Blk.new wr 64 #[.int .u8 kd, .string x.a, .string x.b, .slice pv x.bytes.length cv, .int .i64 x.n]).drew
        have hNew := rnew_calls 0 (wr.alloc (.cells #[.int .u8 kd, .string x.a, .string x.b, .slice pv x.bytes.length cv, .int .i64 x.n] 64)).drew w2.heap.size (by simp; omega)
        have hzn : (wr.alloc (.cells #[.int .u8 kd, .string x.a, .string x.b, .slice pv x.bytes.length cv, .int .i64 x.n] 64)).drew.heap.size = wr.heap.size + 1 := by simp
        rw [hzn] at hNew
        have hvw := hft.v.later hB
        rw [hvc] at hvw
        have hvlt : ∀ j, (Value.slice pv x.bytes.length cv).ownBlock = some j → x.bytes ≠ [] → j < w.heap.size := fun j hj hn => hft.lt j (by rw [hvc]; exact hj) hn
        have hDo : ∀ w5, RDisk w5 w2.heap.size (wr.heap.size + 1) (fun j => j = wr.heap.size + 1) (RD.new 0) → Below (wr.heap.size + 1) (wr.alloc (.cells #[.int .u8 kd, .string x.a, .string x.b, .slice pv x.bytes.length cv, .int .i64 x.n] 64)).drew w5 →
            Calls Try.prog 33 #[.pointer (some ⟨D, 0, none⟩), .pointer (some ⟨wr.heap.size + 1, 0, none⟩), .agg #[.int .u8 kd, .string x.a, .string x.b, .slice pv x.bytes.length cv, .int .i64 x.n]] w5 (DoPost w2 w5 (fun j => j = wr.heap.size ∨ ((Value.slice pv x.bytes.length cv).ownBlock = some j ∧ x.bytes ≠ [])) D (wr.heap.size + 1) r (RD.new 0) (2 + 2 * k) ⟨kd, x.a, x.b, .slice pv x.bytes.length cv, x.bytes, x.n⟩) := fun w5 h5 b5 => by
          have b5' : Below wr.heap.size wr w5 := BA.trans (b5.mono (by omega))
          have z5 := b5.size
          rw [hzn] at z5
          have hT := hA'.out.two b5' h5 (fun j hj => by omega) ((RDok.new 0).more (Nat.zero_le _)) (L := fun j => j = wr.heap.size ∨ ((Value.slice pv x.bytes.length cv).ownBlock = some j ∧ x.bytes ≠ [])) (fun j hj => by
            rcases hj with e | ⟨e1, e2⟩
            · exact .inr ⟨by omega, by omega, by omega⟩
            · exact .inl (by have := hvlt j e1 e2; omega))
          exact do_calls01 w2 w5 _ D (wr.heap.size + 1) r (RD.new 0) (2 + 2 * k) ⟨kd, x.a, x.b, .slice pv x.bytes.length cv, x.bytes, x.n⟩ hT ⟨hkdl, hft.a, hft.b, hvw.later b5', fun j hj hn => by have := hvlt j hj hn; omega, hft.len, hft.n⟩ (fun j hj hn => .inr ⟨hj, hn⟩) (by show x.bytes.length ≤ _; omega) (by omega) (fun s => by
            unfold RD.readB
            split
            · have := (hI'.out.ok.got (r.num s)).2
              have h2 : (2 + 2 * k) * 65536 ≤ 4000 * 65536 := Nat.mul_le_mul_right _ (by omega)
              omega
            · exact Nat.zero_le _)
        have lc := (Blk.new wr 64 #[.int .u8 kd, .string x.a, .string x.b, .slice pv x.bytes.length cv, .int .i64 x.n]).cell
        generalize hkz : ((kd : Nat) : Int) = kz at bA lc hNew hDo
        have hDo' := Lib.hid hDo
        have hNew' := Lib.hid hNew
        have hskip' := Lib.hid hskip
        have dB : decide (x.b.data.toList = kept) = false := decide_eq_false (fun e => hskip (.inr e))
        rw [dB] at eB
        clear hNew hDo hvlt hvw hsp hkd8 hkdl hft hvc hzn BA
        by_cases h8 : x.kind % 9 = 8
        · rw [if_pos h8] at hkd
          obtain rfl : kz = 1 := by rw [← hkz, hkd]; rfl
          clear hkz
          have dA : decide (x.a.data.toList = kept) = false := decide_eq_false (fun e => hskip (.inl ⟨e, by omega, by omega⟩))
          rw [decide_eq_true h8] at e8
          rw [dA] at eA
          clear h8 dA dB hskip e1 e3
          go_wp2_with fail
          go_region_held3 (fun w' => ∀ i', w'.cell? ⟨wr.heap.size, i', none⟩ = (#[.int .u8 1, .string x.a, .string x.b, .slice pv x.bytes.length cv, .int .i64 x.n] : Array Value)[i']?)
            (first | exact bA.cell | exact (bA.below b5 (Nat.lt_succ_self _)).cell | exact ((bA.below b5 (Nat.lt_succ_self _)).keeps h6.2 (fun e => e (.inl rfl))).cell)
            (first
              | (go_at_call 32; (with_reducible refine hNew'.out.mono ?_); rintro e w5 ⟨rfl, h5, b5⟩)
              | (go_at_call 33; (with_reducible refine (hDo'.out _ h5 b5).mono ?_); rintro e w6 ⟨bb2, rfl, _, h6⟩))
          have hAn := Lib.hid (h6.1.at_.more (m' := 2 + 2 * (k + 1)) (by omega))
          have hIn := Lib.hid (hI2.out.more (m' := 2 + 2 * (k + 1)) (by omega))
          clear h5 h6 b5 lc hDo' hNew' bA
          go_wp2_with fail
          go_roundw
          case rel => exact ⟨k + 1, _, by omega, by go_num, hIn.out, hAn.out⟩
          case measure => simp [intOf]; omega
        · rw [if_neg h8] at hkd
          obtain rfl : kz = (x.kind : Int) := by rw [← hkz, hkd]
          clear hkz hkd
          rw [decide_eq_false h8] at e8
          have hcase : (decide (x.a.data.toList = kept) = false) ∨ (decide (x.a.data.toList = kept) = true ∧ decide (x.kind % 9 = 1) = true) ∨ (decide (x.a.data.toList = kept) = true ∧ decide (x.kind % 9 = 1) = false ∧ decide (x.kind % 9 = 3) = true) := by
            by_cases hA : x.a.data.toList = kept
            · by_cases h1 : x.kind % 9 = 1
              · exact .inr (.inl ⟨decide_eq_true hA, decide_eq_true h1⟩)
              · by_cases h3 : x.kind % 9 = 3
                · exact .inr (.inr ⟨decide_eq_true hA, decide_eq_false h1, decide_eq_true h3⟩)
                · exact absurd (.inl ⟨hA, h1, h3⟩) hskip
            · exact .inl (decide_eq_false hA)
          clear h8 dB hskip
          rcases hcase with d1 | ⟨d1, d2⟩ | ⟨d1, d2, d3⟩
          · rw [d1] at eA
            clear d1 e1 e3
            go_wp2_with fail
            go_region_held3 (fun w' => ∀ i', w'.cell? ⟨wr.heap.size, i', none⟩ = (#[.int .u8 x.kind, .string x.a, .string x.b, .slice pv x.bytes.length cv, .int .i64 x.n] : Array Value)[i']?)
              (first | exact bA.cell | exact (bA.below b5 (Nat.lt_succ_self _)).cell | exact ((bA.below b5 (Nat.lt_succ_self _)).keeps h6.2 (fun e => e (.inl rfl))).cell)
              (first
                | (go_at_call 32; (with_reducible refine hNew'.out.mono ?_); rintro e w5 ⟨rfl, h5, b5⟩)
                | (go_at_call 33; (with_reducible refine (hDo'.out _ h5 b5).mono ?_); rintro e w6 ⟨bb2, rfl, _, h6⟩))
            have hAn := Lib.hid (h6.1.at_.more (m' := 2 + 2 * (k + 1)) (by omega))
            have hIn := Lib.hid (hI2.out.more (m' := 2 + 2 * (k + 1)) (by omega))
            clear h5 h6 b5 lc hDo' hNew' bA
            go_wp2_with fail
            go_roundw
            case rel => exact ⟨k + 1, _, by omega, by go_num, hIn.out, hAn.out⟩
            case measure => simp [intOf]; omega
          · rw [d1] at eA
            rw [d2] at e1
            clear d1 d2 e3
            go_wp2_with fail
            go_region_held3 (fun w' => ∀ i', w'.cell? ⟨wr.heap.size, i', none⟩ = (#[.int .u8 x.kind, .string x.a, .string x.b, .slice pv x.bytes.length cv, .int .i64 x.n] : Array Value)[i']?)
              (first | exact bA.cell | exact (bA.below b5 (Nat.lt_succ_self _)).cell | exact ((bA.below b5 (Nat.lt_succ_self _)).keeps h6.2 (fun e => e (.inl rfl))).cell)
              (first
                | (go_at_call 32; (with_reducible refine hNew'.out.mono ?_); rintro e w5 ⟨rfl, h5, b5⟩)
                | (go_at_call 33; (with_reducible refine (hDo'.out _ h5 b5).mono ?_); rintro e w6 ⟨bb2, rfl, _, h6⟩))
            have hAn := Lib.hid (h6.1.at_.more (m' := 2 + 2 * (k + 1)) (by omega))
            have hIn := Lib.hid (hI2.out.more (m' := 2 + 2 * (k + 1)) (by omega))
            clear h5 h6 b5 lc hDo' hNew' bA
            go_wp2_with fail
            go_roundw
            case rel => exact ⟨k + 1, _, by omega, by go_num, hIn.out, hAn.out⟩
            case measure => simp [intOf]; omega
          · rw [d1] at eA
            rw [d2] at e1
            rw [d3] at e3
            clear d1 d2 d3
            go_wp2_with fail
            go_region_held3 (fun w' => ∀ i', w'.cell? ⟨wr.heap.size, i', none⟩ = (#[.int .u8 x.kind, .string x.a, .string x.b, .slice pv x.bytes.length cv, .int .i64 x.n] : Array Value)[i']?)
              (first | exact bA.cell | exact (bA.below b5 (Nat.lt_succ_self _)).cell | exact ((bA.below b5 (Nat.lt_succ_self _)).keeps h6.2 (fun e => e (.inl rfl))).cell)
              (first
                | (go_at_call 32; (with_reducible refine hNew'.out.mono ?_); rintro e w5 ⟨rfl, h5, b5⟩)
                | (go_at_call 33; (with_reducible refine (hDo'.out _ h5 b5).mono ?_); rintro e w6 ⟨bb2, rfl, _, h6⟩))
            have hAn := Lib.hid (h6.1.at_.more (m' := 2 + 2 * (k + 1)) (by omega))
            have hIn := Lib.hid (hI2.out.more (m' := 2 + 2 * (k + 1)) (by omega))
            clear h5 h6 b5 lc hDo' hNew' bA
            go_wp2_with fail
            go_roundw
            case rel => exact ⟨k + 1, _, by omega, by go_num, hIn.out, hAn.out⟩
            case measure => simp [intOf]; omega
    · have hcr := crash_at2 hA'.out (hvk'.out.later hB) (fun j hj hn => by have := hvkL'.out j hj hn; omega) (by omega) (by omega)
      obtain ⟨f1, f2⟩ := hI'.out.crash kp
      have hcr' := Lib.hid hcr
      have f1' := Lib.hid f1
      have f2' := Lib.hid f2
      clear hcr f1 f2
      go_wp2_with fail
      refine hcr'.out.mono ?_
      rintro e w8 ⟨rfl, h8⟩
      have hrd := read_at h8 ⟨#[107, 101, 112, 116]⟩ (by omega) (by decide)
      rw [kept_str, f1'.out] at hrd
      have hrd' := Lib.hid hrd
      have h8' := Lib.hid h8
      clear hrd h8 hcr'
      go_wp2_with fail
      refine hrd'.out.mono ?_
      rintro e w9 ⟨v9, rfl, r9, b9⟩
      obtain ⟨p9, c9, rfl⟩ := own_slice r9
      have hpre := f2'.out
      have hle := hpre.length_le
      have hcap := own_cap' r9
      have hy1 := Bytes.pre (Bytes.of_own r9) hpre
      have B9 := B2.trans ((h8'.out.below.trans (b9.mono h8'.out.below.size)).mono z2)
      have hy2 := hvb'.out.later B9
      have hrun1 : ∀ nq, (convert 51 9 (.slice p9 b.length c9)).run Try.prog (w9.drewN nq) = .ok (.string ⟨b.toArray⟩) (w9.drewN nq) := fun nq => bytes_string (hy1.later (bdrewN (Below.refl _ _) nq))
      have hrun2 : ∀ nq, (convert 51 9 (.slice pb b.length cb)).run Try.prog (w9.drewN nq) = .ok (.string ⟨b.toArray⟩) (w9.drewN nq) := fun nq => bytes_string (hy2.later (bdrewN (Below.refl _ _) nq))
      have c0 : (0 : Int) ≤ (b.length : Int) := by omega
      have c1 : (b.length : Int) ≤ (c9 : Int) := by omega
      generalize (r.crash kp).readB kept = L at *
      clear hpre hy1 hy2 r9 b9 hrd' h8' hI' hA' f1' f2' hB hz zA hvb' hvk' hvbL' hvkL' hh' hf' h300'
      go_wp2_with fail
      go_quiet (fail)
      rename_i nq
      go_wp2_with fail
      go_ret
      exact ⟨rfl, bdrewN B9 nq⟩
end Go.Proofs.Ytgclancneohpbaa
