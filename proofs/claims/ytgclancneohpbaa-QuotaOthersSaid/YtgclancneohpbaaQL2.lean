/- The law QuotaOthers: the walk. -/
import Derived.Test.YtgclancneohpbaaQW6
import Derived.Test.YtgclancneohpbaaQAct
import Derived.Test.YtgclancneohpbaaQOth
namespace Go.Proofs.Ytgclancneohpbaa
open Go.RowKit
def meB : ByteArray := ⟨#[109, 101]⟩
theorem meL : meB.toList = [109, 101] := by decide +kernel
/-- two quotas in memory, in blocks of their own, all from B on -/
structure Pair (B : Nat) (w : World) (g b g' b' n n' : Nat) (q o : Qt) : Prop where
  one : Qat w g b n q
  two : Qat w g' b' n' o
  le : B ≤ g ∧ B ≤ b ∧ B ≤ g' ∧ B ≤ b'
  gg : g ≠ g'
  gb : g ≠ b'
  bg : b ≠ g'
  bb : b ≠ b'
theorem Pair.first {B : Nat} {w w' : World} {g b g' b' n n' m : Nat} {q q' o : Qt} (h : Pair B w g b g' b' n n' q o) (h1 : Qat w' g b m q') (hk : Keeps (Go.Proofs.Ytgclancneohpbaa.two g b) w w') : Pair B w' g b g' b' m n' q' o :=
  ⟨h1, h.two.keeps hk (by rintro (e | e); exact h.gg e.symm; exact h.bg e.symm) (by rintro (e | e); exact h.gb e.symm; exact h.bb e.symm), h.le, h.gg, h.gb, h.bg, h.bb⟩
theorem Pair.second {B : Nat} {w w' : World} {g b g' b' n n' m : Nat} {q o o' : Qt} (h : Pair B w g b g' b' n n' q o) (h1 : Qat w' g' b' m o') (hk : Keeps (Go.Proofs.Ytgclancneohpbaa.two g' b') w w') : Pair B w' g b g' b' n m q o' :=
  ⟨h.one.keeps hk (by rintro (e | e); exact h.gg e; exact h.gb e) (by rintro (e | e); exact h.bg e; exact h.bb e), h1, h.le, h.gg, h.gb, h.bg, h.bb⟩
theorem Pair.keeps {B : Nat} {w w' : World} {g b g' b' n n' : Nat} {q o : Qt} (h : Pair B w g b g' b' n n' q o) (hk : Keeps (fun _ => False) w w') : Pair B w' g b g' b' n n' q o :=
  ⟨h.one.keeps hk id id, h.two.keeps hk id id, h.le, h.gg, h.gb, h.bg, h.bb⟩
theorem Pair.swap {B : Nat} {w : World} {g b g' b' n n' : Nat} {q o : Qt} (h : Pair B w g b g' b' n n' q o) : Pair B w g' b' g b n' n o q :=
  ⟨h.two, h.one, ⟨h.le.2.2.1, h.le.2.2.2, h.le.1, h.le.2.1⟩, fun e => h.gg e.symm, fun e => h.bg e.symm, fun e => h.gb e.symm, fun e => h.bb e.symm⟩
/-- what is kept beside two quotas -/
structure Beside (B : Nat) (w0 w : World) (loc : Nat) (T : TypeId) (cs : Array Value) (g b g' b' : Nat) : Prop where
  blk : Blk w loc T cs
  below : Below B w0 w
  size : B ≤ w.heap.size
  n1 : loc ≠ g
  n2 : loc ≠ b
  n3 : loc ≠ g'
  n4 : loc ≠ b'
theorem Beside.swap {B : Nat} {w0 w : World} {loc : Nat} {T : TypeId} {cs : Array Value} {g b g' b' : Nat} (h : Beside B w0 w loc T cs g b g' b') : Beside B w0 w loc T cs g' b' g b := ⟨h.blk, h.below, h.size, h.n3, h.n4, h.n1, h.n2⟩
theorem Beside.first {B : Nat} {w0 w w' : World} {loc : Nat} {T : TypeId} {cs : Array Value} {g b g' b' : Nat} (h : Beside B w0 w loc T cs g b g' b') (hk : Keeps (Go.Proofs.Ytgclancneohpbaa.two g b) w w') (hg : B ≤ g) (hb : B ≤ b) : Beside B w0 w' loc T cs g b g' b' :=
  ⟨h.blk.keeps hk (by rintro (e | e); exact h.n1 e; exact h.n2 e), Keeps.below_step h.below h.size hk (by rintro k (rfl | rfl); exact hg; exact hb), Nat.le_trans h.size hk.size, h.n1, h.n2, h.n3, h.n4⟩
theorem take_first {B : Nat} {w0 w : World} {loc : Nat} {T : TypeId} {cs : Array Value} {g b g' b' n n' : Nat} {q o : Qt} (hP : Pair B w g b g' b' n n' q o) (hS : Beside B w0 w loc T cs g b g' b') (hn : n < maxLen) {s : ByteArray} (hs : s.size ≤ maxLen) (k t : Nat) (ht : t < 18446744073709551616) :
    Calls Try.prog 18 #[.pointer (some ⟨g, 0, none⟩), .string s, .int .u64 k, .int .u64 t] w fun e w' => e = .returned (.bool (q.enough s.data.toList k t)) ∧ Pair B w' g b g' b' (n + 1) n' (q.take s.data.toList k t) o ∧ Beside B w0 w' loc T cs g b g' b' := by
  refine (take_calls q g b n s k t w hP.one hn hs ht).mono ?_
  rintro e w' ⟨he, h1, hk⟩
  exact ⟨he, hP.first h1 hk, hS.first hk hP.le.1 hP.le.2.1⟩
/-- one behind the other -/
theorem take_both {B : Nat} {w0 w : World} {loc : Nat} {T : TypeId} {cs : Array Value} {g b g' b' n n' : Nat} {q o : Qt} (hP : Pair B w g b g' b' n n' q o) (hS : Beside B w0 w loc T cs g b g' b') (hn : n < maxLen) (hn' : n' < maxLen) {s : ByteArray} (hs : s.size ≤ maxLen) (k t : Nat) (ht : t < 18446744073709551616) :
    Calls Try.prog 18 #[.pointer (some ⟨g, 0, none⟩), .string s, .int .u64 k, .int .u64 t] w fun e w' => e = .returned (.bool (q.enough s.data.toList k t)) ∧ (∀ i, w'.cell? ⟨loc, i, none⟩ = cs[i]?) ∧
      Calls Try.prog 18 #[.pointer (some ⟨g', 0, none⟩), .string s, .int .u64 k, .int .u64 t] w' fun e w' => e = .returned (.bool (o.enough s.data.toList k t)) ∧ (∀ i, w'.cell? ⟨loc, i, none⟩ = cs[i]?) ∧ Pair B w' g b g' b' (n + 1) (n' + 1) (q.take s.data.toList k t) (o.take s.data.toList k t) ∧ Below B w0 w' := by
  refine (take_first hP hS hn hs k t ht).mono ?_
  rintro e w1 ⟨he, h1, h2⟩
  refine ⟨he, h2.blk.cell, (take_first h1.swap h2.swap hn' hs k t ht).mono ?_⟩
  rintro e w2 ⟨he, h1, h2⟩
  exact ⟨he, h2.blk.cell, h1.swap, h2.below⟩
set_option maxHeartbeats 4000000 in
set_option maxRecDepth 100000 in
theorem quotaOthers_calls (rate most : Nat) (l : List QAct) (p : Option Addr) (cap : Nat) (w : World) (hr1 : rate < 18446744073709551616) (hm1 : most < 18446744073709551616) (hl : l.length ≤ maxLen) (hh : holdsL w p 4 QAct.cells l) (hf : ∀ x ∈ l, x.fits) :
    Calls Try.prog 5 #[.int .u64 rate, .int .u64 most, .slice p l.length cap] w fun e w' => e = .returned (.bool true) ∧ Below w.heap.size w w' := by
  have hh' := Lib.hid hh
  have hF := fixed38_calls w
  go_enter Try.func5, Try.ntmps5
  go_wp2_with fail
  refine hF.mono ?_
  clear hF
  rintro e w1 ⟨rfl, B1⟩
  have hW := few38_calls l p cap w1 hl (hh.below (Nat.le_refl _) B1) hf
  have hW' := Lib.hid hW
  clear hh hW
  unfold maxLen at hl
  go_wp2_with fail
  refine hW'.out.mono ?_
  clear hW'
  rintro e w2 ⟨rfl, hb2⟩
  have B2 := B1.trans (hb2.mono B1.size)
  have z2 := B2.size
  clear B1 hb2
  cases hfew : qfew l
  · go_wp2
    go_ret
    exact ⟨rfl, B2⟩
  have h80 : l.length ≤ 80 := by
    unfold qfew at hfew
    rw [Bool.and_eq_true] at hfew
    exact of_decide_eq_true hfew.2
  have hN1 := qnew_calls rate most w2 hr1 hm1
  go_wp2_with fail
  refine hN1.mono ?_
  clear hN1
  rintro e w3 ⟨rfl, q3, hb3, hz3⟩
  have B3 := B2.trans (hb3.mono z2)
  have hN2 := qnew_calls rate most w3 hr1 hm1
  go_wp2_with fail
  refine hN2.mono ?_
  clear hN2
  rintro e w4 ⟨rfl, o4, hb4, hz4⟩
  have B4 := B3.trans (hb4.mono B3.size)
  have P4 : Pair w.heap.size w4 (w2.heap.size + 1) w2.heap.size (w3.heap.size + 1) w3.heap.size 0 0 (Qt.new rate most) (Qt.new rate most) :=
    ⟨q3.keeps (S := fun _ => False) (.of_below hb4) id id, o4, by omega, by omega, by omega, by omega, by omega⟩
  generalize w2.heap.size + 1 = G at *
  generalize w3.heap.size + 1 = G' at *
  generalize w2.heap.size = M at *
  generalize w3.heap.size = M' at *
  have S4 : QSame meB.data.toList (Qt.new rate most) (Qt.new rate most) := ⟨rfl, rfl, rfl, rfl⟩
  clear q3 o4 hb3 hb4 B3 B2
  generalize hlen : l.length = n at *
  have hlen' := Lib.hid hlen
  clear hlen
  go_wp2_with fail
  go_loopw [24] (fun i wr => ∃ (k : Nat) (m m' : Nat) (q o : Qt), k ≤ n ∧ m ≤ k ∧ m' ≤ k ∧ i = .int .i64 k ∧ Pair w.heap.size wr G M G' M' m m' q o ∧ QSame meB.data.toList q o ∧ Below w.heap.size w wr) (fun i _ => n - (intOf i).toNat)
  case atStart => exact ⟨0, 0, 0, _, _, Nat.zero_le _, Nat.le_refl _, Nat.le_refl _, rfl, P4, S4, B4⟩
  case round =>
    obtain ⟨k, m, m', q, o, hk, hmk, hmk', rfl, hP, hS, hB⟩ := hrel
    clear P4 S4 B4
    by_cases hlt : k < n
    · obtain ⟨x, hx⟩ : ∃ x, l[k]? = some x := ⟨_, List.getElem?_eq_getElem (by have := hlen'.out; omega)⟩
      obtain ⟨a, b, rfl, hab, hbb, q0, q1, q2, q3⟩ := qact_at hh'.out (Nat.le_refl _) hB hx
      have hft := hf x (List.mem_of_getElem? hx)
      have hz := hB.size
      clear hx
      obtain ⟨xa, xc, xn, xt⟩ := x
      obtain ⟨fc, fn, ft⟩ := hft
      simp only at fc fn ft q0 q1 q2 q3
      cases hme : xc.toList == meB.toList
      · have hne : xc.data.toList ≠ meB.data.toList := by
          rw [← Lib.toList_data, ← Lib.toList_data]
          intro e
          rw [e] at hme
          simp at hme
        have hme' : (xc.toList == [109, 101]) = false := by rw [← meL]; exact hme
        have bl := Blk.new wr 31 #[.bool xa, .string xc, .int .u64 xn, .int .u64 xt]
        have g1 := hP.one.lt
        have g2 := hP.two.lt
        have hPa := hP.keeps (w' := wr.alloc (.cells #[.bool xa, .string xc, .int .u64 xn, .int .u64 xt] 31)) ((Keeps.refl _ _).alloc _)
        have hBs : Beside w.heap.size w (wr.alloc (.cells #[.bool xa, .string xc, .int .u64 xn, .int .u64 xt] 31)) wr.heap.size 31 #[.bool xa, .string xc, .int .u64 xn, .int .u64 xt] G M G' M' := ⟨bl, hB.alloc hz _, by simp; omega, by omega, by omega, by omega, by omega⟩
        have ht := take_first hPa hBs (by unfold maxLen; omega) fc xn xt ft
        have ht' := Lib.hid ht
        clear ht hPa hBs bl
        go_wp2_with fail
        refine ht'.out.mono ?_
        clear ht'
        rintro e w5 ⟨rfl, hP5, hS5⟩
        have lc := hS5.blk.cell
        have hL := left_calls o G' M' m' ⟨#[109, 101]⟩ xt w5 hP5.two (by decide) ft
        have hL' := Lib.hid hL
        clear hL q0 q1 q2 q3
        go_wp2_with fail
        refine hL'.out.mono ?_
        clear hL'
        rintro e w6 ⟨rfl, o6, k6⟩
        have k6' := k6.mono (T := Go.Proofs.Ytgclancneohpbaa.two G' M') (fun _ _ e => .inl e)
        have hP6 := hP5.second o6 k6'
        have B6 := Keeps.below_step hS5.below hS5.size k6' (by rintro k (rfl | rfl); exact hP.le.2.2.1; exact hP.le.2.2.2)
        have S6 := hS.other hne xn xt
        clear lc hP5 hS5 o6 k6 k6'
        go_wp2
        go_roundw
        case rel => exact ⟨k + 1, m + 1, m', _, _, by omega, by omega, by omega, by go_num, hP6, S6, B6⟩
        case measure => simp [intOf]; omega
      · have hme' : (xc.toList == [109, 101]) = true := by rw [← meL]; exact hme
        go_wp2_with fail
        have bl := Blk.new wr 31 #[.bool xa, .string xc, .int .u64 xn, .int .u64 xt]
        have g1 := hP.one.lt
        have g2 := hP.two.lt
        obtain ⟨W0, eW, hPa, hBs⟩ : ∃ W0, wr.alloc (.cells #[.bool xa, .string xc, .int .u64 xn, .int .u64 xt] 31) = W0 ∧ Pair w.heap.size W0 G M G' M' m m' q o ∧ Beside w.heap.size w W0 wr.heap.size 31 #[.bool xa, .string xc, .int .u64 xn, .int .u64 xt] G M G' M' :=
          ⟨_, rfl, hP.keeps ((Keeps.refl _ _).alloc _), bl, hB.alloc hz _, by simp; omega, by omega, by omega, by omega, by omega⟩
        rw [eW]
        clear eW bl q0 q1 q2 q3
        have hPd := hPa.keeps (Keeps.refl _ W0).drew
        have hBd : Beside w.heap.size w W0.drew wr.heap.size 31 #[.bool xa, .string xc, .int .u64 xn, .int .u64 xt] G M G' M' := ⟨hBs.blk.drew, hBs.below.drew, hBs.size, hBs.n1, hBs.n2, hBs.n3, hBs.n4⟩
        have T1 := take_both (s := ⟨#[109, 101]⟩) hPd hBd (by unfold maxLen; omega) (by unfold maxLen; omega) (by decide) xn xt ft
        have T2 := take_both (s := ⟨#[109, 101]⟩) hPd.swap hBd.swap (by unfold maxLen; omega) (by unfold maxLen; omega) (by decide) xn xt ft
        have lc := hBs.blk.cell
        have eE : q.enough (⟨#[109, 101]⟩ : ByteArray).data.toList xn xt = o.enough (⟨#[109, 101]⟩ : ByteArray).data.toList xn xt := hS.enough xn xt
        have S6 := hS.take xn xt
        rw [eE] at T1 T2
        have T1' := Lib.hid T1
        have T2' := Lib.hid T2
        clear T1 T2 hPd hBd hBs hPa
        generalize o.enough (⟨#[109, 101]⟩ : ByteArray).data.toList xn xt = E at *
        go_region_held3 (fun w' => (∀ i, w'.cell? ⟨wr.heap.size, i, none⟩ = (#[.bool xa, .string xc, .int .u64 xn, .int .u64 xt] : Array Value)[i]?)) (first | go_keep | with_reducible assumption)
          (first
            | (go_at_call_of 18 (Value.pointer (some ⟨G', 0, none⟩)); with_reducible refine a2.mono ?_; rintro e w6 ⟨rfl, lc6, hP6, B6⟩)
            | (go_at_call_of 18 (Value.pointer (some ⟨G, 0, none⟩)); with_reducible refine b2.mono ?_; rintro e w6 ⟨rfl, lc6, hP6, B6⟩)
            | (go_at_call_of 18 (Value.pointer (some ⟨G, 0, none⟩)); with_reducible refine T1'.out.mono ?_; rintro e w5 ⟨rfl, lc5, a2⟩)
            | (go_at_call_of 18 (Value.pointer (some ⟨G', 0, none⟩)); with_reducible refine T2'.out.mono ?_; rintro e w5 ⟨rfl, lc5, b2⟩))
        all_goals
          clear T1' T2' lc
          go_wp2
          go_roundw
          case rel => first | exact ⟨k + 1, m + 1, m' + 1, _, _, by omega, by omega, by omega, by go_num, hP6, S6, B6⟩ | exact ⟨k + 1, m + 1, m' + 1, _, _, by omega, by omega, by omega, by go_num, hP6.swap, S6, B6⟩
          case measure => simp [intOf]; omega
    · go_wp2
      go_ret
      exact ⟨rfl, hB⟩
end Go.Proofs.Ytgclancneohpbaa
