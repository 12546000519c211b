/- Walk: the document's reading of a dump. -/
import Derived.Test.YtkmdlpkdoplpdaaDoorUL3
import Derived.Test.YtkmdlpkdoplpdaaDoorUM3
import Derived.Test.YtkmdlpkdoplpdaaDoorW12
import Derived.Test.YtkmdlpkdoplpdaaDoorW8
namespace Go.Proofs.YtkmdlpkdoplpdaaDoor
open Go.RowKit
attribute [local go_sem ↓] dapp_op
theorem refParse_p (s : ByteArray) (w : World) (hs : s.size ≤ maxLen) :
    Calls Tryd.prog 27 #[.string s] w fun e w' => e = .returned (parseV s) ∧ Below w.heap.size w w' := by
  rw [parse_eq]; exact refParse_calls s w hs
/-- what a line does to the document's reading: its error, tuples, end -/
theorem lineR_first {out : List Tup} {l : ByteArray} (h : l.data.toList = headL) : lineR out 1 false l = (0, out, false) := by
  unfold lineR; rw [if_neg (by decide), if_pos rfl, if_pos h]
theorem lineR_nofirst {out : List Tup} {l : ByteArray} (h : ¬ l.data.toList = headL) : lineR out 1 false l = (9, out, false) := by
  unfold lineR; rw [if_neg (by decide), if_pos rfl, if_neg h]
theorem lineR_done {out : List Tup} {k : Nat} {l : ByteArray} : lineR out k true l = (9, out, true) := by
  unfold lineR; rw [if_pos rfl]
theorem lineR_end {out : List Tup} {k : Nat} {l : ByteArray} (hk : 2 ≤ k) (h : l.data.toList = endL out.length) : lineR out k false l = (0, out, true) := by
  unfold lineR; rw [if_neg (by decide), if_neg (by omega), if_pos h]
theorem lineR_bad {out : List Tup} {k : Nat} {l : ByteArray} (hk : 2 ≤ k) (h : ¬ l.data.toList = endL out.length) (hp : parseOk l = false) : lineR out k false l = (9, out, false) := by
  unfold lineR; rw [if_neg (by decide), if_neg (by omega), if_neg h, if_pos hp]
theorem lineR_order {out : List Tup} {k : Nat} {l : ByteArray} (hk : 2 ≤ k) (h : ¬ l.data.toList = endL out.length) (hp : parseOk l = true) (hl : lastGe out (parseT l) = true) : lineR out k false l = (11, out, false) := by
  unfold lineR; rw [if_neg (by decide), if_neg (by omega), if_neg h, if_neg (by rw [hp]; decide), if_pos hl]
theorem lineR_add {out : List Tup} {k : Nat} {l : ByteArray} (hk : 2 ≤ k) (h : ¬ l.data.toList = endL out.length) (hp : parseOk l = true) (hl : lastGe out (parseT l) = false) : lineR out k false l = (0, out ++ [parseT l], false) := by
  unfold lineR; rw [if_neg (by decide), if_neg (by omega), if_neg h, if_neg (by rw [hp]; decide), if_neg (by rw [hl]; decide)]
/-- the line so far, and what is still to be read -/
def restB (line s : ByteArray) (k : Nat) : ByteArray := ⟨(line.data.toList ++ s.data.toList.drop k).toArray⟩
theorem restB_data (line s : ByteArray) (k : Nat) : (restB line s k).data.toList = line.data.toList ++ s.data.toList.drop k := rfl
theorem drop_get (s : ByteArray) (k : Nat) (h : k < s.size) : s.data.toList.drop k = s[k] :: s.data.toList.drop (k + 1) := by
  rw [List.drop_eq_getElem_cons (by rw [Lib.size_eq] at h; exact h)]; rfl
theorem ext1 (s : ByteArray) (k : Nat) (h : k < s.size) : (s.extract k (k + 1)).data.toList = [s[k]] := by
  rw [Lib.extract_data]
  rw [drop_get s k h]; simp
theorem restB_more {line s : ByteArray} {k : Nat} (h : k < s.size) : restB (line ++ s.extract k (k + 1)) s (k + 1) = restB line s k := by
  apply bytes_ext
  rw [restB_data, restB_data, drop_get s k h]
  show (line ++ s.extract k (k + 1)).data.toList ++ _ = _
  rw [ByteArray.data_append, Array.toList_append, ext1 s k h, List.append_assoc]; rfl
theorem restB_cut {line s : ByteArray} {k : Nat} (h : k < s.size) (hc : s[k] = 10) (hl : (10 : UInt8) ∉ line.data.toList) : cH 10 (restB line s k) = true ∧ cA 10 (restB line s k) = line ∧ cB 10 (restB line s k) = restB ⟨#[]⟩ s (k + 1) := by
  have e : cut1 10 (restB line s k).data.toList = (line.data.toList, s.data.toList.drop (k + 1), true) := by
    rw [restB_data, drop_get s k h, hc]; exact cut1_app 10 _ _ hl
  refine ⟨?_, ?_, ?_⟩
  · unfold cH; rw [e]
  · apply bytes_ext; rw [cA_data, e]
  · apply bytes_ext; rw [cB_data, e]; rfl
theorem restB_end {line s : ByteArray} : restB line s s.size = line := by
  apply bytes_ext
  rw [restB_data, List.drop_eq_nil_of_le (by rw [Lib.size_eq]; exact Nat.le_refl _), List.append_nil]
theorem restB_none {line : ByteArray} (hl : (10 : UInt8) ∉ line.data.toList) : ¬ cH 10 line = true := by
  unfold cH; rw [cut1_none 10 _ hl]; simp
/-- the state of the document's reading -/
structure RSt (s : ByteArray) (w : World) (R : List Tup × Nat × Int) (k : Nat) (line : ByteArray) (out : List Tup) (n : Nat) (d : Bool) (v : Value) (wr : World) : Prop where
  le : k ≤ s.size
  no : (10 : UInt8) ∉ line.data.toList
  sz : line.size ≤ k
  out1 : out.length + 1 ≤ n
  n1 : n ≤ k + 1
  said : dread out n d (restB line s k) = R
  own : TOwn w.heap.size wr v out
  below : Below w.heap.size w wr
theorem RSt.next {s : ByteArray} {w : World} {R : List Tup × Nat × Int} {k : Nat} {line : ByteArray} {out out' : List Tup} {n : Nat} {d d' : Bool} {v v' : Value} {wr wr' : World} (h : RSt s w R k line out n d v wr) (hlt : k < s.size) (hc : s[k] = 10) (hL : lineR out n d line = (0, out', d')) (hO : TOwn w.heap.size wr' v' out') (hB : Below w.heap.size w wr') : RSt s w R (k + 1) ⟨#[]⟩ out' (n + 1) d' v' wr' := by
  obtain ⟨c1, c2, c3⟩ := restB_cut hlt hc h.no
  have hs := h.said
  have hlen := lineR_len out n d line
  rw [hL] at hlen
  have h1 := h.out1
  have h2 := h.n1
  refine ⟨by omega, by simp, by simp [ByteArray.size], by simp at hlen; omega, by omega, ?_, hO, hB⟩
  rw [dread_yes c1 (by rw [c2, hL]), c2, c3, hL] at hs
  exact hs
theorem RSt.stop {s : ByteArray} {w : World} {R : List Tup × Nat × Int} {k : Nat} {line : ByteArray} {out out' : List Tup} {n : Nat} {d d' : Bool} {v : Value} {wr : World} {ee : Int} (h : RSt s w R k line out n d v wr) (hlt : k < s.size) (hc : s[k] = 10) (hL : lineR out n d line = (ee, out', d')) (hne : ee ≠ 0) : R = ([], n, ee) := by
  obtain ⟨c1, c2, c3⟩ := restB_cut hlt hc h.no
  have hs := h.said
  rw [dread_bad c1 (by rw [c2, hL]; exact hne), c2, hL] at hs
  exact hs.symm
theorem parseV_form (l : ByteArray) : ∃ (t : Tup) (er : Int), parseV l = .tuple #[.agg #[.string t.a, .string t.b, .string t.c, .string t.d, .string t.e, .string t.f], .int .i64 er] ∧ (parseOk l = true → t = parseT l ∧ er = 0) ∧ (parseOk l = false → er = 9) := by
  cases h : parseOk l
  · exact ⟨Tup.zero, 9, parseV_bad h, ⟨(fun e => by cases e), (fun _ => rfl)⟩⟩
  · exact ⟨parseT l, 0, parseV_ok h, ⟨(fun _ => ⟨rfl, rfl⟩), (fun e => by cases e)⟩⟩
theorem last_S2 {w4 : World} {r n b : Nat} {t u : Tup} (a4 : Blk w4 b 37 #[.string t.a, .string t.b, .string t.c, .string t.d, .string t.e, .string t.f]) (hr4 : r < w4.heap.size)
    (hx : w4.cell? ⟨r, (n - 1) * 6, none⟩ = some (.string u.a) ∧ w4.cell? ⟨r, (n - 1) * 6 + 1, none⟩ = some (.string u.b) ∧ w4.cell? ⟨r, (n - 1) * 6 + 2, none⟩ = some (.string u.c) ∧ w4.cell? ⟨r, (n - 1) * 6 + 3, none⟩ = some (.string u.d) ∧ w4.cell? ⟨r, (n - 1) * 6 + 4, none⟩ = some (.string u.e) ∧ w4.cell? ⟨r, (n - 1) * 6 + 5, none⟩ = some (.string u.f)) :
    ∀ w', Below w4.heap.size w4 w' → (w'.cell? ⟨r, (n - 1) * 6, none⟩ = some (.string u.a) ∧ w'.cell? ⟨r, (n - 1) * 6 + 1, none⟩ = some (.string u.b) ∧ w'.cell? ⟨r, (n - 1) * 6 + 2, none⟩ = some (.string u.c) ∧ w'.cell? ⟨r, (n - 1) * 6 + 3, none⟩ = some (.string u.d) ∧ w'.cell? ⟨r, (n - 1) * 6 + 4, none⟩ = some (.string u.e) ∧ w'.cell? ⟨r, (n - 1) * 6 + 5, none⟩ = some (.string u.f) ∧ ∀ i, w'.cell? ⟨b, i, none⟩ = (#[.string t.a, .string t.b, .string t.c, .string t.d, .string t.e, .string t.f] : Array Value)[i]?) := by
  intro w' hB
  obtain ⟨x0, x1, x2, x3, x4, x5⟩ := hx
  have hr : ∀ i, w'.cell? ⟨r, i, none⟩ = w4.cell? ⟨r, i, none⟩ := fun i => hB.cell (p := ⟨r, i, none⟩) hr4
  exact ⟨(hr _).trans x0, (hr _).trans x1, (hr _).trans x2, (hr _).trans x3, (hr _).trans x4, (hr _).trans x5, (a4.below hB a4.lt).cell⟩
set_option maxHeartbeats 4000000 in
set_option maxRecDepth 100000 in
theorem refRead_calls (s : ByteArray) (w : World) (hs : s.size ≤ 50000) :
    Calls Tryd.prog 12 #[.string s] w (ReadPost w (dread [] 1 false s)) := by
  obtain ⟨R, hR⟩ : ∃ R, dread [] 1 false s = R := ⟨_, rfl⟩
  rw [hR]
  have h0 : RSt s w R 0 ⟨#[]⟩ [] 1 false (.slice none 0 0) w := ⟨Nat.zero_le _, by simp, by simp [ByteArray.size], by simp, by simp, by
    rw [show restB ⟨#[]⟩ s 0 = s from bytes_ext (by rw [restB_data]; simp)]; exact hR, TOwn.nil _ _, Below.refl _ _⟩
  have h0' := Lib.hid h0
  clear hR h0
  go_enter Tryd.func12, Tryd.ntmps12
  go_wp2_with fail
  go_loopw [5, 6, 7, 8, 9] (fun v5 v6 v7 v8 v9 wr => ∃ (k : Nat) (line : ByteArray) (out : List Tup) (n : Nat) (d : Bool), v6 = .string line ∧ v7 = .int .i64 n ∧ v8 = .bool d ∧ v9 = .int .i64 k ∧ RSt s w R k line out n d v5 wr) (fun _ _ _ _ v9 _ => s.size - (intOf v9).toNat)
  case atStart => exact ⟨0, ⟨#[]⟩, [], 1, false, rfl, rfl, rfl, rfl, h0'.out⟩
  case round =>
    obtain ⟨k, line, out, n, d, rfl, rfl, rfl, rfl, hst⟩ := hrel
    have hle := hst.le
    have hsz := hst.sz
    have ho1 := hst.out1
    have hn1 := hst.n1
    obtain ⟨p, c, rfl⟩ := hst.own.slice
    by_cases hlt : k < s.size
    · by_cases hc : s[k] = 10
      · have hci : (s[k].toNat : Int) = 10 := by rw [hc]; rfl
        have hci2 : ((s[k].toNat : Int) != 10) = false := by rw [hci]; rfl
        obtain ⟨t, er, hPV, hP1, hP2⟩ := parseV_form line
        have hP := fun W => refParse_p line W (by unfold maxLen; omega)
        rw [hPV] at hP
        have hst' := Lib.hid hst
        have hP' := Lib.hid hP
        have hP1' := Lib.hid hP1
        have hP2' := Lib.hid hP2
        have hc' := Lib.hid hc
        clear hst hP hP1 hP2 hPV hc
        go_wp2_with fail
        refine (hP'.out _).mono ?_
        rintro e w2 ⟨rfl, hb2⟩
        have T2 := hst'.out.own.later hb2
        have hwz := hst'.out.below.size
        have B2 := hst'.out.below.trans (hb2.mono hwz)
        have hz2 := hb2.size
        have T3 := Lib.hid (T2.later ((Below.refl w2.heap.size w2).alloc (Nat.le_refl _) (.cells #[.string t.a, .string t.b, .string t.c, .string t.d, .string t.e, .string t.f] 37)))
        have B3 := Lib.hid (B2.alloc (by omega) (.cells #[.string t.a, .string t.b, .string t.c, .string t.d, .string t.e, .string t.f] 37))
        clear hb2 T2 B2 hP'
        cases d
        · by_cases hn : n = 1
          · subst hn
            by_cases hh : line.data.toList = headL
            · have he : (line.toList == [100, 117, 109, 112, 32, 49]) = true := by rw [Lib.toList_data, hh]; rfl
              have he2 : (!line.toList == [100, 117, 109, 112, 32, 49]) = false := by rw [he]; rfl
              have hnx := Lib.hid (hst'.out.next hlt hc'.out (lineR_first hh) T3.out B3.out)
              clear hh hst' T3 B3
              go_wp2_with fail
              go_roundw
              case rel => exact ⟨k + 1, _, out, 1 + 1, false, rfl, by go_num, rfl, by go_num, hnx.out⟩
              case measure => simp [intOf]; omega
            · have he : (line.toList == [100, 117, 109, 112, 32, 49]) = false := by rw [Lib.toList_data]; exact beq_false_of_ne hh
              have he2 : (!line.toList == [100, 117, 109, 112, 32, 49]) = true := by rw [he]; rfl
              obtain rfl := hst'.out.stop hlt hc'.out (lineR_nofirst hh) (by decide)
              clear hh hst'
              go_wp2_with fail
              go_ret3
              exact ⟨_, rfl, TOwn.nil _ _, B3.out⟩
          · have hn2 : 2 ≤ n := by omega
            have hnb : ((n : Int) == 1) = false := by rw [beq_eq_false_iff_ne]; omega
            have hD := fun W => decimal_calls out.length W (by omega)
            have hDl := dd_len100 (n := out.length) (by omega)
            obtain ⟨E, hE0, hE1⟩ : ∃ E : ByteArray, (⟨(Lib.decDigits out.length).toArray⟩ : ByteArray) = E ∧ E.data.toList = Lib.decDigits out.length := ⟨_, rfl, rfl⟩
            rw [hE0] at hD
            have hEs : E.size ≤ 100 := by rw [Lib.size_eq, hE1]; exact hDl
            have hEd : ((⟨#[101, 110, 100, 32]⟩ : ByteArray) ++ E).data.toList = endL out.length := by
              rw [ByteArray.data_append, Array.toList_append, hE1]; rfl
            have hD' := Lib.hid hD
            have hEd' := Lib.hid hEd
            clear hD hE0 hE1 hEd
            have hxt := Lib.hid (Blk.new w2 37 #[.string t.a, .string t.b, .string t.c, .string t.d, .string t.e, .string t.f])
            have hzt : w2.heap.size < (w2.alloc (.cells #[.string t.a, .string t.b, .string t.c, .string t.d, .string t.e, .string t.f] 37)).heap.size := by simp
            have hzt' := Lib.hid hzt
            clear hzt
            by_cases hh : line.data.toList = endL out.length
            · have heq : (line.toList == ((⟨#[101, 110, 100, 32]⟩ : ByteArray) ++ E).toList) = true := by rw [beq_iff_eq, Lib.toList_data, Lib.toList_data, hEd'.out]; exact hh
              have hL := Lib.hid (lineR_end (out := out) hn2 hh)
              clear hh hxt hzt'
              go_wp2_with fail
              refine (hD'.out _).mono ?_
              rintro e w4 ⟨rfl, hb4⟩
              have T4 := T3.out.later hb4
              have B4 := B3.out.trans (hb4.mono B3.out.size)
              have hnx := Lib.hid (hst'.out.next hlt hc'.out hL.out T4 B4)
              clear T4 B4 hb4 hst' T3 B3 hD' hEd' hL
              go_wp2_with fail
              go_roundw
              case rel => exact ⟨k + 1, _, out, n + 1, true, rfl, by go_num, rfl, by go_num, hnx.out⟩
              case measure => simp [intOf]; omega
            · have heq : (line.toList == ((⟨#[101, 110, 100, 32]⟩ : ByteArray) ++ E).toList) = false := by rw [beq_eq_false_iff_ne, Lib.toList_data, Lib.toList_data, hEd'.out]; exact hh
              cases hp : parseOk line
              · obtain rfl : er = 9 := hP2'.out hp
                obtain rfl := hst'.out.stop hlt hc'.out (lineR_bad hn2 hh hp) (by decide)
                clear hh hxt hzt' hp hst' hP1' hP2' hEd'
                go_wp2_with fail
                refine (hD'.out _).mono ?_
                rintro e w4 ⟨rfl, hb4⟩
                have B4 := Lib.hid (B3.out.trans (hb4.mono B3.out.size))
                clear hb4 T3 B3 hD'
                go_wp2_with fail
                go_ret3
                exact ⟨_, rfl, TOwn.nil _ _, B4.out⟩
              · obtain ⟨ht, rfl⟩ := hP1'.out hp
                cases hla : lastGe out (parseT line)
                · have hL := lineR_add (out := out) hn2 hh hp hla
                  rw [← ht] at hL hla
                  have hL' := Lib.hid hL
                  have hla' := Lib.hid hla
                  clear hh hp hP1' hP2' hEd' ht hL hla
                  go_wp2_with fail
                  refine (hD'.out _).mono ?_
                  rintro e w4 ⟨rfl, hb4⟩
                  by_cases he0 : out = []
                  · subst he0
                    have hgd : decide ((0 : Int) < 0) = false := rfl
                    have T4 := T3.out.later hb4
                    have B4 := Lib.hid (B3.out.trans (hb4.mono B3.out.size))
                    have a4 := hxt.out.below hb4 hzt'.out
                    have hz4 : w.heap.size ≤ w4.heap.size := B4.out.size
                    clear hb4 T3 B3 hD' hxt hzt'
                    obtain ⟨nn, hnn⟩ : ∃ nn, ([] : List Tup).length = nn := ⟨_, rfl⟩
                    have hn0 : nn = 0 := hnn.symm
                    subst hn0
                    have T4' := Lib.hid T4
                    have a4' := Lib.hid a4
                    clear T4 a4 hla' hnn
                    go_wp2_with fail
                    go_quiet (fail)
                    obtain ⟨w5, e5⟩ : ∃ w5, w4.drewN nq = w5 := ⟨_, rfl⟩
                    rw [e5]
                    have b5 : Below w4.heap.size w4 w5 := by rw [← e5]; exact bdrewN (Below.refl _ _) nq
                    have B5 := Lib.hid (B4.out.trans (b5.mono hz4))
                    have T5 := T4'.out.later b5
                    have a5 := a4'.out.below b5 a4'.out.lt
                    clear e5 T4' a4' B4 b5
                    have hz5 : w.heap.size ≤ w5.heap.size := B5.out.size
                    have T6 := T5.later ((Below.refl w5.heap.size w5).alloc (Nat.le_refl _) (.cells #[.string t.a, .string t.b, .string t.c, .string t.d, .string t.e, .string t.f] 37))
                    have x6 := Blk.new w5 37 #[.string t.a, .string t.b, .string t.c, .string t.d, .string t.e, .string t.f]
                    have B6 := B5.out.alloc hz5 (.cells #[.string t.a, .string t.b, .string t.c, .string t.d, .string t.e, .string t.f] 37)
                    obtain ⟨p7, c7, w7, e7, T7, K7⟩ := T6.app (t := t) (by simp; omega) x6 (by simp)
                    rw [show ([] : List Tup).length + 1 = 1 from rfl] at e7 T7
                    rw [show ([] : List Tup).length = 0 from rfl] at e7
                    have hlow := fun j hj => (T6.lt j hj).1
                    have B7 := Keeps.below_step B6 (by simp; omega) K7 fun j e => hlow j e
                    have hnx := Lib.hid (hst'.out.next hlt hc'.out hL'.out T7 B7)
                    have a5c := a5.cell
                    have ha5 := a5.lt
                    clear T6 x6 B6 T7 K7 hlow B7 hst' hL' T5 a5 B5 hc'
                    go_wp2_with fail
                    go_roundw
                    case rel => exact ⟨k + 1, _, [t], n + 1, false, rfl, by go_num, rfl, by go_num, hnx.out⟩
                    case measure => simp [intOf]; omega
                  · have hpos0 : out ≠ [] := he0
                    have T4 := T3.out.later hb4
                    have B4 := Lib.hid (B3.out.trans (hb4.mono B3.out.size))
                    have a4 := hxt.out.below hb4 hzt'.out
                    have hz4 : w.heap.size ≤ w4.heap.size := B4.out.size
                    clear hb4 T3 B3 hD' hxt hzt'
                    obtain ⟨u, hu, hge⟩ : ∃ u, out.getLast? = some u ∧ cmpT u t < 0 := by
                      have hla := hla'.out
                      unfold lastGe at hla
                      cases hu : out.getLast? with
                      | none => exact absurd (List.getLast?_eq_none_iff.1 hu) hpos0
                      | some u => rw [hu] at hla; exact ⟨u, rfl, by have := of_decide_eq_false hla; omega⟩
                    have hpos : 0 < out.length := by
                      cases out with
                      | nil => cases hu
                      | cons _ _ => simp
                    rw [List.getLast?_eq_getElem?] at hu
                    obtain ⟨r, c', hv, hrc, hBr, hr4, hcell⟩ := T4.cells hpos
                    obtain ⟨rfl, rfl⟩ : p = some ⟨r, 0, none⟩ ∧ c = c' := by injection hv with h1 _ h3; exact ⟨h1, h3⟩
                    have hC := Lib.hid (refCmp_calls u t)
                    have hS := Lib.hid (last_S2 (n := out.length) (u := u) a4 hr4 ⟨hcell (out.length - 1) 0 u hu (by omega), hcell (out.length - 1) 1 u hu (by omega), hcell (out.length - 1) 2 u hu (by omega), hcell (out.length - 1) 3 u hu (by omega), hcell (out.length - 1) 4 u hu (by omega), hcell (out.length - 1) 5 u hu (by omega)⟩)
                    have i0 : (0 : Int) < (out.length : Int) := by omega
                    have i1 : (0 : Int) ≤ (out.length : Int) - 1 := by omega
                    have i2 : (out.length : Int) - 1 < (out.length : Int) := by omega
                    have i3 : (1 : Int) ≤ (out.length : Int) := by omega
                    have i4 : IntKind.i64.wrap ((out.length : Int) - 1) = (out.length : Int) - 1 := IntWalk.i64_in _ (by omega)
                    have T4' := Lib.hid T4
                    have a4' := Lib.hid a4
                    have hu' := Lib.hid hu
                    clear hv hcell T4 a4 hu
                    go_wp2_with fail
                    go_region_held3 (fun w' => w'.cell? ⟨r, (out.length - 1) * 6, none⟩ = some (.string u.a) ∧ w'.cell? ⟨r, (out.length - 1) * 6 + 1, none⟩ = some (.string u.b) ∧ w'.cell? ⟨r, (out.length - 1) * 6 + 2, none⟩ = some (.string u.c) ∧ w'.cell? ⟨r, (out.length - 1) * 6 + 3, none⟩ = some (.string u.d) ∧ w'.cell? ⟨r, (out.length - 1) * 6 + 4, none⟩ = some (.string u.e) ∧ w'.cell? ⟨r, (out.length - 1) * 6 + 5, none⟩ = some (.string u.f) ∧ ∀ i, w'.cell? ⟨w2.heap.size, i, none⟩ = (#[.string t.a, .string t.b, .string t.c, .string t.d, .string t.e, .string t.f] : Array Value)[i]?) (first | exact hS.out _ (Below.refl _ _).drew | exact hS.out _ ((Below.refl _ _).drew.trans hb5)) (first | (go_at_call 26; refine (hC.out _).mono ?_; rintro e w5 ⟨rfl, hb5⟩))
                    have b5 := (Below.refl w4.heap.size w4).drew.trans hb5
                    have B5 := Lib.hid (B4.out.trans (b5.mono hz4))
                    have T5 := T4'.out.later b5
                    have a5 := a4'.out.below b5 a4'.out.lt
                    clear hb5 hS hC T4' a4' B4 b5 hla' hu'
                    have hz5 : w.heap.size ≤ w5.heap.size := B5.out.size
                    have T6 := T5.later ((Below.refl w5.heap.size w5).alloc (Nat.le_refl _) (.cells #[.string t.a, .string t.b, .string t.c, .string t.d, .string t.e, .string t.f] 37))
                    have x6 := Blk.new w5 37 #[.string t.a, .string t.b, .string t.c, .string t.d, .string t.e, .string t.f]
                    have B6 := B5.out.alloc hz5 (.cells #[.string t.a, .string t.b, .string t.c, .string t.d, .string t.e, .string t.f] 37)
                    obtain ⟨p7, c7, w7, e7, T7, K7⟩ := T6.app (t := t) (by simp; omega) x6 (by omega)
                    have hlow := fun j hj => (T6.lt j hj).1
                    have B7 := Keeps.below_step B6 (by simp; omega) K7 fun j e => hlow j e
                    have hnx := Lib.hid (hst'.out.next hlt hc'.out hL'.out T7 B7)
                    have a5c := a5.cell
                    have ha5 := a5.lt
                    clear T6 x6 B6 T7 K7 hlow B7 hst' hL' T5 a5 B5 hc'
                    go_wp2_with fail
                    go_roundw
                    case rel => exact ⟨k + 1, _, out ++ [t], n + 1, false, rfl, by go_num, rfl, by go_num, hnx.out⟩
                    case measure => simp [intOf]; omega
                · have hst2 := hst'.out.stop hlt hc'.out (lineR_order hn2 hh hp hla) (by decide)
                  subst hst2
                  rw [← ht] at hla
                  have hla' := Lib.hid hla
                  clear hh hp hst' hP1' hP2' hEd' hla ht
                  go_wp2_with fail
                  refine (hD'.out _).mono ?_
                  rintro e w4 ⟨rfl, hb4⟩
                  have T4 := T3.out.later hb4
                  have B4 := Lib.hid (B3.out.trans (hb4.mono B3.out.size))
                  have a4 := hxt.out.below hb4 hzt'.out
                  have hz4 : w.heap.size ≤ w4.heap.size := B4.out.size
                  clear hb4 T3 B3 hD' hxt hzt'
                  obtain ⟨u, hu, hge⟩ : ∃ u, out.getLast? = some u ∧ 0 ≤ cmpT u t := by
                    have hla := hla'.out
                    unfold lastGe at hla
                    cases hu : out.getLast? with
                    | none => rw [hu] at hla; cases hla
                    | some u => rw [hu] at hla; exact ⟨u, rfl, by have := of_decide_eq_true hla; omega⟩
                  have hpos : 0 < out.length := by
                    cases out with
                    | nil => cases hu
                    | cons _ _ => simp
                  rw [List.getLast?_eq_getElem?] at hu
                  obtain ⟨r, c', hv, hrc, hBr, hr4, hcell⟩ := T4.cells hpos
                  obtain ⟨rfl, rfl⟩ : p = some ⟨r, 0, none⟩ ∧ c = c' := by injection hv with h1 _ h3; exact ⟨h1, h3⟩
                  have hC := Lib.hid (refCmp_calls u t)
                  have hS := Lib.hid (last_S2 (n := out.length) (u := u) a4 hr4 ⟨hcell (out.length - 1) 0 u hu (by omega), hcell (out.length - 1) 1 u hu (by omega), hcell (out.length - 1) 2 u hu (by omega), hcell (out.length - 1) 3 u hu (by omega), hcell (out.length - 1) 4 u hu (by omega), hcell (out.length - 1) 5 u hu (by omega)⟩)
                  have i0 : (0 : Int) < (out.length : Int) := by omega
                  have i1 : (0 : Int) ≤ (out.length : Int) - 1 := by omega
                  have i2 : (out.length : Int) - 1 < (out.length : Int) := by omega
                  have i3 : (1 : Int) ≤ (out.length : Int) := by omega
                  have i4 : IntKind.i64.wrap ((out.length : Int) - 1) = (out.length : Int) - 1 := IntWalk.i64_in _ (by omega)
                  have T4' := Lib.hid T4
                  have a4' := Lib.hid a4
                  have hu' := Lib.hid hu
                  clear hv hcell T4 a4 hu
                  go_wp2_with fail
                  go_region_held3 (fun w' => w'.cell? ⟨r, (out.length - 1) * 6, none⟩ = some (.string u.a) ∧ w'.cell? ⟨r, (out.length - 1) * 6 + 1, none⟩ = some (.string u.b) ∧ w'.cell? ⟨r, (out.length - 1) * 6 + 2, none⟩ = some (.string u.c) ∧ w'.cell? ⟨r, (out.length - 1) * 6 + 3, none⟩ = some (.string u.d) ∧ w'.cell? ⟨r, (out.length - 1) * 6 + 4, none⟩ = some (.string u.e) ∧ w'.cell? ⟨r, (out.length - 1) * 6 + 5, none⟩ = some (.string u.f) ∧ ∀ i, w'.cell? ⟨w2.heap.size, i, none⟩ = (#[.string t.a, .string t.b, .string t.c, .string t.d, .string t.e, .string t.f] : Array Value)[i]?) (first | exact hS.out _ (Below.refl _ _).drew | exact hS.out _ ((Below.refl _ _).drew.trans hb5)) (first | (go_at_call 26; refine (hC.out _).mono ?_; rintro e w5 ⟨rfl, hb5⟩))
                  have B5 := Lib.hid (B4.out.trans ((Below.refl _ _).drew.trans (hb5.mono hz4)))
                  clear hb5 hS hC T4' a4' B4
                  go_wp2_with fail
                  go_ret3
                  exact ⟨_, rfl, TOwn.nil _ _, B5.out⟩
        · obtain rfl := hst'.out.stop hlt hc'.out lineR_done (by decide)
          clear hst'
          go_wp2_with fail
          go_ret3
          exact ⟨_, rfl, TOwn.nil _ _, B3.out⟩
      · have hci : ¬ (s[k].toNat : Int) = 10 := fun e => hc (by apply UInt8.toNat_inj.1; exact Int.ofNat.inj e)
        have hci2 : ((s[k].toNat : Int) != 10) = true := by rw [bne_iff_ne]; exact hci
        have hst2 : RSt s w R (k + 1) (line ++ s.extract k (k + 1)) out n d (.slice p out.length c) wr := ⟨by omega, by
          rw [ByteArray.data_append, Array.toList_append, ext1 s k hlt]
          intro h
          rcases List.mem_append.1 h with h | h
          · exact hst.no h
          · exact hc (List.mem_singleton.1 h).symm, by
          have : (s.extract k (k + 1)).size = 1 := by rw [ByteArray.size_extract]; omega
          rw [ByteArray.size_append]; omega, by omega, by omega, by rw [restB_more hlt]; exact hst.said, hst.own, hst.below⟩
        have hxs : (s.extract k (k + 1)).size = 1 := by rw [ByteArray.size_extract]; omega
        have hst2' := Lib.hid hst2
        clear hst hst2 hc
        go_wp2_with fail
        go_roundw
        case rel => exact ⟨k + 1, _, out, n, d, rfl, rfl, rfl, by go_num, hst2'.out⟩
        case measure => simp [intOf]; omega
    · obtain rfl : k = s.size := by omega
      have hsd := hst.said
      rw [restB_end] at hsd
      have hno := restB_none hst.no
      have hO := Lib.hid hst.own
      have hB := Lib.hid hst.below
      have hlz : line.toList = line.data.toList := Lib.toList_data line
      cases d
      · rw [dread_short hno] at hsd
        subst hsd
        clear hst hno hlz
        go_wp2_with fail
        go_ret3
        exact ⟨_, rfl, TOwn.nil _ _, hB.out⟩
      · by_cases he : line.data.toList = []
        · rw [dread_end he] at hsd
          subst hsd
          have he1 : line.toList = [] := by rw [hlz]; exact he
          have he2 : (!line.toList.isEmpty) = false := by rw [he1]; rfl
          clear hst hno hlz he
          go_wp2_with fail
          go_ret3
          exact ⟨_, rfl, hO.out, hB.out⟩
        · rw [dread_rest hno he] at hsd
          subst hsd
          have he2 : (!line.toList.isEmpty) = true := by
            rw [hlz]
            cases hh : line.data.toList with
            | nil => exact absurd hh he
            | cons _ _ => rfl
          clear hst hno hlz he
          go_wp2_with fail
          go_ret3
          exact ⟨_, rfl, TOwn.nil _ _, hB.out⟩
end Go.Proofs.YtkmdlpkdoplpdaaDoor
