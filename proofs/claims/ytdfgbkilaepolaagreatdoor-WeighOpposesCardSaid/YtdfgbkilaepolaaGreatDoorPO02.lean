/- Walk: conditions: the next token. Rows of any elements in memory: owned, read, appended to; what putting one in leaves. No program in sight. Walk: the document's signs of a text: the tokens, as rows. -/
import Derived.Test.YtdfgbkilaepolaaGreatDoorPO01
import Derived.Test.YtdfgbkilaepolaaGreatDoorShelfB
import Derived.Deep.QuietTactic
import Derived.BigQuiet
import Derived.RegionTactic
import Derived.BigRegion
import Derived.Outline
import Derived.Lib.IndexBytes
import Derived.Lib.IndexAny
import Derived.Test.YtdfgbkilaepolaaGreatDoorPW02
namespace Go.Proofs.YtdfgbkilaepolaaGreatDoor
open Go.RowKit
/-- a reader: its text, its place, the token ahead, how deep it is, is it bad? -/
def RdAt (w : World) (g : Nat) (s : ByteArray) (p : Nat) (t : Tok) (deep : Int) (bad : Bool) : Prop := Blk w g 132 #[.string s, .int .i64 p, .int .i64 t.sort, strV t.text, .int .i64 t.pos, .int .i64 deep, .bool bad]
theorem drop_at (s : ByteArray) (k : Nat) (h : k < s.size) : s.data.toList.drop k = s[k] :: s.data.toList.drop (k + 1) := by
  rw [List.drop_eq_getElem_cons (by rw [← Lib.size_eq]; exact h)]; rfl
theorem blankN_cons (c : UInt8) (t : List UInt8) : blankN (c :: t) = if c = 32 then blankN t + 1 else 0 := by
  unfold blankN spanN
  rw [List.takeWhile_cons]
  by_cases h : c = 32
  · rw [h]; simp
  · rw [show (c == 32) = false from beq_false_of_ne h, if_neg h]; rfl
theorem tok_of {l : List UInt8} {p q k : Nat} (hq : p + k = q) (hb : k + blankN (l.drop q) = blankN (l.drop p)) (hz : blankN (l.drop q) = 0) {K : Nat} {X : List UInt8} {n : Nat} (hT : tokH (l.drop q) = (K, X, n)) : p + tokN (l.drop p) = q + n ∧ (tokAt p (l.drop p)).sort = K ∧ (tokAt p (l.drop p)).text = X ∧ (tokAt p (l.drop p)).pos = q := by
  have e : (l.drop p).drop (blankN (l.drop p)) = l.drop q := by rw [List.drop_drop, ← hb, hz, Nat.add_zero, hq]
  have hk : blankN (l.drop p) = k := by omega
  refine ⟨?_, ?_, ?_, ?_⟩
  · unfold tokN; rw [e, hT, hk]; show p + (k + n) = q + n; omega
  · show (tokH ((l.drop p).drop (blankN (l.drop p)))).1 = K
    rw [e, hT]
  · show (tokH ((l.drop p).drop (blankN (l.drop p)))).2.1 = X
    rw [e, hT]
  · show p + blankN (l.drop p) = q
    omega
theorem fin_rd {w4 : World} {g : Nat} {s : ByteArray} {q n P : Nat} {t t' : Tok} {deep : Int} {bad : Bool} {K : Int} {X : ByteArray} (h : RdAt w4 g s q t deep bad) (e0 : P = q + n) (e1 : (t'.sort : Int) = K) (e2 : t'.text = X.data.toList) (e3 : t'.pos = q) :
    RdAt ((((w4.setCell ⟨g, 2, none⟩ (.int .i64 K)).setCell ⟨g, 3, none⟩ (.string X)).setCell ⟨g, 4, none⟩ (.int .i64 q)).setCell ⟨g, 1, none⟩ (.int .i64 ((q : Int) + n))) g s P t' deep bad := by
  have h5 := (((h.set_ 2 (.int .i64 K)).set_ 3 (.string X)).set_ 4 (.int .i64 q)).set_ 1 (.int .i64 ((q : Int) + n))
  unfold RdAt strV
  rw [e0, e1, e2, e3, show ((q + n : Nat) : Int) = (q : Int) + n from by omega]
  exact h5
theorem prefix_len {l p : List UInt8} (h : Lib.hasPrefix l p = true) : p.length ≤ l.length := by
  unfold Lib.hasPrefix at h
  exact (List.isPrefixOf_iff_prefix.1 h).length_le
theorem prefix_take {l p : List UInt8} : Lib.hasPrefix l p = (l.take p.length == p) := by
  unfold Lib.hasPrefix
  rw [Bool.eq_iff_iff, List.isPrefixOf_iff_prefix, beq_iff_eq]
  exact ⟨fun h => (List.prefix_iff_eq_take.1 h).symm, fun h => h ▸ List.take_prefix _ _⟩
theorem two_eq (l : List UInt8) : two l = (Lib.hasPrefix l [60, 61] || Lib.hasPrefix l [62, 61] || Lib.hasPrefix l [33, 61]) := by
  rw [prefix_take, prefix_take, prefix_take]; rfl
theorem idx_mark (c : UInt8) : marks1.contains c = true ↔ 0 ≤ Lib.indexByte (⟨#[61, 60, 62, 43, 45, 42, 40, 41, 91, 93, 44]⟩ : ByteArray).data.toList ((c.toNat : Int).toNat).toUInt8 := by
  have e : ((c.toNat : Int).toNat).toUInt8 = c := by
    rw [Int.toNat_natCast]; exact UInt8.ofNat_toNat
  rw [e]
  have := Lib.contains_iff_indexByte marks1 c
  rw [this, decide_eq_true_eq]; rfl
set_option maxHeartbeats 4000000 in
set_option maxRecDepth 100000 in
theorem step_calls (s : ByteArray) (p : Nat) (t : Tok) (deep : Int) (bad : Bool) (g : Nat) (w : World) (hs : s.size ≤ 4096) (hp : p ≤ s.size) (h : RdAt w g s p t deep bad) :
    Calls Tryz.prog 91 #[.pointer (some ⟨g, 0, none⟩)] w fun e w' => e = .returned (.tuple #[]) ∧ RdAt w' g s (p + tokN (s.data.toList.drop p)) (tokAt p (s.data.toList.drop p)) deep bad ∧ Keeps (fun j => j = g) w w' := by
  have hgl := h.lt
  have h' := Lib.hid h
  clear h
  go_enter Tryz.func91, Tryz.ntmps91
  go_wp2_with fail
  go_loopw [6] (fun _ wr => ∃ k : Nat, p + k ≤ s.size ∧ RdAt wr g s (p + k) t deep bad ∧ Keeps (fun j => j = g) w wr ∧ k + blankN (s.data.toList.drop (p + k)) = blankN (s.data.toList.drop p)) (fun _ wr => s.size - (intOf ((wr.cell? ⟨g, 1, none⟩).getD undef)).toNat)
  case atStart => exact ⟨0, by omega, h'.out, Keeps.refl _ _, by rw [Nat.zero_add]; rfl⟩
  case round =>
    obtain ⟨k, hk, h1, k1, hb⟩ := hrel
    obtain ⟨q, hq⟩ : ∃ q, p + k = q := ⟨_, rfl⟩
    rw [hq] at hk h1 hb
    have h1' := Lib.hid h1
    have hb' := Lib.hid hb
    have k1' := Lib.hid k1
    have c0 : wr.cell? ⟨g, 0, none⟩ = some (.string s) := Blk.cell h1 0
    have c1 : wr.cell? ⟨g, 1, none⟩ = some (.int .i64 (q : Int)) := Blk.cell h1 1
    have qf := Blk.frozen h1
    clear h1 hb k1
    by_cases hlt : q < s.size
    · have hd : decide ((q : Int) < (s.size : Int)) = true := decide_eq_true (by omega)
      have hi : (q : Int) < (s.size : Int) := by omega
      have hi0 : (0 : Int) ≤ (q : Int) := by omega
      by_cases h32 : s[q] = 32
      · have e32 : ((s[q].toNat : Int) == 32) = true := by rw [h32]; rfl
        go_wp2_with fail
        go_quiet (fail)
        go_wp2_with fail
        go_roundw
        case rel =>
          refine ⟨k + 1, by omega, ?_, ((k1'.out.drewN _).setCell (.inl rfl) _), ?_⟩
          · rw [show p + (k + 1) = q + 1 by omega]
            exact ((h1'.out.drewN _).set_ 1 _)
          · have h2 := hb'.out
            rw [drop_at s q hlt, blankN_cons, if_pos h32] at h2
            rw [show p + (k + 1) = q + 1 by omega]
            omega
        case measure =>
          have := ((h1'.out.drewN nq).set_ 1 (.int .i64 ((q : Int) + 1))).cell 1
          rw [this, c1]
          simp [intOf]
          omega
      · have e32 : ((s[q].toNat : Int) == 32) = false := by
          apply beq_false_of_ne
          intro e
          apply h32
          apply UInt8.toNat_inj.1
          show s[q].toNat = 32
          omega
        go_wp2_with fail
        go_quiet (fail)
        go_wp2_with fail
        have h2 := h1'.out.drewN nq
        have k2 := k1'.out.drewN nq
        generalize wr.drewN nq = w1 at *
        have h2' := Lib.hid h2
        have k2' := Lib.hid k2
        have c0 : w1.cell? ⟨g, 0, none⟩ = some (.string s) := Blk.cell h2 0
        have c1 : w1.cell? ⟨g, 1, none⟩ = some (.int .i64 (q : Int)) := Blk.cell h2 1
        have qf := Blk.frozen h2
        have hi1 : (q : Int) ≤ (s.size : Int) := by omega
        clear h2 k2 hd
        go_quiet (fail)
        have h2 := h2'.out.drewN nq
        have k2 := k2'.out.drewN nq
        generalize w1.drewN nq = w2 at *
        clear h2' k2' h1' k1' c0 c1 qf
        have h2' := Lib.hid h2
        have k2' := Lib.hid k2
        have c0 := Blk.cell h2
        have qf := Blk.frozen h2
        have hsz := h2.lt
        clear h2 k2
        have hr0 : (s.extract q s.size).toList.isEmpty = false := by
          rw [Lib.toList_data, Lib.extract_to_end, drop_at s q hlt]; rfl
        have hrs : (s.extract q s.size).size = s.size - q := by rw [Lib.size_eq, Lib.extract_to_end, List.length_drop, ← Lib.size_eq]
        generalize hrest : s.extract q s.size = rest at *
        have hrl : 1 ≤ rest.size := by omega
        have hrm : rest.size ≤ 4096 := by omega
        clear hrs
        have hrest' := Lib.hid hrest
        clear hrest
        go_wp2_with fail
        obtain ⟨b, hb⟩ : ∃ b, w2.heap.size = b := ⟨_, rfl⟩
        have tb := Blk.new w2 130 #[.int .i64 0, .string ⟨#[]⟩, .int .i64 (q : Int)]
        have h3 := Blk.alloc h2'.out (.cells #[.int .i64 0, .string ⟨#[]⟩, .int .i64 (q : Int)] 130)
        have k3 := k2'.out.alloc (.cells #[.int .i64 0, .string ⟨#[]⟩, .int .i64 (q : Int)] 130)
        have hbw : w.heap.size ≤ b := by rw [← hb]; exact k2'.out.size
        rw [hb] at tb hsz ⊢
        generalize w2.alloc (.cells #[.int .i64 0, .string ⟨#[]⟩, .int .i64 (q : Int)] 130) = w3 at *
        have tb' := Lib.hid tb
        have h3' := Lib.hid h3
        have k3' := Lib.hid k3
        have d0 := Blk.cell tb
        have df := Blk.frozen tb
        have c3 := Blk.cell h3
        have cf := Blk.frozen h3
        clear h2' k2' hb tb h3 k3 c0 qf
        have D := digit_calls rest[0] w3
        unfold byteV at D
        refine D.mono ?_
        rintro e w' ⟨rfl, rfl⟩
        have hdr : Hid (s.data.toList.drop q = rest.data.toList) := by
          have := Lib.extract_to_end s q
          rw [hrest'.out] at this
          exact Lib.hid this.symm
        have hc0 : Hid (rest.data.toList = rest[0] :: rest.data.toList.drop 1) := Lib.hid (drop_at rest 0 (by omega))
        have hz0 : Hid (blankN (s.data.toList.drop q) = 0) := by
          refine Lib.hid ?_
          rw [drop_at s q hlt, blankN_cons, if_neg h32]
        have hdr : Hid (s.data.toList.drop q = rest.data.toList) := by
          have := Lib.extract_to_end s q
          rw [hrest'.out] at this
          exact Lib.hid this.symm
        have hc0 : Hid (rest.data.toList = rest[0] :: rest.data.toList.drop 1) := Lib.hid (drop_at rest 0 (by omega))
        have hz0 : Hid (blankN (s.data.toList.drop q) = 0) := by
          refine Lib.hid ?_
          rw [drop_at s q hlt, blankN_cons, if_neg h32]
        have hdr : Hid (s.data.toList.drop q = rest.data.toList) := by
          have := Lib.extract_to_end s q
          rw [hrest'.out] at this
          exact Lib.hid this.symm
        have hc0 : Hid (rest.data.toList = rest[0] :: rest.data.toList.drop 1) := Lib.hid (drop_at rest 0 (by omega))
        have hz0 : Hid (blankN (s.data.toList.drop q) = 0) := by
          refine Lib.hid ?_
          rw [drop_at s q hlt, blankN_cons, if_neg h32]
        have hdr : Hid (s.data.toList.drop q = rest.data.toList) := by
          have := Lib.extract_to_end s q
          rw [hrest'.out] at this
          exact Lib.hid this.symm
        have hc0 : Hid (rest.data.toList = rest[0] :: rest.data.toList.drop 1) := Lib.hid (drop_at rest 0 (by omega))
        have hz0 : Hid (blankN (s.data.toList.drop q) = 0) := by
          refine Lib.hid ?_
          rw [drop_at s q hlt, blankN_cons, if_neg h32]
        have hdr : Hid (s.data.toList.drop q = rest.data.toList) := by
          have := Lib.extract_to_end s q
          rw [hrest'.out] at this
          exact Lib.hid this.symm
        have hc0 : Hid (rest.data.toList = rest[0] :: rest.data.toList.drop 1) := Lib.hid (drop_at rest 0 (by omega))
        have hz0 : Hid (blankN (s.data.toList.drop q) = 0) := by
          refine Lib.hid ?_
          rw [drop_at s q hlt, blankN_cons, if_neg h32]
        have hdr : Hid (s.data.toList.drop q = rest.data.toList) := by
          have := Lib.extract_to_end s q
          rw [hrest'.out] at this
          exact Lib.hid this.symm
        have hc0 : Hid (rest.data.toList = rest[0] :: rest.data.toList.drop 1) := Lib.hid (drop_at rest 0 (by omega))
        have hz0 : Hid (blankN (s.data.toList.drop q) = 0) := by
          refine Lib.hid ?_
          rw [drop_at s q hlt, blankN_cons, if_neg h32]
        have hdr : Hid (s.data.toList.drop q = rest.data.toList) := by
          have := Lib.extract_to_end s q
          rw [hrest'.out] at this
          exact Lib.hid this.symm
        have hc0 : Hid (rest.data.toList = rest[0] :: rest.data.toList.drop 1) := Lib.hid (drop_at rest 0 (by omega))
        have hz0 : Hid (blankN (s.data.toList.drop q) = 0) := by
          refine Lib.hid ?_
          rw [drop_at s q hlt, blankN_cons, if_neg h32]
        cases hdg : isDig rest[0]
        · go_wp2_with fail
          have D := letter_calls rest[0] w3
          unfold byteV at D
          refine D.mono ?_
          clear D
          rintro e w' ⟨rfl, rfl⟩
          cases hlt1 : isLet rest[0]
          · by_cases h39 : rest[0] = 39
            · have e39 : ((rest[0].toNat : Int) == 39) = true := by rw [h39]; rfl
              have hi2 : (1 : Int) ≤ (rest.size : Int) := by omega
              go_wp2_with fail
              obtain ⟨r1, hr1⟩ : ∃ r, rest.extract 1 rest.size = r := ⟨_, rfl⟩
              rw [hr1]
              have hrs1 : r1.size = rest.size - 1 := by rw [← hr1, Lib.size_eq, Lib.extract_to_end, List.length_drop, ← Lib.size_eq]
              have hd1 : Hid (rest.data.toList.drop 1 = r1.data.toList) := by rw [← hr1]; exact Lib.hid (Lib.extract_to_end _ _).symm
              have hr1' := Lib.hid hr1
              clear hr1
              go_wp2_with fail
              have D := span_calls 110 (fun _ _ => by go_simp) isQuo (fun c w => quo_calls c w) r1 w3 (by unfold maxLen; omega)
              refine D.mono ?_
              clear D
              rintro e w' ⟨rfl, rfl⟩
              have hn : spanN isQuo r1.data.toList ≤ r1.size := by rw [Lib.size_eq]; exact span_le _ _
              generalize hN : spanN isQuo r1.data.toList = n at *
              have hN' := Lib.hid hN
              clear hN
              by_cases hq1 : 1 + n < rest.size
              · have hdq : decide (1 + n < rest.size) = true := decide_eq_true hq1
                have hdq' : decide ((1 : Int) + (n : Int) < (rest.size : Int)) = true := decide_eq_true (by omega)
                have hiq : (1 : Int) + (n : Int) < (rest.size : Int) := by omega
                have hiq0 : (0 : Int) ≤ (1 : Int) + (n : Int) := by omega
                have hrg : Hid (r1.data.toList[n]? = some rest[1 + n]) := by
                  refine Lib.hid ?_
                  rw [← hd1.out, List.getElem?_drop, ByteArray.getElem_eq_getElem_data]
                  simp
                by_cases hcl : rest[1 + n] = 39
                · have ecl : ((rest[1 + n].toNat : Int) == 39) = true := by rw [hcl]; rfl
                  have hn0 : (0 : Int) ≤ (n : Int) := by omega
                  have hn1 : (1 : Int) + (n : Int) ≤ (rest.size : Int) := by omega
                  have hn2 : (1 : Int) ≤ (1 : Int) + (n : Int) := by omega
                  go_wp2_with fail
                  go_region
                  have tb4 := ((tb'.out.set_ 0 (.int .i64 5)).set_ 1 (.string (rest.extract 1 (1 + n)))).drew
                  have h4 := (((h3'.out.far (p := ⟨b, 0, none⟩) (Nat.ne_of_lt hsz) (.int .i64 5)).far (p := ⟨b, 1, none⟩) (Nat.ne_of_lt hsz) (.string (rest.extract 1 (1 + n))))).drew
                  have k4 := ((k3'.out.setCell (p := ⟨b, 0, none⟩) (.inr hbw) (.int .i64 5)).setCell (p := ⟨b, 1, none⟩) (.inr hbw) (.string (rest.extract 1 (1 + n)))).drew
                  clear d0 df c3 cf
                  generalize ((w3.setCell ⟨b, 0, none⟩ (.int .i64 5)).setCell ⟨b, 1, none⟩ (.string (rest.extract 1 (1 + n)))).drew = w4 at *
                  have h4' := Lib.hid h4
                  have k4' := Lib.hid k4
                  have d0 := Blk.cell tb4
                  have df := Blk.frozen tb4
                  have c3 := Blk.cell h4
                  have cf := Blk.frozen h4
                  clear tb4 h4 k4
                  go_wp2_with fail
                  go_end0
                  obtain ⟨e0, e1, e2, e3⟩ := tok_of (K := 5) (X := (rest.extract 1 (1 + n)).data.toList) (n := n + 2) hq hb'.out hz0.out (by rw [hdr.out, hc0.out, h39, hd1.out, tokH_quo (by rw [hN'.out, hrg.out, hcl]), hN'.out, Lib.extract_data, hd1.out, show 1 + n - 1 = n by omega])
                  exact ⟨rfl, fin_rd h4'.out e0 (by rw [e1]; rfl) e2 e3, (((k4'.out.setCell (p := ⟨g, 2, none⟩) (.inl rfl) _).setCell (p := ⟨g, 3, none⟩) (.inl rfl) _).setCell (p := ⟨g, 4, none⟩) (.inl rfl) _).setCell (p := ⟨g, 1, none⟩) (.inl rfl) _⟩
                · have ecl : ((rest[1 + n].toNat : Int) == 39) = false := by
                    apply beq_false_of_ne
                    intro e
                    apply hcl
                    apply UInt8.toNat_inj.1
                    show rest[1 + n].toNat = 39
                    omega
                  have h4' := h3'
                  have k4' := k3'
                  go_wp2_with fail
                  go_end0
                  obtain ⟨e0, e1, e2, e3⟩ := tok_of (K := 0) (X := []) (n := 1) hq hb'.out hz0.out ((by rw [hdr.out, hc0.out, h39, hd1.out]; exact tokH_odd (by rw [hN'.out, hrg.out]; exact fun e => hcl (Option.some.inj e))))
                  exact ⟨rfl, fin_rd h4'.out e0 (by rw [e1]; rfl) e2 e3, (((k4'.out.setCell (p := ⟨g, 2, none⟩) (.inl rfl) _).setCell (p := ⟨g, 3, none⟩) (.inl rfl) _).setCell (p := ⟨g, 4, none⟩) (.inl rfl) _).setCell (p := ⟨g, 1, none⟩) (.inl rfl) _⟩
              · have hdq : decide (1 + n < rest.size) = false := decide_eq_false hq1
                have hdq' : decide ((1 : Int) + (n : Int) < (rest.size : Int)) = false := decide_eq_false (by omega)
                have h4' := h3'
                have k4' := k3'
                go_wp2_with fail
                go_end0
                obtain ⟨e0, e1, e2, e3⟩ := tok_of (K := 0) (X := []) (n := 1) hq hb'.out hz0.out ((by rw [hdr.out, hc0.out, h39, hd1.out]; exact tokH_odd (by rw [hN'.out, List.getElem?_eq_none (by rw [← Lib.size_eq]; omega)]; exact fun e => by cases e)))
                exact ⟨rfl, fin_rd h4'.out e0 (by rw [e1]; rfl) e2 e3, (((k4'.out.setCell (p := ⟨g, 2, none⟩) (.inl rfl) _).setCell (p := ⟨g, 3, none⟩) (.inl rfl) _).setCell (p := ⟨g, 4, none⟩) (.inl rfl) _).setCell (p := ⟨g, 1, none⟩) (.inl rfl) _⟩
            · have e39 : ((rest[0].toNat : Int) == 39) = false := by
                apply beq_false_of_ne
                intro e
                apply h39
                apply UInt8.toNat_inj.1
                show rest[0].toNat = 39
                omega
              have hi2 : (1 : Int) ≤ (rest.size : Int) := by omega
              go_wp2_with fail
              have D := Tryz.strings_HasPrefix rest ⟨#[60, 61]⟩ w3
              refine D.mono ?_
              clear D
              rintro e w' ⟨rfl, hw'⟩
              obtain rfl := hw'.symm
              have HP := Lib.hid (rfl : Lib.hasPrefix rest.data.toList (⟨#[60, 61]⟩ : ByteArray).data.toList = Lib.hasPrefix rest.data.toList [60, 61])
              rw [HP.out]
              cases hx0 : Lib.hasPrefix rest.data.toList [60, 61]
              · go_wp2_with fail
                have D := Tryz.strings_HasPrefix rest ⟨#[62, 61]⟩ w3
                refine D.mono ?_
                clear D
                rintro e w' ⟨rfl, hw'⟩
                obtain rfl := hw'.symm
                have HP := Lib.hid (rfl : Lib.hasPrefix rest.data.toList (⟨#[62, 61]⟩ : ByteArray).data.toList = Lib.hasPrefix rest.data.toList [62, 61])
                rw [HP.out]
                cases hx1 : Lib.hasPrefix rest.data.toList [62, 61]
                · go_wp2_with fail
                  have D := Tryz.strings_HasPrefix rest ⟨#[33, 61]⟩ w3
                  refine D.mono ?_
                  clear D
                  rintro e w' ⟨rfl, hw'⟩
                  obtain rfl := hw'.symm
                  have HP := Lib.hid (rfl : Lib.hasPrefix rest.data.toList (⟨#[33, 61]⟩ : ByteArray).data.toList = Lib.hasPrefix rest.data.toList [33, 61])
                  rw [HP.out]
                  cases hx2 : Lib.hasPrefix rest.data.toList [33, 61]
                  · go_wp2_with fail
                    have D := Tryz.strings_IndexByte ⟨#[61, 60, 62, 43, 45, 42, 40, 41, 91, 93, 44]⟩ (rest[0].toNat : Int) w3
                    refine D.mono ?_
                    clear D
                    rintro e w' ⟨rfl, hw'⟩
                    obtain rfl := hw'.symm
                    have HI := Lib.hid (idx_mark rest[0])
                    generalize Lib.indexByte _ _ = ix at *
                    have htw : Hid (two (rest[0] :: rest.data.toList.drop 1) = false) := by rw [← hc0.out]; exact Lib.hid (by rw [two_eq, hx0, hx1, hx2]; rfl)
                    by_cases hmk : (0 : Int) ≤ ix
                    · skip
                      have hn1 : (1 : Int) ≤ (rest.size : Int) := by omega
                      have hmk' := Lib.hid (HI.out.2 hmk)
                      go_wp2_with fail
                      go_region
                      have tb4 := ((tb'.out.set_ 0 (.int .i64 2)).set_ 1 (.string (rest.extract 0 1))).drew
                      have h4 := (((h3'.out.far (p := ⟨b, 0, none⟩) (Nat.ne_of_lt hsz) (.int .i64 2)).far (p := ⟨b, 1, none⟩) (Nat.ne_of_lt hsz) (.string (rest.extract 0 1)))).drew
                      have k4 := ((k3'.out.setCell (p := ⟨b, 0, none⟩) (.inr hbw) (.int .i64 2)).setCell (p := ⟨b, 1, none⟩) (.inr hbw) (.string (rest.extract 0 1))).drew
                      clear d0 df c3 cf
                      generalize ((w3.setCell ⟨b, 0, none⟩ (.int .i64 2)).setCell ⟨b, 1, none⟩ (.string (rest.extract 0 1))).drew = w4 at *
                      have h4' := Lib.hid h4
                      have k4' := Lib.hid k4
                      have d0 := Blk.cell tb4
                      have df := Blk.frozen tb4
                      have c3 := Blk.cell h4
                      have cf := Blk.frozen h4
                      clear tb4 h4 k4
                      go_wp2_with fail
                      go_end0
                      obtain ⟨e0, e1, e2, e3⟩ := tok_of (K := 2) (X := (rest.extract 0 1).data.toList) (n := 1) hq hb'.out hz0.out (by rw [hdr.out, hc0.out, tokH_mark hdg hlt1 h39 htw.out hmk'.out, Lib.extract_data, hc0.out]; rfl)
                      exact ⟨rfl, fin_rd h4'.out e0 (by rw [e1]; rfl) e2 e3, (((k4'.out.setCell (p := ⟨g, 2, none⟩) (.inl rfl) _).setCell (p := ⟨g, 3, none⟩) (.inl rfl) _).setCell (p := ⟨g, 4, none⟩) (.inl rfl) _).setCell (p := ⟨g, 1, none⟩) (.inl rfl) _⟩
                    · skip
                      have hmk' : Hid (marks1.contains rest[0] = false) := by
                        refine Lib.hid ?_
                        cases hh : marks1.contains rest[0]
                        · rfl
                        · exact absurd (HI.out.1 hh) hmk
                      have h4' := h3'
                      have k4' := k3'
                      go_wp2_with fail
                      go_end0
                      obtain ⟨e0, e1, e2, e3⟩ := tok_of (K := 0) (X := []) (n := 1) hq hb'.out hz0.out (by rw [hdr.out, hc0.out]; exact tokH_none hdg hlt1 h39 htw.out hmk'.out)
                      exact ⟨rfl, fin_rd h4'.out e0 (by rw [e1]; rfl) e2 e3, (((k4'.out.setCell (p := ⟨g, 2, none⟩) (.inl rfl) _).setCell (p := ⟨g, 3, none⟩) (.inl rfl) _).setCell (p := ⟨g, 4, none⟩) (.inl rfl) _).setCell (p := ⟨g, 1, none⟩) (.inl rfl) _⟩
                  · skip
                    have hl2 := Lib.hid (prefix_len hx2)
                    have hn1 : (2 : Int) ≤ (rest.size : Int) := by
                      have := hl2.out
                      rw [← Lib.size_eq] at this
                      have e : ([33, 61] : List UInt8).length = 2 := rfl
                      omega
                    go_wp2_with fail
                    go_region
                    have tb4 := ((tb'.out.set_ 0 (.int .i64 2)).set_ 1 (.string (rest.extract 0 2))).drew
                    have h4 := (((h3'.out.far (p := ⟨b, 0, none⟩) (Nat.ne_of_lt hsz) (.int .i64 2)).far (p := ⟨b, 1, none⟩) (Nat.ne_of_lt hsz) (.string (rest.extract 0 2)))).drew
                    have k4 := ((k3'.out.setCell (p := ⟨b, 0, none⟩) (.inr hbw) (.int .i64 2)).setCell (p := ⟨b, 1, none⟩) (.inr hbw) (.string (rest.extract 0 2))).drew
                    clear d0 df c3 cf
                    generalize ((w3.setCell ⟨b, 0, none⟩ (.int .i64 2)).setCell ⟨b, 1, none⟩ (.string (rest.extract 0 2))).drew = w4 at *
                    have h4' := Lib.hid h4
                    have k4' := Lib.hid k4
                    have d0 := Blk.cell tb4
                    have df := Blk.frozen tb4
                    have c3 := Blk.cell h4
                    have cf := Blk.frozen h4
                    clear tb4 h4 k4
                    go_wp2_with fail
                    go_end0
                    obtain ⟨e0, e1, e2, e3⟩ := tok_of (K := 2) (X := (rest.extract 0 2).data.toList) (n := 2) hq hb'.out hz0.out (by rw [hdr.out, hc0.out, tokH_two hdg hlt1 h39 (by rw [← hc0.out, two_eq, hx0, hx1, hx2]; rfl), ← hc0.out, Lib.extract_data]; rfl)
                    exact ⟨rfl, fin_rd h4'.out e0 (by rw [e1]; rfl) e2 e3, (((k4'.out.setCell (p := ⟨g, 2, none⟩) (.inl rfl) _).setCell (p := ⟨g, 3, none⟩) (.inl rfl) _).setCell (p := ⟨g, 4, none⟩) (.inl rfl) _).setCell (p := ⟨g, 1, none⟩) (.inl rfl) _⟩
                · skip
                  have hl2 := Lib.hid (prefix_len hx1)
                  have hn1 : (2 : Int) ≤ (rest.size : Int) := by
                    have := hl2.out
                    rw [← Lib.size_eq] at this
                    have e : ([62, 61] : List UInt8).length = 2 := rfl
                    omega
                  go_wp2_with fail
                  go_region
                  have tb4 := ((tb'.out.set_ 0 (.int .i64 2)).set_ 1 (.string (rest.extract 0 2))).drew
                  have h4 := (((h3'.out.far (p := ⟨b, 0, none⟩) (Nat.ne_of_lt hsz) (.int .i64 2)).far (p := ⟨b, 1, none⟩) (Nat.ne_of_lt hsz) (.string (rest.extract 0 2)))).drew
                  have k4 := ((k3'.out.setCell (p := ⟨b, 0, none⟩) (.inr hbw) (.int .i64 2)).setCell (p := ⟨b, 1, none⟩) (.inr hbw) (.string (rest.extract 0 2))).drew
                  clear d0 df c3 cf
                  generalize ((w3.setCell ⟨b, 0, none⟩ (.int .i64 2)).setCell ⟨b, 1, none⟩ (.string (rest.extract 0 2))).drew = w4 at *
                  have h4' := Lib.hid h4
                  have k4' := Lib.hid k4
                  have d0 := Blk.cell tb4
                  have df := Blk.frozen tb4
                  have c3 := Blk.cell h4
                  have cf := Blk.frozen h4
                  clear tb4 h4 k4
                  go_wp2_with fail
                  go_end0
                  obtain ⟨e0, e1, e2, e3⟩ := tok_of (K := 2) (X := (rest.extract 0 2).data.toList) (n := 2) hq hb'.out hz0.out (by rw [hdr.out, hc0.out, tokH_two hdg hlt1 h39 (by rw [← hc0.out, two_eq, hx0, hx1]; rfl), ← hc0.out, Lib.extract_data]; rfl)
                  exact ⟨rfl, fin_rd h4'.out e0 (by rw [e1]; rfl) e2 e3, (((k4'.out.setCell (p := ⟨g, 2, none⟩) (.inl rfl) _).setCell (p := ⟨g, 3, none⟩) (.inl rfl) _).setCell (p := ⟨g, 4, none⟩) (.inl rfl) _).setCell (p := ⟨g, 1, none⟩) (.inl rfl) _⟩
              · skip
                have hl2 := Lib.hid (prefix_len hx0)
                have hn1 : (2 : Int) ≤ (rest.size : Int) := by
                  have := hl2.out
                  rw [← Lib.size_eq] at this
                  have e : ([60, 61] : List UInt8).length = 2 := rfl
                  omega
                go_wp2_with fail
                go_region
                have tb4 := ((tb'.out.set_ 0 (.int .i64 2)).set_ 1 (.string (rest.extract 0 2))).drew
                have h4 := (((h3'.out.far (p := ⟨b, 0, none⟩) (Nat.ne_of_lt hsz) (.int .i64 2)).far (p := ⟨b, 1, none⟩) (Nat.ne_of_lt hsz) (.string (rest.extract 0 2)))).drew
                have k4 := ((k3'.out.setCell (p := ⟨b, 0, none⟩) (.inr hbw) (.int .i64 2)).setCell (p := ⟨b, 1, none⟩) (.inr hbw) (.string (rest.extract 0 2))).drew
                clear d0 df c3 cf
                generalize ((w3.setCell ⟨b, 0, none⟩ (.int .i64 2)).setCell ⟨b, 1, none⟩ (.string (rest.extract 0 2))).drew = w4 at *
                have h4' := Lib.hid h4
                have k4' := Lib.hid k4
                have d0 := Blk.cell tb4
                have df := Blk.frozen tb4
                have c3 := Blk.cell h4
                have cf := Blk.frozen h4
                clear tb4 h4 k4
                go_wp2_with fail
                go_end0
                obtain ⟨e0, e1, e2, e3⟩ := tok_of (K := 2) (X := (rest.extract 0 2).data.toList) (n := 2) hq hb'.out hz0.out (by rw [hdr.out, hc0.out, tokH_two hdg hlt1 h39 (by rw [← hc0.out, two_eq, hx0]; rfl), ← hc0.out, Lib.extract_data]; rfl)
                exact ⟨rfl, fin_rd h4'.out e0 (by rw [e1]; rfl) e2 e3, (((k4'.out.setCell (p := ⟨g, 2, none⟩) (.inl rfl) _).setCell (p := ⟨g, 3, none⟩) (.inl rfl) _).setCell (p := ⟨g, 4, none⟩) (.inl rfl) _).setCell (p := ⟨g, 1, none⟩) (.inl rfl) _⟩
          · skip
            go_wp2_with fail
            have D := span_calls 109 (fun _ _ => by go_simp) isWrd (fun c w => wrd_calls c w) rest w3 (by unfold maxLen; omega)
            refine D.mono ?_
            clear D
            rintro e w' ⟨rfl, rfl⟩
            have hn : spanN isWrd rest.data.toList ≤ rest.size := by rw [Lib.size_eq]; exact span_le _ _
            generalize hN : spanN isWrd rest.data.toList = n at *
            have hN' := Lib.hid hN
            clear hN
            have hn0 : (0 : Int) ≤ (n : Int) := by omega
            have hn1 : (n : Int) ≤ (rest.size : Int) := by omega
            go_wp2_with fail
            go_region
            have tb4 := ((tb'.out.set_ 0 (.int .i64 3)).set_ 1 (.string (rest.extract 0 n))).drew
            have h4 := (((h3'.out.far (p := ⟨b, 0, none⟩) (Nat.ne_of_lt hsz) (.int .i64 3)).far (p := ⟨b, 1, none⟩) (Nat.ne_of_lt hsz) (.string (rest.extract 0 n)))).drew
            have k4 := ((k3'.out.setCell (p := ⟨b, 0, none⟩) (.inr hbw) (.int .i64 3)).setCell (p := ⟨b, 1, none⟩) (.inr hbw) (.string (rest.extract 0 n))).drew
            clear d0 df c3 cf
            generalize ((w3.setCell ⟨b, 0, none⟩ (.int .i64 3)).setCell ⟨b, 1, none⟩ (.string (rest.extract 0 n))).drew = w4 at *
            have h4' := Lib.hid h4
            have k4' := Lib.hid k4
            have d0 := Blk.cell tb4
            have df := Blk.frozen tb4
            have c3 := Blk.cell h4
            have cf := Blk.frozen h4
            clear tb4 h4 k4
            go_wp2_with fail
            go_end0
            obtain ⟨e0, e1, e2, e3⟩ := tok_of (K := 3) (X := (rest.extract 0 n).data.toList) (n := n) hq hb'.out hz0.out (by rw [hdr.out, hc0.out, tokH_let hdg hlt1, ← hc0.out, hN'.out, Lib.extract_data]; rfl)
            exact ⟨rfl, fin_rd h4'.out e0 (by rw [e1]; rfl) e2 e3, (((k4'.out.setCell (p := ⟨g, 2, none⟩) (.inl rfl) _).setCell (p := ⟨g, 3, none⟩) (.inl rfl) _).setCell (p := ⟨g, 4, none⟩) (.inl rfl) _).setCell (p := ⟨g, 1, none⟩) (.inl rfl) _⟩
        · skip
          go_wp2_with fail
          have D := span_calls 106 (fun _ _ => by go_simp) isDig (fun c w => digit_calls c w) rest w3 (by unfold maxLen; omega)
          refine D.mono ?_
          clear D
          rintro e w' ⟨rfl, rfl⟩
          have hn : spanN isDig rest.data.toList ≤ rest.size := by rw [Lib.size_eq]; exact span_le _ _
          generalize hN : spanN isDig rest.data.toList = n at *
          have hN' := Lib.hid hN
          clear hN
          have hn0 : (0 : Int) ≤ (n : Int) := by omega
          have hn1 : (n : Int) ≤ (rest.size : Int) := by omega
          go_wp2_with fail
          go_region
          have tb4 := ((tb'.out.set_ 0 (.int .i64 4)).set_ 1 (.string (rest.extract 0 n))).drew
          have h4 := (((h3'.out.far (p := ⟨b, 0, none⟩) (Nat.ne_of_lt hsz) (.int .i64 4)).far (p := ⟨b, 1, none⟩) (Nat.ne_of_lt hsz) (.string (rest.extract 0 n)))).drew
          have k4 := ((k3'.out.setCell (p := ⟨b, 0, none⟩) (.inr hbw) (.int .i64 4)).setCell (p := ⟨b, 1, none⟩) (.inr hbw) (.string (rest.extract 0 n))).drew
          clear d0 df c3 cf
          generalize ((w3.setCell ⟨b, 0, none⟩ (.int .i64 4)).setCell ⟨b, 1, none⟩ (.string (rest.extract 0 n))).drew = w4 at *
          have h4' := Lib.hid h4
          have k4' := Lib.hid k4
          have d0 := Blk.cell tb4
          have df := Blk.frozen tb4
          have c3 := Blk.cell h4
          have cf := Blk.frozen h4
          clear tb4 h4 k4
          go_wp2_with fail
          go_end0
          obtain ⟨e0, e1, e2, e3⟩ := tok_of (K := 4) (X := (rest.extract 0 n).data.toList) (n := n) hq hb'.out hz0.out (by rw [hdr.out, hc0.out, tokH_dig hdg, ← hc0.out, hN'.out, Lib.extract_data]; rfl)
          exact ⟨rfl, fin_rd h4'.out e0 (by rw [e1]; rfl) e2 e3, (((k4'.out.setCell (p := ⟨g, 2, none⟩) (.inl rfl) _).setCell (p := ⟨g, 3, none⟩) (.inl rfl) _).setCell (p := ⟨g, 4, none⟩) (.inl rfl) _).setCell (p := ⟨g, 1, none⟩) (.inl rfl) _⟩
    · have hd : decide ((q : Int) < (s.size : Int)) = false := decide_eq_false (by omega)
      go_wp2_with fail
      go_quiet (fail)
      go_wp2_with fail
      have h2 := h1'.out.drewN nq
      have k2 := k1'.out.drewN nq
      generalize wr.drewN nq = w1 at *
      have h2' := Lib.hid h2
      have k2' := Lib.hid k2
      have c0 : w1.cell? ⟨g, 0, none⟩ = some (.string s) := Blk.cell h2 0
      have c1 : w1.cell? ⟨g, 1, none⟩ = some (.int .i64 (q : Int)) := Blk.cell h2 1
      have qf := Blk.frozen h2
      have hi1 : (q : Int) ≤ (s.size : Int) := by omega
      have hi0 : (0 : Int) ≤ (q : Int) := by omega
      clear h2 k2 hd
      go_quiet (fail)
      have h2 := h2'.out.drewN nq
      have k2 := k2'.out.drewN nq
      generalize w1.drewN nq = w2 at *
      clear h2' k2' h1' k1' c0 c1 qf
      have h2' := Lib.hid h2
      have k2' := Lib.hid k2
      have c0 := Blk.cell h2
      have qf := Blk.frozen h2
      have hsz := h2.lt
      clear h2 k2
      have hdr : Hid (s.data.toList.drop q = []) := Lib.hid (List.drop_eq_nil_of_le (by rw [← Lib.size_eq]; omega))
      have hr0 : (s.extract q s.size).toList.isEmpty = true := by
        rw [Lib.toList_data, Lib.extract_to_end, hdr.out]; rfl
      have hz0 : Hid (blankN (s.data.toList.drop q) = 0) := Lib.hid (by rw [hdr.out]; rfl)
      generalize hrest : s.extract q s.size = rest at *
      clear hrest
      go_wp2_with fail
      go_end0
      obtain ⟨e0, e1, e2, e3⟩ := tok_of (K := 1) (X := []) (n := 0) hq hb'.out hz0.out (by rw [hdr.out]; rfl)
      have hf := fin_rd (K := 1) (X := ⟨#[]⟩) h2'.out e0 (by rw [e1]; rfl) e2 e3
      rw [show (q : Int) + ((0 : Nat) : Int) = q by omega] at hf
      exact ⟨rfl, Blk.alloc hf _, ((((k2'.out.setCell (p := ⟨g, 2, none⟩) (.inl rfl) _).setCell (p := ⟨g, 3, none⟩) (.inl rfl) _).setCell (p := ⟨g, 4, none⟩) (.inl rfl) _).setCell (p := ⟨g, 1, none⟩) (.inl rfl) _).alloc _⟩
end Go.Proofs.YtdfgbkilaepolaaGreatDoor
namespace Go.Proofs.YtdfgbkilaepolaaGreatDoor
open Go.RowKit
/-- a kind of rows: the slice's type, its elements' type, how many cells each has, and which -/
structure RowK (α : Type) where
  (s e : TypeId)
  K : Nat
  en : α → List Value
/-- the program knows this kind -/
structure RowK.Ok {α : Type} (P : Program) (r : RowK α) : Prop where
  hs : P.underlying r.s = some (.slice r.e)
  info : ∃ i z b, P.info? r.e = some i ∧ i.zero = some z ∧ i.size = r.K ∧ i.bytes = b ∧ z.cells.size = r.K ∧ b ≤ 1000
  size : ∀ w, (sizeOf r.e).run P w = .ok r.K w
  pos : 0 < r.K
  len : ∀ a, (r.en a).length = r.K
  one : ∀ a, ∀ u ∈ r.en a, u.oneCell' = true
theorem info_partsK {P : Program} {t : TypeId} {z : Value} {n b : Nat} (h : (P.info? t).map (fun i => (i.zero, i.size, i.bytes)) = some (some z, n, b)) (h2 : z.cells.size = n) (h3 : b ≤ 1000) : ∃ i z b, P.info? t = some i ∧ i.zero = some z ∧ i.size = n ∧ i.bytes = b ∧ z.cells.size = n ∧ b ≤ 1000 := by
  cases hi : P.info? t with
  | none => rw [hi] at h; cases h
  | some i =>
    rw [hi] at h
    have := Option.some.inj h
    exact ⟨i, z, b, rfl, congrArg (·.1) this, congrArg (·.2.1) this, congrArg (·.2.2) this, h2, h3⟩
/-- the cells of elements, one behind the other -/
def RowK.cells {α : Type} (r : RowK α) (l : List α) : List Value := l.flatMap r.en
/-- elements in a row of the walk's own, no block below B -/
def RowK.Own {α : Type} (r : RowK α) (B : Nat) (w : World) (v : Value) (l : List α) : Prop := w.ownsRow B r.e r.K v l.length (r.cells l)
/-- elements that lie somewhere, one behind the other -/
def RowK.At {α : Type} (r : RowK α) (w : World) (p : Option Addr) (l : List α) : Prop := ∀ k x, l[k]? = some x → ∃ a : Addr, p = some a ∧ a.block < w.heap.size ∧ ∀ j u, (r.en x)[j]? = some u → w.cell? (a.add (k * r.K + j)) = some u
section
variable {α : Type} {P : Program} {r : RowK α} {B B' : Nat} {w w' : World} {v : Value} {l : List α}
theorem RowK.Ok.cells_len (h : r.Ok P) : ∀ l : List α, (r.cells l).length = l.length * r.K
  | [] => by simp [RowK.cells]
  | t :: l => by
    show (r.en t ++ r.cells l).length = _
    rw [List.length_append, h.cells_len l, h.len, List.length_cons, Nat.succ_mul]; omega
theorem RowK.cells_app (r : RowK α) (a b : List α) : r.cells (a ++ b) = r.cells a ++ r.cells b := by unfold RowK.cells; rw [List.flatMap_append]
theorem RowK.cells_one (r : RowK α) (t : α) : r.cells [t] = r.en t := by simp [RowK.cells]
theorem RowK.Ok.cells_at (h : r.Ok P) : ∀ (l : List α) (k j : Nat) (t : α), l[k]? = some t → j < r.K → (r.cells l)[k * r.K + j]? = (r.en t)[j]?
  | [], _, _, _, e, _ => by cases e
  | u :: l, 0, j, t, e, hj => by
    obtain rfl : u = t := by simpa using e
    show (r.en u ++ r.cells l)[_]? = _
    rw [List.getElem?_append_left (by rw [h.len]; omega)]
    simp
  | u :: l, k + 1, j, t, e, hj => by
    show (r.en u ++ r.cells l)[_]? = _
    have e1 : (k + 1) * r.K = k * r.K + r.K := Nat.succ_mul _ _
    rw [List.getElem?_append_right (by rw [h.len]; omega), h.len, show (k + 1) * r.K + j - r.K = k * r.K + j by omega]
    exact h.cells_at l k j t (by simpa using e) hj
theorem RowK.Ok.cells_one_cell (h : r.Ok P) (l : List α) : ∀ u ∈ r.cells l, u.oneCell' = true := by
  intro u hu
  obtain ⟨t, _, ht⟩ := List.mem_flatMap.1 hu
  exact h.one t u ht
theorem RowK.Own.nil (r : RowK α) (B : Nat) (w : World) : r.Own B w (.slice none 0 0) [] := World.ownsRow_nil _ _ _ _
theorem RowK.Own.keeps {S : Nat → Prop} (h : r.Own B w v l) (hk : Keeps S w w') (hs : ∀ g, v.ownBlock = some g → ¬ S g) : r.Own B w' v l := own_keeps h hk hs
theorem RowK.Own.later (h : r.Own B w v l) (hb : Below w.heap.size w w') : r.Own B w' v l := h.keeps (S := fun _ => False) (.of_below hb) (fun _ _ => id)
theorem RowK.Own.lt (h : r.Own B w v l) : ∀ g, v.ownBlock = some g → B ≤ g ∧ g < w.heap.size := fun g hg => World.ownsRow.lt h g hg
theorem RowK.Own.cells (h : r.Own B w v l) (hn : 0 < l.length) : ∃ g c, v = .slice (some ⟨g, 0, none⟩) l.length c ∧ l.length ≤ c ∧ B ≤ g ∧ g < w.heap.size ∧ ∀ (i : Nat) (u : Value), (r.cells l)[i]? = some u → w.cell? ⟨g, i, none⟩ = some u := by
  obtain ⟨g, c, e, hc, hg, hcell⟩ := (RowAt.of_own h).cell hn
  exact ⟨g, c, e, hc, (h.lt g (by rw [e]; rfl)).1, hg, hcell⟩
/-- the cells of a block of one element are this element's -/
def BlkIs (w : World) (g : Nat) (xs : List Value) : Prop := ∀ j u, xs[j]? = some u → w.cell? ⟨g, j, none⟩ = some u
theorem RowK.Own.app (ok : r.Ok P) {t : α} {g : Nat} (h : r.Own B w v l) (hB : B ≤ w.heap.size) (hg : BlkIs w g (r.en t)) (hn : l.length ≤ 1000000) :
    ∃ p c w', (dappOp #[r.s, r.s] r.s #[v, .slice (some ⟨g, 0, none⟩) 1 1]).run P w = .ok (.slice p (l.length + 1) c) w' ∧ r.Own B w' (.slice p (l.length + 1) c) (l ++ [t]) ∧ Keeps (fun j => v.ownBlock = some j) w w' ∧ ((Value.slice p (l.length + 1) c).ownBlock = v.ownBlock ∨ (Value.slice p (l.length + 1) c).ownBlock = some w.heap.size) := by
  obtain ⟨i0, z, b, hi, hz0, hz1, hz2, hz3, hb⟩ := ok.info
  obtain ⟨v', w', h2, h3, h4, _, h5⟩ := run_append_own_at (P := P) w B r.s r.s r.e i0 z r.K b ok.hs hi hz0 hz1 hz2 hz3 ok.pos v l.length _ h ⟨g, 0, none⟩ 1 1 (r.cells [t]) (ok.cells_len [t]) (by
    intro j u hj
    rw [addr_at]
    rw [RowK.cells_one] at hj
    exact hg j u hj) (ok.cells_one_cell _) (by unfold maxLen; omega) (Nat.le_trans (Nat.mul_le_mul (show l.length + 1 ≤ 1000001 by omega) hb) (by decide)) hB
  obtain ⟨p, c, rfl⟩ := own_slice h3
  refine ⟨p, c, w', h2, ?_, (Keeps.refl _ w).grown h4 fun k e => .inl e, h5⟩
  rw [← RowK.cells_app] at h3
  unfold RowK.Own
  rw [List.length_append]
  exact h3
/-- what can be appended, from Wd on: m elements -/
def RowK.Can (r : RowK α) (P : Program) (Wd : World) (x : Value) (m : Nat) (news : List α) : Prop := ∀ W, Below Wd.heap.size Wd W → ∀ (Bz : Nat) v l, Bz ≤ Wd.heap.size → l.length ≤ 400000 → r.Own Bz W v l → ∃ p c w', (dappOp #[r.s, r.s] r.s #[v, x]).run P W = .ok (.slice p (l.length + m) c) w' ∧ r.Own Bz w' (.slice p (l.length + m) c) (l ++ news) ∧ Keeps (fun j => v.ownBlock = some j) W w' ∧ ((Value.slice p (l.length + m) c).ownBlock = v.ownBlock ∨ (Value.slice p (l.length + m) c).ownBlock = some W.heap.size)
/-- a slice of a slice, kept shut -/
def dslK (t : TypeId) (x : Value) (lo hi mx : Option Value) : Sem Value := Instr.sliceAt t x lo hi mx
/-- what is left of three appends -/
structure ThreeK (r : RowK α) (P : Program) (Wd W1 W2 : World) (v0 x1 x3 : Value) (o i m : Nat) (n1 n3 : List α) (t : α) (p1 : Option Addr) (c1 : Nat) (w1 : World) (p2 : Option Addr) (c2 : Nat) (w2 : World) (p3 : Option Addr) (c3 : Nat) (w3 : World) : Prop where
  r1 : (dappOp #[r.s, r.s] r.s #[v0, x1]).run P W1 = .ok (.slice p1 i c1) w1
  r2 : (dappOp #[r.s, r.s] r.s #[.slice p1 i c1, .slice (some ⟨o, 0, none⟩) 1 1]).run P W2 = .ok (.slice p2 (i + 1) c2) w2
  r3 : (dappOp #[r.s, r.s] r.s #[.slice p2 (i + 1) c2, x3]).run P w2 = .ok (.slice p3 (i + 1 + m) c3) w3
  b1 : Below Wd.heap.size Wd w1
  b2 : Below Wd.heap.size Wd w2
  b3 : Below Wd.heap.size Wd w3
  own : r.Own Wd.heap.size w3 (.slice p3 (i + 1 + m) c3) (n1 ++ t :: n3)
end
end Go.Proofs.YtdfgbkilaepolaaGreatDoor
namespace Go.Proofs.YtdfgbkilaepolaaGreatDoor
open Go.RowKit
attribute [local go_sem ↓] dapp_op
def rkG : RowK Tok := ⟨44, 50, 4, fun t => [strV t.text, .int .i64 t.pos, .bool (t.sort == 4), .bool (t.sort == 5)]⟩
theorem rkG_ok : rkG.Ok Tryz.prog where
  hs := Tryz.underlying44
  info := info_partsK (show (Tryz.prog.info? 50).map (fun i => (i.zero, i.size, i.bytes)) = some (some (.agg #[.string ⟨#[]⟩, .int .i64 0, .bool false, .bool false]), 4, 32) by kernel_rfl) rfl (by decide)
  size := fun w => Tryz.sizeOf50 w
  pos := by decide
  len := fun _ => rfl
  one := fun a u hu => by
    simp only [rkG, List.mem_cons, List.not_mem_nil, or_false] at hu
    rcases hu with rfl | rfl | rfl | rfl <;> rfl
theorem lex_blank {l : List UInt8} {k : Nat} (h : l[k]? = some 32) : lex k (l.drop k) = lex (k + 1) (l.drop (k + 1)) := by
  obtain ⟨hk, e⟩ := List.getElem?_eq_some_iff.1 h
  have hd : l.drop k = 32 :: l.drop (k + 1) := by rw [List.drop_eq_getElem_cons hk, e]
  rw [hd]
  generalize l.drop (k + 1) = r
  have hb : blankN (32 :: r) = blankN r + 1 := rfl
  have ht : tokAt k (32 :: r) = tokAt (k + 1) r := by
    unfold tokAt
    rw [hb, List.drop_succ_cons, show k + (blankN r + 1) = k + 1 + blankN r by omega]
  have hn : tokN (32 :: r) = tokN r + 1 := by
    unfold tokN
    rw [hb, List.drop_succ_cons]; omega
  by_cases hs : 2 ≤ (tokAt (k + 1) r).sort
  · rw [lex_next (by rw [ht]; exact hs), lex_next hs, ht, hn, List.drop_succ_cons, show k + (tokN r + 1) = k + 1 + tokN r by omega]
  · rw [lex_end (by rw [ht]; omega), lex_end (by omega), ht]
theorem blank_not {l : List UInt8} {k : Nat} (h : l[k]? ≠ some 32) : blankN (l.drop k) = 0 := by
  unfold blankN spanN
  cases hd : l.drop k with
  | nil => rfl
  | cons c r =>
    have : l[k]? = some c := by rw [← List.head?_drop, hd]; rfl
    rw [this] at h
    rw [List.takeWhile_cons]
    have h2 : (c == 32) = false := by
      simp only [beq_eq_false_iff_ne]
      intro e; exact h (by rw [e])
    rw [h2]; rfl
theorem tok_lead {l : List UInt8} {k : Nat} (h : l[k]? ≠ some 32) {K : Nat} {X : List UInt8} {n : Nat} (hT : tokH (l.drop k) = (K, X, n)) : (tokAt k (l.drop k)).sort = K ∧ (tokAt k (l.drop k)).text = X ∧ (tokAt k (l.drop k)).pos = k ∧ tokN (l.drop k) = n := by
  have hb := blank_not h
  unfold tokAt tokN
  rw [hb, List.drop_zero, hT]
  exact ⟨rfl, rfl, rfl, by rw [Nat.zero_add]⟩
theorem lex_step {l : List UInt8} {k : Nat} (h : l[k]? ≠ some 32) {K : Nat} {X : List UInt8} {n : Nat} (hT : tokH (l.drop k) = (K, X, n)) (hK : 2 ≤ K) : ∃ t : Tok, t.sort = K ∧ t.text = X ∧ t.pos = k ∧ lex k (l.drop k) = t :: lex (k + n) (l.drop (k + n)) := by
  obtain ⟨h1, h2, h3, h4⟩ := tok_lead h hT
  refine ⟨_, h1, h2, h3, ?_⟩
  rw [lex_next (by rw [h1]; exact hK), h4, List.drop_drop]
theorem lex_stop {l : List UInt8} {k : Nat} (h : l[k]? ≠ some 32) {K : Nat} {X : List UInt8} {n : Nat} (hT : tokH (l.drop k) = (K, X, n)) (hK : K ≤ 1) : ∃ t : Tok, t.sort = K ∧ t.text = X ∧ t.pos = k ∧ lex k (l.drop k) = [t] := by
  obtain ⟨h1, h2, h3, h4⟩ := tok_lead h hT
  exact ⟨_, h1, h2, h3, lex_end (by rw [h1]; exact hK)⟩
/-- one sign more -/
theorem sign_app {w W : World} {po : Option Addr} {co M : Nat} {pre : List Tok} {t : Tok} {x : ByteArray} {q : Int} {b1 b2 : Bool} (h : rkG.Own w.heap.size W (.slice po M co) pre) (hM : pre.length = M) (hb : Below w.heap.size w W) (hn : M ≤ 100000) (hx : t.text = x.data.toList) (hq : (t.pos : Int) = q) (h1 : (t.sort == 4) = b1) (h2 : (t.sort == 5) = b2) :
    ∃ p c w', (dappOp #[44, 44] 44 #[.slice po M co, .slice (some ⟨W.heap.size, 0, none⟩) 1 1]).run Tryz.prog (W.alloc (.cells #[.string x, .int .i64 q, .bool b1, .bool b2] 50)) = .ok (.slice p (M + 1) c) w' ∧ rkG.Own w.heap.size w' (.slice p (M + 1) c) (pre ++ [t]) ∧ Below w.heap.size w w' := by
  have hA := (Below.refl W.heap.size W).alloc (Nat.le_refl _) (.cells #[.string x, .int .i64 q, .bool b1, .bool b2] 50)
  have bN := Blk.new W 50 #[.string x, .int .i64 q, .bool b1, .bool b2]
  obtain ⟨W2, hW2⟩ : ∃ W2, W.alloc (.cells #[.string x, .int .i64 q, .bool b1, .bool b2] 50) = W2 := ⟨_, rfl⟩
  rw [hW2] at hA bN ⊢
  have hb2 := hb.trans (hA.mono hb.size)
  have he : rkG.en t = [.string x, .int .i64 q, .bool b1, .bool b2] := by
    show [strV t.text, _, _, _] = _
    rw [hx, hq, h1, h2]
    show [Value.string ⟨x.data.toList.toArray⟩, _, _, _] = _
    rw [Array.toArray_toList]
  obtain ⟨p3, c3, w3, e3, o3, k3, _⟩ := RowK.Own.app rkG_ok (t := t) (h.later hA) hb2.size (g := W.heap.size) (fun j u hj => by rw [bN.cell]; rw [he] at hj; simpa using hj) (by omega)
  rw [hM] at e3 o3
  exact ⟨p3, c3, w3, e3, o3, hb2.trans (k3.below (fun j _ e => ((h.later hA).lt j e).1) hb2.size)⟩
theorem rdigit_calls (c : UInt8) (w : World) :
    Calls Tryz.prog 21 #[byteV c] w fun e w' => e = .returned (.bool (isDig c)) ∧ w = w' := by
  unfold byteV
  have h8 := c.toNat_lt
  go_enter Tryz.func21, Tryz.ntmps21
  go_wp2
  all_goals (go_ret; refine ⟨ret_bool ?_, rfl⟩; rw [isDig_int]; simp; try omega)
theorem rletter_calls (c : UInt8) (w : World) :
    Calls Tryz.prog 22 #[byteV c] w fun e w' => e = .returned (.bool (isLet c)) ∧ w = w' := by
  unfold byteV
  have h8 := c.toNat_lt
  go_enter Tryz.func22, Tryz.ntmps22
  go_wp2
  all_goals (go_ret; refine ⟨ret_bool ?_, rfl⟩; rw [isLet_int]; simp_all <;> (rw [Bool.eq_iff_iff]; simp; omega))
end Go.Proofs.YtdfgbkilaepolaaGreatDoor
