/- Walk: the document's tokens. Walk: the document's tokens, its loop. -/
import Derived.Test.YtkibaaljpbcjeaaDoorSCt
namespace Go.Proofs.YtkibaaljpbcjeaaDoor
open Go.RowKit
attribute [local go_sem ↓] dapp_op
/-- what the document's tokens tell -/
def ToksSaid (w : World) (t : Toks) (e : Ending) (w' : World) : Prop :=
  Below w.heap.size w w' ∧ (([] ∈ t ∧ e = .returned (.tuple #[.slice none 0 0, .bool false])) ∨ ([] ∉ t ∧ ∃ p c, e = .returned (.tuple #[.slice p t.length c, .bool true]) ∧ w'.ownsRow w.heap.size 9 1 (.slice p t.length c) t.length (t.map strV)))
/-- tokens so far, and what is left -/
structure TokInv (t : Toks) (s : List UInt8) (acc : Toks) (k : Nat) : Prop where
  eq : t = acc ++ toks (s.drop k)
  ne : [] ∉ acc
  le : acc.length ≤ k
theorem TokInv.next {t : Toks} {s : List UInt8} {acc : Toks} {k m : Nat} {x : List UInt8} (h : TokInv t s acc k) (hx : x ≠ []) (hm : k < m) (e : toks (s.drop k) = x :: toks (s.drop m)) : TokInv t s (acc ++ [x]) m :=
  ⟨by rw [h.eq, e, List.append_assoc]; rfl, fun hm => by
    rcases List.mem_append.1 hm with h1 | h1
    · exact h.ne h1
    · exact hx (List.mem_singleton.1 h1).symm, by have := h.le; rw [List.length_append, List.length_singleton]; omega⟩
theorem op_int {c : UInt8} (h : isOp c = true) : (c.toNat : Int) = 61 ∨ (c.toNat : Int) = 124 ∨ (c.toNat : Int) = 38 ∨ (c.toNat : Int) = 40 ∨ (c.toNat : Int) = 41 := by
  unfold isOp at h
  simp only [Bool.or_eq_true, beq_iff_eq] at h
  rcases h with (((rfl | rfl) | rfl) | rfl) | rfl <;> decide
theorem op_int_no {c : UInt8} (h : isOp c = false) : ¬ (c.toNat : Int) = 61 ∧ ¬ (c.toNat : Int) = 124 ∧ ¬ (c.toNat : Int) = 38 ∧ ¬ (c.toNat : Int) = 40 ∧ ¬ (c.toNat : Int) = 41 := by
  have hx : ∀ d : UInt8, isOp d = true → ¬ c = d := fun d hd e => by rw [e, hd] at h; cases h
  have hn : ∀ d : UInt8, isOp d = true → ¬ (c.toNat : Int) = d.toNat := fun d hd e => hx d hd (by apply UInt8.toNat_inj.1; omega)
  exact ⟨hn 61 rfl, hn 124 rfl, hn 38 rfl, hn 40 rfl, hn 41 rfl⟩
theorem byte_int (c : UInt8) (d : Nat) (hd : d < 256) : (c.toNat : Int) = d ↔ c = UInt8.ofNat d := by
  constructor
  · intro e
    apply UInt8.toNat_inj.1
    rw [UInt8.toNat_ofNat']
    omega
  · rintro rfl
    rw [UInt8.toNat_ofNat']
    omega
end Go.Proofs.YtkibaaljpbcjeaaDoor
namespace Go.Proofs.YtkibaaljpbcjeaaDoor
open Go.RowKit
attribute [local go_sem ↓] dapp_op
def TokRel (s : ByteArray) (w : World) (v i : Value) (wr : World) : Prop := ∃ (k : Nat) (acc : Toks), k ≤ s.size ∧ i = .int .i64 k ∧ TokInv (toks s.data.toList) s.data.toList acc k ∧ wr.ownsRow w.heap.size 9 1 v acc.length (acc.map strV) ∧ Below w.heap.size w wr ∧ w.heap.size ≤ wr.heap.size
/-- an append of one more token: what it leaves -/
theorem tok_push {s : ByteArray} {w wr : World} {p : Option Addr} {c n m : Nat} {acc : Toks} {x : ByteArray} (hs : s.size ≤ 65536) (hI : TokInv (toks s.data.toList) s.data.toList acc n) (hns : n ≤ s.size) (hm : n < m) (hms : m ≤ s.size) (hx : x.data.toList ≠ []) (ht : toks (s.data.toList.drop n) = x.data.toList :: toks (s.data.toList.drop m)) (ho : wr.ownsRow w.heap.size 9 1 (.slice p acc.length c) acc.length (acc.map strV)) (hB : Below w.heap.size w wr) (hz : w.heap.size ≤ wr.heap.size) :
    ∃ p4 c4 w4, (dappOp #[35, 35] 35 #[.slice p acc.length c, .slice (some ⟨wr.heap.size, 0, none⟩) 1 1]).run Tryd.prog (wr.alloc (.cells #[.string x] 9)) = .ok (.slice p4 (acc.length + 1) c4) w4 ∧ TokRel s w (.slice p4 (acc.length + 1) c4) (.int .i64 m) w4 := by
  have hb := (Below.refl wr.heap.size wr).alloc (Nat.le_refl _) (.cells #[.string x] 9)
  have hx4 := Blk.new wr 9 #[.string x]
  have hle := hI.le
  obtain ⟨p4, c4, w4, e4, o4, k4⟩ := str_push (own_keeps (S := fun _ => False) ho (.of_below hb) fun _ _ => id) (by omega) (by have := hb.size; omega) hx4
  have hlow := fun j hj => (ho.lt j hj).1
  have B4 := Keeps.below_step (hB.trans (hb.mono hz)) (by have := hb.size; omega) k4 fun j e => hlow j e
  have z4 := k4.size
  have z5 := hb.size
  refine ⟨p4, c4, w4, e4, m, acc ++ [x.data.toList], hms, rfl, hI.next hx hm ht, ?_, B4, by omega⟩
  rw [show (acc ++ [x.data.toList]).length = acc.length + 1 by simp] at o4 ⊢
  exact o4
theorem tok_word {s : ByteArray} {w wr : World} {p : Option Addr} {c k n : Nat} {acc : Toks} (hs : s.size ≤ 65536) (hI : TokInv (toks s.data.toList) s.data.toList acc k) (hk : k ≤ s.size) (hkn : k ≤ n) (hn : n ≤ s.size) (hw : n = k + (word (s.data.toList.drop k)).length) (hne : word (s.data.toList.drop k) ≠ []) (ht : toks (s.data.toList.drop k) = word (s.data.toList.drop k) :: toks ((s.data.toList.drop k).drop (word (s.data.toList.drop k)).length)) (ho : wr.ownsRow w.heap.size 9 1 (.slice p acc.length c) acc.length (acc.map strV)) (hB : Below w.heap.size w wr) (hz : w.heap.size ≤ wr.heap.size) :
    ∃ p4 c4 w4, (dappOp #[35, 35] 35 #[.slice p acc.length c, .slice (some ⟨wr.heap.size, 0, none⟩) 1 1]).run Tryd.prog (wr.alloc (.cells #[.string (s.extract k n)] 9)) = .ok (.slice p4 (acc.length + 1) c4) w4 ∧ TokRel s w (.slice p4 (acc.length + 1) c4) (.int .i64 n) w4 ∧ k < n := by
  have e : (s.extract k n).data.toList = word (s.data.toList.drop k) := by
    rw [Lib.extract_data, show n - k = (word (s.data.toList.drop k)).length by omega]
    exact (List.prefix_iff_eq_take.1 (word_pre _)).symm
  have hlt : k < n := by
    have : 0 < (word (s.data.toList.drop k)).length := by
      cases hh : word (s.data.toList.drop k) with
      | nil => exact absurd hh hne
      | cons _ _ => exact Nat.succ_pos _
    omega
  obtain ⟨p4, c4, w4, e4, hR⟩ := tok_push hs hI hk hlt hn (by rw [e]; exact hne) (by rw [e, ht, List.drop_drop, ← hw]) ho hB hz
  exact ⟨p4, c4, w4, e4, hR, hlt⟩
set_option maxHeartbeats 4000000 in
set_option maxRecDepth 100000 in
theorem tokens_calls (s : ByteArray) (w : World) (hs : s.size ≤ 65536) : Calls Tryd.prog 20 #[.string s] w (ToksSaid w (toks s.data.toList)) := by
  have hl : s.data.toList.length = s.size := by rw [Lib.size_eq]
  have hcons : ∀ k (h : k < s.size), s.data.toList.drop k = s[k] :: s.data.toList.drop (k + 1) := fun k h => by
    rw [List.drop_eq_getElem_cons (by omega)]; rfl
  have har := arrow_at s
  have hl' := Lib.hid hl
  have hcons' := Lib.hid hcons
  have har' := Lib.hid har
  clear hl hcons har
  go_enter Tryd.func20, Tryd.ntmps20
  go_wp2_with fail
  go_loopw [4, 5] (fun v i wr => TokRel s w v i wr) (fun _ i _ => s.size - (intOf i).toNat)
  case atStart => exact ⟨0, [], Nat.zero_le _, rfl, ⟨by rw [List.drop_zero]; rfl, by simp, Nat.le_refl _⟩, World.ownsRow_nil _ _ _ _, Below.refl _ _, Nat.le_refl _⟩
  case round =>
    obtain ⟨k, acc, hk, rfl, hI, ho, hB, hz⟩ := hrel
    obtain ⟨pv, cv, rfl⟩ := own_slice ho
    by_cases hlt : k < s.size
    · have hc := hcons'.out k hlt
      have hc' := Lib.hid hc
      cases hbl : isBl s[k]
      · have n32 : ¬ (s[k].toNat : Int) = 32 := fun e => by
          have := (byte_int s[k] 32 (by decide)).1 e
          rw [this] at hbl; cases hbl
        have n9 : ¬ (s[k].toNat : Int) = 9 := fun e => by
          have := (byte_int s[k] 9 (by decide)).1 e
          rw [this] at hbl; cases hbl
        have b32 : ((s[k].toNat : Int) == 32) = false := beq_false_of_ne n32
        have b9 : ((s[k].toNat : Int) == 9) = false := beq_false_of_ne n9
        cases hop : isOp s[k]
        · obtain ⟨n61, n124, n38, n40, n41⟩ := op_int_no hop
          have b61 : ((s[k].toNat : Int) == 61) = false := beq_false_of_ne n61
          have b124 : ((s[k].toNat : Int) == 124) = false := beq_false_of_ne n124
          have b38 : ((s[k].toNat : Int) == 38) = false := beq_false_of_ne n38
          have b40 : ((s[k].toNat : Int) == 40) = false := beq_false_of_ne n40
          have b41 : ((s[k].toNat : Int) == 41) = false := beq_false_of_ne n41
          cases ha : arrow (s.data.toList.drop k)
          · have hS := rsign_calls s[k]
            have ha45 : ¬ ((s[k].toNat : Int) = 45 ∧ ∃ h2 : k + 1 < s.size, (s[k + 1].toNat : Int) = 62) := fun e => by
              have := (har'.out k hlt).2 ⟨(byte_int s[k] 45 (by decide)).1 e.1, e.2.1, (byte_int (s[k + 1]'e.2.1) 62 (by decide)).1 e.2.2⟩
              rw [ha] at this; cases this
            cases hn : nameByte s[k]
            · rw [hn] at hS
              have hbad : [] ∈ toks s.data.toList := by
                rw [hI.eq, hc, tk_bad hbl hop (by rw [← hc]; exact ha) hn]; simp
              have hbad' := Lib.hid hbad
              have hS' := Lib.hid hS
              clear hbad hS hI hc hbl hop ha hn
              by_cases h45 : (s[k].toNat : Int) = 45
              · rw [h45] at hS'
                by_cases h2 : k + 1 < s.size
                · have h62 : ((s[k + 1].toNat : Int) == 62) = false := beq_false_of_ne fun e => ha45 ⟨h45, h2, e⟩
                  clear ha45
                  go_wp2_with fail
                  refine (hS'.out _).mono ?_
                  rintro e w1 ⟨rfl, rfl⟩
                  go_wp2_with fail
                  go_ret2
                  exact ⟨hB, .inl ⟨hbad'.out, rfl⟩⟩
                · clear ha45
                  go_wp2_with fail
                  refine (hS'.out _).mono ?_
                  rintro e w1 ⟨rfl, rfl⟩
                  go_wp2_with fail
                  go_ret2
                  exact ⟨hB, .inl ⟨hbad'.out, rfl⟩⟩
              · clear ha45
                have b45 : ((s[k].toNat : Int) == 45) = false := beq_false_of_ne h45
                go_wp2_with fail
                refine (hS'.out _).mono ?_
                rintro e w1 ⟨rfl, rfl⟩
                go_wp2_with fail
                go_ret2
                exact ⟨hB, .inl ⟨hbad'.out, rfl⟩⟩
            · rw [hn] at hS
              have hword : toks (s.data.toList.drop k) = word (s.data.toList.drop k) :: toks ((s.data.toList.drop k).drop (word (s.data.toList.drop k)).length) := by
                rw [hc]
                exact tk_word hn (by rw [← hc]; exact ha)
              have hwne : word (s.data.toList.drop k) ≠ [] := by rw [hc]; exact word_ne hn (by rw [← hc]; exact ha)
              have hA : ((s[k].toNat : Int) == 45) = false ∨ ((s[k].toNat : Int) = 45 ∧ ¬ k + 1 < s.size) ∨ ((s[k].toNat : Int) = 45 ∧ ∃ h2 : k + 1 < s.size, ((s[k + 1].toNat : Int) == 62) = false) := by
                by_cases h45 : (s[k].toNat : Int) = 45
                · by_cases h2 : k + 1 < s.size
                  · exact .inr (.inr ⟨h45, h2, beq_false_of_ne fun e => ha45 ⟨h45, h2, e⟩⟩)
                  · exact .inr (.inl ⟨h45, h2⟩)
                · exact .inl (beq_false_of_ne h45)
              have hword' := Lib.hid hword
              have hwne' := Lib.hid hwne
              have hS' := Lib.hid hS
              have hI' := Lib.hid hI
              have ho' := Lib.hid ho
              have hB' := Lib.hid hB
              clear hword hwne hS hI hc hbl hop ha hn hB ho ha45
              rcases hA with n45 | ⟨n45, n2⟩ | ⟨n45, n2, n62⟩
              all_goals
                try rw [n45] at hS'
                go_wp2_with fail
                refine (hS'.out _).mono ?_
                rintro e w1 ⟨rfl, rfl⟩
                go_wp2_with fail
                go_loop [7] (fun i => ∃ n : Nat, k ≤ n ∧ n ≤ s.size ∧ i = .int .i64 n ∧ n + (word (s.data.toList.drop n)).length = k + (word (s.data.toList.drop k)).length) (fun i => s.size - (intOf i).toNat)
                case atStart => exact ⟨k, Nat.le_refl _, hk, rfl, rfl⟩
                case round =>
                  obtain ⟨n, hkn, hn, rfl, hw⟩ := hrel
                  by_cases hln : n < s.size
                  · have hcn := hcons'.out n hln
                    have hwn : word (s.data.toList.drop n) = if nameByte s[n] && !arrow (s.data.toList.drop n) then s[n] :: word (s.data.toList.drop (n + 1)) else [] := word_drop s.data.toList n (by rw [hl'.out]; exact hln)
                    have hSn := rsign_calls s[n]
                    cases hnb : nameByte s[n]
                    · rw [hnb] at hSn hwn
                      have hw0 : n = k + (word (s.data.toList.drop k)).length := by rw [hwn] at hw; exact hw
                      obtain ⟨p4, c4, w4, e4, hR4, hkn2⟩ := tok_word hs hI'.out hk hkn hn hw0 hwne'.out hword'.out ho'.out hB'.out hz
                      have hSn' := Lib.hid hSn
                      have hR4' := Lib.hid hR4
                      clear hR4 hSn hw hwn hcn hw0
                      first
                      | (exfalso; omega)
                      | (go_wp2_with fail
                         refine (hSn'.out _).mono ?_
                         rintro e w1 ⟨rfl, rfl⟩
                         go_wp2_with fail
                         go_roundw
                         case rel => exact hR4'.out
                         case measure => simp [intOf]; omega)
                    · rw [hnb] at hSn hwn
                      cases har2 : arrow (s.data.toList.drop n)
                      · rw [har2] at hwn
                        have hnx : n + 1 + (word (s.data.toList.drop (n + 1))).length = k + (word (s.data.toList.drop k)).length := by
                          rw [hwn] at hw; simp at hw; omega
                        have hB2 : ((s[n].toNat : Int) == 45) = false ∨ ((s[n].toNat : Int) = 45 ∧ ¬ n + 1 < s.size) ∨ ((s[n].toNat : Int) = 45 ∧ ∃ h2 : n + 1 < s.size, ((s[n + 1].toNat : Int) == 62) = false) := by
                          by_cases h45 : (s[n].toNat : Int) = 45
                          · by_cases h2 : n + 1 < s.size
                            · refine .inr (.inr ⟨h45, h2, beq_false_of_ne fun e => ?_⟩)
                              have := (har'.out n hln).2 ⟨(byte_int s[n] 45 (by decide)).1 h45, h2, (byte_int (s[n + 1]'h2) 62 (by decide)).1 e⟩
                              rw [har2] at this; cases this
                            · exact .inr (.inl ⟨h45, h2⟩)
                          · exact .inl (beq_false_of_ne h45)
                        have hnx' := Lib.hid hnx
                        have hSn' := Lib.hid hSn
                        clear hSn hw hwn hcn hnx
                        rcases hB2 with m45 | ⟨m45, m2⟩ | ⟨m45, m2, m62⟩
                        all_goals
                          first
                          | (exfalso; omega)
                          | (try rw [m45] at hSn'
                             go_wp2_with fail
                             refine (hSn'.out _).mono ?_
                             rintro e w1 ⟨rfl, rfl⟩
                             go_wp2_with fail
                             go_round
                             case rel => exact ⟨n + 1, by omega, by omega, by go_num, hnx'.out⟩
                             case measure => simp [intOf]; omega)
                      · rw [har2] at hwn
                        have hw0 : n = k + (word (s.data.toList.drop k)).length := by rw [hwn] at hw; simpa using hw
                        obtain ⟨h45, h2, h62⟩ := (har'.out n hln).1 har2
                        have c45 : (s[n].toNat : Int) = 45 := by rw [h45]; rfl
                        have c62 : (s[n + 1].toNat : Int) = 62 := by rw [h62]; rfl
                        obtain ⟨p4, c4, w4, e4, hR4, hkn2⟩ := tok_word hs hI'.out hk hkn hn hw0 hwne'.out hword'.out ho'.out hB'.out hz
                        rw [c45] at hSn
                        have hSn' := Lib.hid hSn
                        have hR4' := Lib.hid hR4
                        clear hR4 hSn hw hwn hcn hw0 h45 h62
                        first
                        | (exfalso; omega)
                        | (go_wp2_with fail
                           refine (hSn'.out _).mono ?_
                           rintro e w1 ⟨rfl, rfl⟩
                           go_wp2_with fail
                           go_roundw
                           case rel => exact hR4'.out
                           case measure => simp [intOf]; omega)
                  · obtain rfl : n = s.size := by omega
                    have hw0 : s.size = k + (word (s.data.toList.drop k)).length := by
                      rw [List.drop_eq_nil_of_le (by rw [hl'.out]; exact Nat.le_refl _)] at hw; exact hw
                    obtain ⟨p4, c4, w4, e4, hR4, hkn2⟩ := tok_word hs hI'.out hk hkn hn hw0 hwne'.out hword'.out ho'.out hB'.out hz
                    have hR4' := Lib.hid hR4
                    clear hR4 hw hw0
                    go_wp2_with fail
                    go_roundw
                    case rel => exact hR4'.out
                    case measure => simp [intOf]; omega
          · obtain ⟨h45, h2, h62⟩ := (har'.out k hlt).1 ha
            have c45 : (s[k].toNat : Int) = 45 := by rw [h45]; rfl
            have c62 : (s[k + 1].toNat : Int) = 62 := by rw [h62]; rfl
            have htk : toks (s.data.toList.drop k) = (⟨#[45, 62]⟩ : ByteArray).data.toList :: toks (s.data.toList.drop (k + 2)) := by
              have := tk_arrow (c := s[k]) (u := s.data.toList.drop (k + 1)) (by rw [← hc]; exact ha)
              rw [← hc, List.drop_drop] at this
              exact this
            obtain ⟨p4, c4, w4, e4, hR4⟩ := tok_push (x := ⟨#[45, 62]⟩) hs hI hk (by omega) (by omega : k + 2 ≤ s.size) (List.cons_ne_nil _ _) htk ho hB hz
            have hR4' := Lib.hid hR4
            clear hR4 htk hI hc hbl hop ha ho hB h45 h62
            go_wp2_with fail
            go_roundw
            case rel =>
              have := hR4'.out
              rw [show ((k + 2 : Nat) : Int) = (k : Int) + 2 from rfl] at this
              exact this
            case measure => simp [intOf]; omega
        · have hci := op_int hop
          have htk : toks (s.data.toList.drop k) = (s.extract k (k + 1)).data.toList :: toks (s.data.toList.drop (k + 1)) := by
            rw [hc, tk_op hop, Lib.extract_data, hc, show k + 1 - k = 1 by omega]; rfl
          have hxne : (s.extract k (k + 1)).data.toList ≠ [] := by rw [Lib.extract_data, hc, show k + 1 - k = 1 by omega]; exact List.cons_ne_nil _ _
          obtain ⟨p4, c4, w4, e4, hR4⟩ := tok_push (x := s.extract k (k + 1)) hs hI hk (by omega) (by omega : k + 1 ≤ s.size) hxne htk ho hB hz
          have hR4' := Lib.hid hR4
          clear hR4 htk hI hc hbl hop ho hB hxne
          rcases hci with n | n | n | n | n
          all_goals
            go_wp2_with fail
            go_roundw
            case rel =>
              have := hR4'.out
              rw [show ((k + 1 : Nat) : Int) = (k : Int) + 1 from rfl] at this
              exact this
            case measure => simp [intOf]; omega
      · have htk : toks (s.data.toList.drop k) = toks (s.data.toList.drop (k + 1)) := by rw [hc, tk_blank hbl]
        have hI2 : TokInv (toks s.data.toList) s.data.toList acc (k + 1) := ⟨by rw [hI.eq, htk], hI.ne, by have := hI.le; omega⟩
        have hb12 : (s[k].toNat : Int) = 32 ∨ (s[k].toNat : Int) = 9 := by
          unfold isBl at hbl
          simp only [Bool.or_eq_true, beq_iff_eq] at hbl
          rcases hbl with h | h
          · rw [h]; exact .inl rfl
          · rw [h]; exact .inr rfl
        have hI2' := Lib.hid hI2
        clear htk hI hI2 hbl hc
        rcases hb12 with n | n
        all_goals
          go_wp2_with fail
          go_roundw
          case rel => exact ⟨k + 1, acc, by omega, by go_num, hI2'.out, ho, hB, hz⟩
          case measure => simp [intOf]; omega
    · obtain rfl : k = s.size := by omega
      have hfin : toks s.data.toList = acc := by
        rw [hI.eq, List.drop_eq_nil_of_le (by rw [hl'.out]; exact Nat.le_refl _), tk_nil, List.append_nil]
      have hne := hI.ne
      clear hI
      go_wp2_with fail
      go_ret2
      rw [hfin]
      exact ⟨hB, .inr ⟨hne, pv, cv, rfl, ho⟩⟩
end Go.Proofs.YtkibaaljpbcjeaaDoor
