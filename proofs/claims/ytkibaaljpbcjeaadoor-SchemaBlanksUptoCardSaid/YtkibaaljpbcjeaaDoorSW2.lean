/- Plain words on a line of a schema's text: blanks, tokens. No program in sight. Walks: schema: sign, peek, token, name. Walks: schema: token, name. -/
import Derived.Test.YtkibaaljpbcjeaaDoorStr
import Derived.Lib.SlTrimSet
import Derived.Test.YtkibaaljpbcjeaaDoorW1
import Derived.Test.YtkibaaljpbcjeaaDoorShelf
import Derived.Test.YtkibaaljpbcjeaaDoorKeep
namespace Go.Proofs.YtkibaaljpbcjeaaDoor
open Go.RowKit
def strV (l : List UInt8) : Value := .string ⟨l.toArray⟩
theorem toArr (s : ByteArray) : (⟨s.data.toList.toArray⟩ : ByteArray) = s := by simp
theorem strV_mk (s : ByteArray) : Value.string s = strV s.data.toList := by
  unfold strV; rw [toArr]
def trimL (s : List UInt8) : List UInt8 := Lib.trimLeftS s [32, 9]
/-- one of = | & ( ) -/
def isOp (c : UInt8) : Bool := c == 61 || c == 124 || c == 38 || c == 40 || c == 41
def arrow (l : List UInt8) : Bool := Lib.hasPrefix l [45, 62]
def word : List UInt8 → List UInt8
  | [] => []
  | c :: s => if nameByte c && !arrow (c :: s) then c :: word s else []
def tok1 (t : List UInt8) : List UInt8 := if arrow t then [45, 62] else match t with
  | [] => []
  | c :: s => if isOp c then [c] else word (c :: s)
/-- the next token; none at the end, or where something may not stand -/
def pk (s : List UInt8) : List UInt8 := tok1 (trimL s)
def pbad (s : List UInt8) : Bool := !(trimL s).isEmpty && (pk s).isEmpty
def rest (s : List UInt8) : List UInt8 := (trimL s).drop (pk s).length
def toksF : Nat → List UInt8 → List (List UInt8)
  | 0, _ => []
  | n + 1, s => if (trimL s).isEmpty then [] else if (pk s).isEmpty then [[]] else pk s :: toksF n (rest s)
/-- all tokens; an empty one stands last, where something may not stand -/
def toks (s : List UInt8) : List (List UInt8) := toksF (s.length + 1) s
theorem trimL_le (s : List UInt8) : (trimL s).length ≤ s.length := by
  unfold trimL Lib.trimLeftS
  exact (List.dropWhile_suffix _).length_le
theorem rest_le (s : List UInt8) : (rest s).length ≤ s.length := by
  unfold rest
  rw [List.length_drop]
  have := trimL_le s
  omega
theorem rest_lt {s : List UInt8} (h : (pk s).isEmpty = false) (h2 : (trimL s).isEmpty = false) : (rest s).length < s.length := by
  unfold rest
  rw [List.length_drop]
  have := trimL_le s
  have h3 : 0 < (pk s).length := by cases hp : pk s with
    | nil => rw [hp] at h; cases h
    | cons a l => exact Nat.succ_pos _
  have h4 : 0 < (trimL s).length := by cases hp : trimL s with
    | nil => rw [hp] at h2; cases h2
    | cons a l => exact Nat.succ_pos _
  omega
theorem toksF_more : ∀ (n m : Nat) (s : List UInt8), s.length < n → s.length < m → toksF n s = toksF m s
  | 0, _, s, h, _ => absurd h (Nat.not_lt_zero _)
  | _ + 1, 0, s, _, h => absurd h (Nat.not_lt_zero _)
  | n + 1, m + 1, s, hn, hm => by
    unfold toksF
    split
    · rfl
    · split
      · rfl
      · rename_i h1 h2
        have := rest_lt (by simpa using h2) (by simpa using h1)
        rw [toksF_more n m (rest s) (by omega) (by omega)]
theorem toks_eq (s : List UInt8) : toks s = if (trimL s).isEmpty then [] else if (pk s).isEmpty then [[]] else pk s :: toks (rest s) := by
  conv => lhs; unfold toks toksF
  split
  · rfl
  · split
    · rfl
    · rename_i h1 h2
      have := rest_lt (by simpa using h2) (by simpa using h1)
      unfold toks
      rw [toksF_more s.length ((rest s).length + 1) (rest s) (by omega) (by omega)]
theorem pk_trim {s : List UInt8} (h : (trimL s).isEmpty = true) : pk s = [] := by
  unfold pk
  rw [List.isEmpty_iff.1 h]; rfl
theorem trim_trim (s : List UInt8) : trimL (trimL s) = trimL s := by
  unfold trimL Lib.trimLeftS
  cases h : s.dropWhile ([32, 9].contains ·) with
  | nil => rfl
  | cons c l =>
    have hn : s.dropWhile ([32, 9].contains ·) ≠ [] := by rw [h]; exact List.cons_ne_nil _ _
    have hc := List.head_dropWhile_not (fun c : UInt8 => [32, 9].contains c) hn
    simp only [h, List.head_cons] at hc
    rw [List.dropWhile_cons_of_neg (by rw [hc]; exact Bool.false_ne_true)]
/-- what is left stands at no token's end: nothing was taken -/
theorem toks_stay {s : List UInt8} (h : (pk s).isEmpty = true) : toks (rest s) = toks s := by
  have e : rest s = trimL s := by unfold rest; rw [List.isEmpty_iff.1 h]; rfl
  have ep : pk (trimL s) = pk s := by unfold pk; rw [trim_trim]
  rw [e, toks_eq (trimL s), toks_eq s, trim_trim, ep]
  split
  · rfl
  · simp
theorem word_pre : ∀ t : List UInt8, word t <+: t
  | [] => List.prefix_refl _
  | c :: s => by
    unfold word
    split
    · exact (List.cons_prefix_cons).2 ⟨rfl, word_pre s⟩
    · exact List.nil_prefix
theorem word_drop (t : List UInt8) (k : Nat) (hk : k < t.length) : word (t.drop k) = if nameByte t[k] && !arrow (t.drop k) then t[k] :: word (t.drop (k + 1)) else [] := by
  rw [List.drop_eq_getElem_cons hk]
  rfl
end Go.Proofs.YtkibaaljpbcjeaaDoor
namespace Go.Proofs.YtkibaaljpbcjeaaDoor
open Go.RowKit
set_option maxHeartbeats 400000 in
theorem sign_calls (c : UInt8) (w : World) : Calls Tryd.prog 58 #[.int .u8 c.toNat] w fun e w' => e = .returned (.bool (nameByte c)) ∧ w = w' := by
  have hn := nameByte_int c
  have hn' := Lib.hid hn
  clear hn
  go_enter Tryd.func58, Tryd.ntmps58
  go_wp2
  all_goals
    go_ret
    refine ⟨ret_bool ?_, rfl⟩
    rw [hn'.out]
    grind
theorem hp_arrow (t : List UInt8) : Lib.hasPrefix t [45, 62] = arrow t := rfl
theorem ib_op (c : UInt8) : (0 ≤ Lib.indexByte [61, 124, 38, 40, 41] c) ↔ isOp c = true := by
  unfold isOp
  simp only [Lib.indexByte]
  by_cases h1 : c = 61
  · subst h1; decide
  · by_cases h2 : c = 124
    · subst h2; decide
    · by_cases h3 : c = 38
      · subst h3; decide
      · by_cases h4 : c = 40
        · subst h4; decide
        · by_cases h5 : c = 41
          · subst h5; decide
          · have e1 : (61 == c) = false := beq_false_of_ne (Ne.symm h1)
            have e2 : (124 == c) = false := beq_false_of_ne (Ne.symm h2)
            have e3 : (38 == c) = false := beq_false_of_ne (Ne.symm h3)
            have e4 : (40 == c) = false := beq_false_of_ne (Ne.symm h4)
            have e5 : (41 == c) = false := beq_false_of_ne (Ne.symm h5)
            simp [e1, e2, e3, e4, e5, h1, h2, h3, h4, h5]
/-- a reader of a line -/
def RdAt (w : World) (g : Nat) (s : List UInt8) (odd : Bool) (deep : Int) : Prop := Blk w g 83 #[strV s, .bool odd, .int .i64 deep]
theorem blanks_ascii : ∀ (j : Nat) (b : UInt8), (⟨#[32, 9]⟩ : ByteArray).data.toList[j]? = some b → b.toNat < 128 := by
  intro j b h
  rcases j with _ | _ | j
  · obtain rfl := Option.some.inj h; decide
  · obtain rfl := Option.some.inj h; decide
  · cases h
theorem trim_calls (s : ByteArray) (w : World) : Calls Tryd.prog 56 #[.string s, .string ⟨#[32, 9]⟩] w fun e w' => e = .returned (strV (trimL s.data.toList)) ∧ Below w.heap.size w w' :=
  Tryd.strings_TrimLeft_laid s ⟨#[32, 9]⟩ w (by decide) blanks_ascii
set_option maxHeartbeats 2000000 in
set_option maxRecDepth 100000 in
theorem peek_calls (s : List UInt8) (odd : Bool) (deep : Int) (g : Nat) (w : World) (hs : s.length ≤ 100000000) (h : RdAt w g s odd deep) :
    Calls Tryd.prog 41 #[.pointer (some ⟨g, 0, none⟩)] w fun e w' => e = .returned (strV (pk s)) ∧ RdAt w' g s (odd || pbad s) deep ∧ Keeps (fun j => j = g) w w' := by
  have hT := trim_calls ⟨s.toArray⟩ w
  have hTs : (⟨s.toArray⟩ : ByteArray).data.toList = s := rfl
  rw [hTs] at hT
  obtain ⟨T, eT, dT⟩ : ∃ T : ByteArray, strV (trimL s) = .string T ∧ T.data.toList = trimL s := ⟨⟨(trimL s).toArray⟩, rfl, rfl⟩
  rw [eT] at hT
  have hlen : T.size ≤ 100000000 := by rw [Lib.size_eq, dT]; exact Nat.le_trans (trimL_le s) hs
  have hgl := h.lt
  have qc := Blk.cell h
  unfold strV at qc
  have hT' := Lib.hid hT
  have h' := Lib.hid h
  have hpk : pk s = tok1 (trimL s) := rfl
  have hpb : pbad s = (!(trimL s).isEmpty && (pk s).isEmpty) := rfl
  cases he : (trimL s).isEmpty
  · have hTe : T.toList.isEmpty = false := by rw [Lib.toList_data, dT]; exact he
    have hT0 : 0 < T.size := by
      rw [Lib.size_eq, dT]
      cases ht : trimL s with
      | nil => rw [ht] at he; cases he
      | cons c l => exact Nat.succ_pos _
    have hP := Tryd.strings_HasPrefix T ⟨#[45, 62]⟩
    have hPd : (⟨#[45, 62]⟩ : ByteArray).data.toList = [45, 62] := rfl
    rw [hPd, hp_arrow, dT] at hP
    have hP' := Lib.hid hP
    rw [he, Bool.not_false, Bool.true_and] at hpb
    cases ha : arrow (trimL s)
    · rw [ha] at hP'
      have hI := Tryd.strings_IndexByte ⟨#[61, 124, 38, 40, 41]⟩ (T[0].toNat : Int)
      have hId : (⟨#[61, 124, 38, 40, 41]⟩ : ByteArray).data.toList = [61, 124, 38, 40, 41] := rfl
      have hIc : ((T[0].toNat : Int)).toNat.toUInt8 = T[0] := by simp
      rw [hId, hIc] at hI
      have hib := ib_op T[0]
      have hI' := Lib.hid hI
      have ht : ∃ r, trimL s = T[0] :: r := by
        rw [← dT]
        cases hl : T.data.toList with
        | nil => rw [Lib.size_eq, hl] at hT0; exact absurd hT0 (Nat.lt_irrefl _)
        | cons c l =>
          refine ⟨l, ?_⟩
          have : T[0] = T.data.toList[0]'(by rw [hl]; exact Nat.succ_pos _) := rfl
          rw [this]
          simp [hl]
      obtain ⟨r0, hr0⟩ := ht
      cases hop : isOp T[0]
      · have e1 : pk s = word (trimL s) := by rw [hpk]; unfold tok1; rw [ha, hr0]; simp [hop]
        rw [e1] at hpb
        rw [hpb, e1]
        have hlt0 : Lib.indexByte [61, 124, 38, 40, 41] T[0] < 0 := by
          apply Int.not_le.1
          intro h0
          have := hib.1 h0
          rw [hop] at this; cases this
        generalize Lib.indexByte [61, 124, 38, 40, 41] T[0] = ix at *
        have hwd : ∀ k, (hk : k < T.size) → word ((trimL s).drop k) = if nameByte T[k] && !arrow ((trimL s).drop k) then T[k] :: word ((trimL s).drop (k + 1)) else [] := fun k hk => by
          rw [← dT]
          exact word_drop T.data.toList k (by rw [← Lib.size_eq]; exact hk)
        have hpre : ∀ k, k = (word (trimL s)).length → strV (word (trimL s)) = .string (T.extract 0 k) := fun k hk => by
          rw [strV_mk]; congr 1
          rw [Lib.extract_data, dT, hk]
          have := List.prefix_iff_eq_take.1 (word_pre (trimL s))
          rw [List.drop_zero, Nat.sub_zero]; exact this
        have hP2 : ∀ k w, Calls Tryd.prog 16 #[.string (T.extract k T.size), .string ⟨#[45, 62]⟩] w fun e w' => e = .returned (.bool (arrow ((trimL s).drop k))) ∧ w' = w := fun k w => by
          have := Tryd.strings_HasPrefix (T.extract k T.size) ⟨#[45, 62]⟩ w
          rw [hPd, hp_arrow, Lib.extract_to_end, dT] at this
          exact this
        have hTlen : T.size = (trimL s).length := by rw [Lib.size_eq, dT]
        have hTlen' := Lib.hid hTlen
        have ha' := Lib.hid ha
        have hwd' := Lib.hid hwd
        have hpre' := Lib.hid hpre
        have hP2' := Lib.hid hP2
        have hpb' := Lib.hid hpb
        clear hT h hpk hpb e1 he eT dT hP hPd ha hI hId hIc hib hop hr0 hwd hpre hP2 hTlen
        go_enter Tryd.func41, Tryd.ntmps41
        go_wp2_with fail
        refine hT'.out.mono ?_
        rintro e w1 ⟨rfl, b1⟩
        have h1 := h'.out.below b1 hgl
        have qc1 := Blk.cell h1
        have qf1 := Blk.frozen h1
        unfold strV at qc1
        clear qc
        go_wp2_with fail
        refine (hP'.out w1).mono ?_
        rintro e w2 ⟨rfl, rfl⟩
        go_wp2_with fail
        refine (hI'.out _).mono ?_
        rintro e w2 ⟨rfl, rfl⟩
        go_wp2_with fail
        go_loop [4] (fun i => ∃ k : Nat, k ≤ T.size ∧ i = .int .i64 k ∧ k + (word ((trimL s).drop k)).length = (word (trimL s)).length) (fun i => T.size - (intOf i).toNat)
        case atStart => exact ⟨0, Nat.zero_le _, rfl, by rw [List.drop_zero, Nat.zero_add]⟩
        case round =>
          obtain ⟨k, hk, rfl, hw⟩ := hrel
          have hw' := Lib.hid hw
          clear hw
          have hexit : ∀ k, k ≤ T.size → k + (word ((trimL s).drop k)).length = (word (trimL s)).length → word ((trimL s).drop k) = [] → k = (word (trimL s)).length := fun k _ h1 h2 => by rw [h2] at h1; exact h1
          have hexit' := Lib.hid hexit
          clear hexit
          by_cases hlt : k < T.size
          · have hS := sign_calls T[k]
            have hwk := hwd'.out k hlt
            have hwk' := Lib.hid hwk
            cases hn : nameByte T[k]
            · rw [hn] at hS
              have hex : k = (word (trimL s)).length := hexit'.out k hk hw'.out (by rw [hwk'.out, hn]; rfl)
              have hS' := Lib.hid hS
              clear hS hwk hn
              have hfin := hpre'.out k hex
              have hem : (word (trimL s)).isEmpty = decide (k = 0) := by
                rw [hex]
                cases word (trimL s) with
                | nil => rfl
                | cons a l => rfl
              have hp1 : RdAt w2 g s (odd || decide (k = 0)) deep ∨ k = 0 := by
                by_cases h0 : k = 0
                · exact .inr h0
                · refine .inl ?_
                  rw [decide_eq_false h0, Bool.or_false]; exact h1
              have hp2 : k = 0 → RdAt (w2.setCell ⟨g, 1, none⟩ (.bool true)) g s (odd || decide (k = 0)) deep := fun h0 => by
                rw [decide_eq_true h0, Bool.or_true]; exact Blk.set_ h1 1 (.bool true)
              have hk2 : Keeps (fun j => j = g) w (w2.setCell ⟨g, 1, none⟩ (.bool true)) := (Keeps.of_below b1).trans ((Keeps.refl (fun j => j = g) w2).setCell (p := ⟨g, 1, none⟩) (.inl rfl) _)
              have hp1' := Lib.hid hp1
              have hp2' := Lib.hid hp2
              have hk2' := Lib.hid hk2
              have hfin' := Lib.hid hfin
              have hem' := Lib.hid hem
              have hb1 := Lib.hid b1
              clear hp1 hp2 hk2 hfin hem hex h1 b1
              by_cases h0 : k = 0
              · subst h0
                have hw0 : word (trimL s) = [] := List.isEmpty_iff.1 (hem'.out.trans rfl)
                have hf3 : strV (word (trimL s)) = .string ByteArray.empty := by rw [hw0]; rfl
                have hp3 := Lib.hid (hp2'.out rfl)
                have hf3' := Lib.hid hf3
                have hm3 := Lib.hid hem'.out
                clear hw0 hf3 hp2' hem'
                go_wp2_with fail
                refine (hS'.out _).mono ?_
                rintro e w3 ⟨rfl, rfl⟩
                go_wp2_with fail
                go_ret
                exact ⟨by rw [hf3'.out]; rfl, by rw [hm3.out]; exact hp3.out, hk2'.out⟩
              · go_wp2_with fail
                refine (hS'.out _).mono ?_
                rintro e w3 ⟨rfl, rfl⟩
                go_wp2_with fail
                go_ret
                exact ⟨by rw [hfin'.out]; rfl, by rw [hem'.out]; exact hp1'.out.resolve_right h0, .of_below hb1.out⟩
            · rw [hn] at hS
              have hS' := Lib.hid hS
              have hQ := hP2'.out k
              cases ha2 : arrow ((trimL s).drop k)
              · rw [ha2] at hQ
                have hnx : k + 1 + (word ((trimL s).drop (k + 1))).length = (word (trimL s)).length := by
                  have := hw'.out
                  rw [hwk'.out, hn, ha2] at this
                  simp at this
                  omega
                have hnx' := Lib.hid hnx
                have hQ' := Lib.hid hQ
                clear hS hwk hn hQ ha2 hnx
                go_wp2_with fail
                refine (hS'.out _).mono ?_
                rintro e w3 ⟨rfl, rfl⟩
                go_wp2_with fail
                refine (hQ'.out _).mono ?_
                rintro e w3 ⟨rfl, rfl⟩
                go_wp2_with fail
                go_round
                case rel => exact ⟨k + 1, by omega, by go_num, hnx'.out⟩
                case measure => simp [intOf]; omega
              · rw [ha2] at hQ
                have hex : k = (word (trimL s)).length := hexit'.out k hk hw'.out (by rw [hwk'.out, hn, ha2]; rfl)
                have hQ' := Lib.hid hQ
                have ha3' := Lib.hid ha2
                clear hS hwk hn hQ ha2
                have hfin := hpre'.out k hex
                have hem : (word (trimL s)).isEmpty = decide (k = 0) := by
                  rw [hex]
                  cases word (trimL s) with
                  | nil => rfl
                  | cons a l => rfl
                have hp1 : RdAt w2 g s (odd || decide (k = 0)) deep ∨ k = 0 := by
                  by_cases h0 : k = 0
                  · exact .inr h0
                  · refine .inl ?_
                    rw [decide_eq_false h0, Bool.or_false]; exact h1
                have hp1' := Lib.hid hp1
                have hfin' := Lib.hid hfin
                have hem' := Lib.hid hem
                have hb1 := Lib.hid b1
                have h0 : ¬ k = 0 := fun e => by
                  have h1 := ha'.out
                  have h2 := ha3'.out
                  rw [e, List.drop_zero, h1] at h2
                  cases h2
                clear hp1 hfin hem hex h1 b1
                go_wp2_with fail
                refine (hS'.out _).mono ?_
                rintro e w3 ⟨rfl, rfl⟩
                go_wp2_with fail
                refine (hQ'.out _).mono ?_
                rintro e w3 ⟨rfl, rfl⟩
                go_wp2_with fail
                go_ret
                exact ⟨by rw [hfin'.out]; rfl, by rw [hem'.out]; exact hp1'.out.resolve_right h0, .of_below hb1.out⟩
          · obtain rfl : k = T.size := by omega
            have hex : T.size = (word (trimL s)).length := hexit'.out T.size hk hw'.out (by
              rw [List.drop_eq_nil_of_le]
              · rfl
              · rw [← hTlen'.out]; exact Nat.le_refl _)
            have hfin := hpre'.out T.size hex
            have hfull : T.extract 0 T.size = T := by
              apply ByteArray.ext; apply Array.toList_inj.1
              rw [Lib.extract_data, List.drop_zero, List.take_of_length_le (by rw [← Lib.size_eq]; exact Nat.le_refl _)]
            rw [hfull] at hfin
            have hem : (word (trimL s)).isEmpty = false := by
              cases hw0 : word (trimL s) with
              | nil => rw [hw0] at hex; exact absurd hT0 (by rw [hex]; exact Nat.lt_irrefl _)
              | cons a l => rfl
            have hne : ¬ (T.size = 0) := by omega
            have hbn : ((T.size : Int) == 0) = false := by rw [beq_eq_false_iff_ne]; omega
            have hfin' := Lib.hid hfin
            have hem' := Lib.hid hem
            have hb1 := Lib.hid b1
            have h1' := Lib.hid h1
            clear hfin hem hex h1 b1 hfull hw' hk hlt
            go_wp2_with fail
            go_ret
            exact ⟨by rw [hfin'.out]; rfl, by rw [hem'.out, Bool.or_false]; exact h1'.out, .of_below hb1.out⟩
      · have e1 : pk s = [T[0]] := by rw [hpk, hr0]; unfold tok1; rw [← hr0, ha, hr0]; simp [hop]
        rw [e1] at hpb
        rw [hpb, e1, show ([T[0]] : List UInt8).isEmpty = false from rfl, Bool.or_false]
        have hge : (0 : Int) ≤ Lib.indexByte [61, 124, 38, 40, 41] T[0] := hib.2 hop
        generalize Lib.indexByte [61, 124, 38, 40, 41] T[0] = ix at *
        have hfin : strV [T[0]] = .string (T.extract 0 1) := by
          rw [strV_mk]; congr 1
          rw [Lib.extract_data, dT, hr0]; rfl
        rw [hfin]
        clear hT h hpk hpb e1 he eT dT hP hPd ha hI hId hIc hib hop hr0 hfin
        go_enter Tryd.func41, Tryd.ntmps41
        go_wp2_with fail
        refine hT'.out.mono ?_
        rintro e w1 ⟨rfl, b1⟩
        go_wp2_with fail
        refine (hP'.out w1).mono ?_
        rintro e w2 ⟨rfl, rfl⟩
        go_wp2_with fail
        refine (hI'.out _).mono ?_
        rintro e w2 ⟨rfl, rfl⟩
        go_wp2_with fail
        go_ret
        exact ⟨rfl, h'.out.below b1 hgl, .of_below b1⟩
    · rw [ha] at hP'
      have e1 : pk s = [45, 62] := by rw [hpk]; unfold tok1; rw [if_pos ha]
      rw [e1] at hpb
      rw [hpb, e1, show ([45, 62] : List UInt8).isEmpty = false from rfl, Bool.or_false]
      clear hT h hpk hpb e1 he eT dT hP hPd ha
      go_enter Tryd.func41, Tryd.ntmps41
      go_wp2_with fail
      refine hT'.out.mono ?_
      rintro e w1 ⟨rfl, b1⟩
      go_wp2_with fail
      refine (hP'.out w1).mono ?_
      rintro e w2 ⟨rfl, rfl⟩
      go_wp2_with fail
      go_ret
      exact ⟨rfl, h'.out.below b1 hgl, .of_below b1⟩
  · have hTe : T.toList.isEmpty = true := by rw [Lib.toList_data, dT]; exact he
    have e1 : pk s = [] := pk_trim he
    have e2 : pbad s = false := by unfold pbad; rw [he]; rfl
    rw [e1, e2, Bool.or_false]
    clear hT h hpk hpb e1 e2 he eT dT
    go_enter Tryd.func41, Tryd.ntmps41
    go_wp2_with fail
    refine hT'.out.mono ?_
    rintro e w1 ⟨rfl, b1⟩
    go_wp2_with fail
    go_ret
    exact ⟨rfl, h'.out.below b1 hgl, .of_below b1⟩
end Go.Proofs.YtkibaaljpbcjeaaDoor
namespace Go.Proofs.YtkibaaljpbcjeaaDoor
open Go.RowKit
theorem tok1_le (t : List UInt8) : (tok1 t).length ≤ t.length := by
  unfold tok1
  split
  · rename_i h
    unfold arrow Lib.hasPrefix at h
    exact (List.isPrefixOf_iff_prefix.1 h).length_le
  · split
    · exact Nat.le_refl _
    · split
      · simp
      · exact (word_pre _).length_le
theorem pk_le (s : List UInt8) : (pk s).length ≤ (trimL s).length := tok1_le _
set_option maxHeartbeats 2000000 in
set_option maxRecDepth 100000 in
theorem token_calls (s : List UInt8) (odd : Bool) (deep : Int) (g : Nat) (w : World) (hs : s.length ≤ 100000000) (h : RdAt w g s odd deep) :
    Calls Tryd.prog 40 #[.pointer (some ⟨g, 0, none⟩)] w fun e w' => e = .returned (strV (pk s)) ∧ RdAt w' g (rest s) (odd || pbad s) deep ∧ Keeps (fun j => j = g) w w' := by
  have hP := peek_calls s odd deep g w hs h
  obtain ⟨T, eT, dT⟩ : ∃ T : ByteArray, strV (trimL s) = .string T ∧ T.data.toList = trimL s := ⟨⟨(trimL s).toArray⟩, rfl, rfl⟩
  obtain ⟨Q, eQ, dQ⟩ : ∃ Q : ByteArray, strV (pk s) = .string Q ∧ Q.data.toList = pk s := ⟨⟨(pk s).toArray⟩, rfl, rfl⟩
  have hlen : T.size ≤ 100000000 := by rw [Lib.size_eq, dT]; exact Nat.le_trans (trimL_le s) hs
  have hle : Q.size ≤ T.size := by rw [Lib.size_eq, Lib.size_eq, dT, dQ]; exact pk_le s
  have hrest : strV (rest s) = .string (T.extract Q.size T.size) := by
    rw [strV_mk]; congr 1
    rw [Lib.extract_to_end, dT, Lib.size_eq, dQ]; rfl
  have hT := fun w => trim_calls ⟨s.toArray⟩ w
  have hTs : (⟨s.toArray⟩ : ByteArray).data.toList = s := rfl
  rw [hTs, eT] at hT
  rw [eQ] at hP ⊢
  have hP' := Lib.hid hP
  have hT' := Lib.hid hT
  have hrest' := Lib.hid hrest
  clear hP hT hTs eT eQ dT dQ hrest h
  go_enter Tryd.func40, Tryd.ntmps40
  go_wp2_with fail
  refine hP'.out.mono ?_
  rintro e w1 ⟨rfl, h1, k1⟩
  have q1 := Blk.cell h1
  unfold strV at q1
  have hgl := h1.lt
  have h1' := Lib.hid h1
  clear h1
  go_wp2_with fail
  refine (hT'.out _).mono ?_
  rintro e w2 ⟨rfl, b2⟩
  have h2 := h1'.out.below b2 hgl
  have q2 := Blk.cell h2
  have f2 := Blk.frozen h2
  unfold strV at q2
  have hend : RdAt (w2.setCell ⟨g, 0, none⟩ (.string (T.extract Q.size T.size))) g (rest s) (odd || pbad s) deep := by
    have := Blk.set_ h2 0 (.string (T.extract Q.size T.size))
    rw [← hrest'.out] at this
    rw [← hrest'.out]; exact this
  have hk : Keeps (fun j => j = g) w (w2.setCell ⟨g, 0, none⟩ (.string (T.extract Q.size T.size))) := (k1.trans (.of_below b2)).trans ((Keeps.refl (fun j => j = g) w2).setCell (p := ⟨g, 0, none⟩) (.inl rfl) _)
  have hend' := Lib.hid hend
  have hk' := Lib.hid hk
  clear hend hk h2 b2 k1 q1
  go_wp2_with fail
  go_ret
  exact ⟨rfl, hend'.out, hk'.out⟩
def thisL : List UInt8 := [116, 104, 105, 115]
/-- a relation's name -/
def good (t : List UInt8) : Bool := isName t && !(t == thisL)
theorem bad_good {s : List UInt8} (h : pbad s = true) : good (pk s) = false := by
  unfold pbad at h
  rw [Bool.and_eq_true] at h
  rw [List.isEmpty_iff.1 h.2]; rfl
theorem odd_name (odd : Bool) (s : List UInt8) : (odd || pbad s || !good (pk s)) = (odd || !good (pk s)) := by
  cases hb : pbad s
  · rw [Bool.or_false]
  · rw [bad_good hb]; cases odd <;> rfl
theorem this_eq (s : ByteArray) : (s.toList == [116, 104, 105, 115]) = (s.data.toList == thisL) := by
  rw [Lib.toList_data]; rfl
set_option maxHeartbeats 2000000 in
set_option maxRecDepth 100000 in
theorem name_calls (s : List UInt8) (odd : Bool) (deep : Int) (g : Nat) (w : World) (hs : s.length ≤ 100000000) (h : RdAt w g s odd deep) :
    Calls Tryd.prog 44 #[.pointer (some ⟨g, 0, none⟩)] w fun e w' => e = .returned (strV (pk s)) ∧ RdAt w' g (rest s) (odd || !good (pk s)) deep ∧ Keeps (fun j => j = g) w w' := by
  have hP := token_calls s odd deep g w hs h
  obtain ⟨Q, eQ, dQ⟩ : ∃ Q : ByteArray, strV (pk s) = .string Q ∧ Q.data.toList = pk s := ⟨⟨(pk s).toArray⟩, rfl, rfl⟩
  have hql : Q.size ≤ maxLen := by
    rw [Lib.size_eq, dQ]
    have h1 := pk_le s
    have h2 := trimL_le s
    unfold maxLen; omega
  have hN := fun w => isName_calls Q w hql
  have hth := this_eq Q
  rw [dQ] at hN hth
  rw [eQ] at hP ⊢
  have hon := odd_name odd s
  have hgd : good (pk s) = (isName (pk s) && !(pk s == thisL)) := rfl
  generalize isName (pk s) = b1 at *
  generalize (pk s == thisL) = b2 at *
  rw [hgd] at hon ⊢
  rw [← hon]
  have hP' := Lib.hid hP
  have hN' := Lib.hid hN
  clear hP hN eQ dQ h hon hgd
  cases b1
  · go_enter Tryd.func44, Tryd.ntmps44
    go_wp2_with fail
    refine hP'.out.mono ?_
    rintro e w1 ⟨rfl, h1, k1⟩
    have hend : RdAt (w1.setCell ⟨g, 1, none⟩ (.bool true)) g (rest s) (odd || pbad s || !(false && !b2)) deep := by
      have e : (odd || pbad s || !(false && !b2)) = true := by cases odd <;> cases pbad s <;> rfl
      rw [e]; exact Blk.set_ h1 1 (.bool true)
    have hk : Keeps (fun j => j = g) w (w1.setCell ⟨g, 1, none⟩ (.bool true)) := k1.trans ((Keeps.refl (fun j => j = g) w1).setCell (p := ⟨g, 1, none⟩) (.inl rfl) _)
    have q1 := Blk.cell h1
    have f1 := Blk.frozen h1
    have hend' := Lib.hid hend
    have hk' := Lib.hid hk
    clear hend hk h1 k1
    go_wp2_with fail
    refine (hN'.out _).mono ?_
    rintro e w2 ⟨rfl, rfl⟩
    go_wp2_with fail
    go_ret
    exact ⟨rfl, hend'.out, hk'.out⟩
  · cases b2
    · go_enter Tryd.func44, Tryd.ntmps44
      go_wp2_with fail
      refine hP'.out.mono ?_
      rintro e w1 ⟨rfl, h1, k1⟩
      go_wp2_with fail
      refine (hN'.out _).mono ?_
      rintro e w2 ⟨rfl, rfl⟩
      go_wp2_with fail
      go_ret
      exact ⟨rfl, by rw [show (odd || pbad s || !(true && !false)) = (odd || pbad s) from Bool.or_false _]; exact h1, k1⟩
    · go_enter Tryd.func44, Tryd.ntmps44
      go_wp2_with fail
      refine hP'.out.mono ?_
      rintro e w1 ⟨rfl, h1, k1⟩
      have hend : RdAt (w1.setCell ⟨g, 1, none⟩ (.bool true)) g (rest s) (odd || pbad s || !(true && !true)) deep := by
        have e : (odd || pbad s || !(true && !true)) = true := by cases odd <;> cases pbad s <;> rfl
        rw [e]; exact Blk.set_ h1 1 (.bool true)
      have hk : Keeps (fun j => j = g) w (w1.setCell ⟨g, 1, none⟩ (.bool true)) := k1.trans ((Keeps.refl (fun j => j = g) w1).setCell (p := ⟨g, 1, none⟩) (.inl rfl) _)
      have q1 := Blk.cell h1
      have f1 := Blk.frozen h1
      have hend' := Lib.hid hend
      have hk' := Lib.hid hk
      clear hend hk h1 k1
      go_wp2_with fail
      refine (hN'.out _).mono ?_
      rintro e w2 ⟨rfl, rfl⟩
      go_wp2_with fail
      go_ret
      exact ⟨rfl, hend'.out, hk'.out⟩
end Go.Proofs.YtkibaaljpbcjeaaDoor
