/- Walk: the document's signs of a text without quotes. Walks: conditions: a reader that is bad reads nothing more. -/
import Derived.Test.YtdfgbkilaepolaaGreatDoorPO02
import Derived.Test.YtdfgbkilaepolaaGreatDoorPO06
namespace Go.Proofs.YtdfgbkilaepolaaGreatDoor
open Go.RowKit
attribute [local go_sem ↓] dapp_op
def SgPost (w : World) (L : List Tok) (e : Ending) (w' : World) : Prop := ∃ p c, e = .returned (.slice p L.length c) ∧ rkG.Own w.heap.size w' (.slice p L.length c) L ∧ Below w.heap.size w w'
theorem get_byte (s : ByteArray) (k : Nat) (h : k < s.size) : s.data.toList[k]? = some s[k] := by
  rw [ByteArray.getElem_eq_getElem_data]; simp
theorem drop_take (s : ByteArray) (k m : Nat) : (s.extract k m).data.toList = (s.data.toList.drop k).take (m - k) := by
  simp [List.extract_eq_take_drop]
theorem all_more {p : UInt8 → Bool} {l : List UInt8} {k m : Nat} {c : UInt8} (h : ((l.drop k).take (m - k)).all p = true) (hk : k ≤ m) (hc : l[m]? = some c) (hp : p c = true) : ((l.drop k).take (m + 1 - k)).all p = true := by
  have e : m + 1 - k = (m - k) + 1 := by omega
  have hd : (l.drop k)[m - k]? = some c := by rw [List.getElem?_drop, show k + (m - k) = m by omega]; exact hc
  obtain ⟨h1, h2⟩ := List.getElem?_eq_some_iff.1 hd
  rw [e, List.take_succ_eq_append_getElem h1, List.all_append, h, h2]
  simp [hp]
set_option maxHeartbeats 16000000 in
set_option maxRecDepth 100000 in
theorem signsA_calls (s : ByteArray) (w : World) (hs : s.size ≤ 4096) (hok : ∀ c ∈ s.data.toList, isLet c = true ∨ c = 32 ∨ isDig c = true ∨ c = 61 ∨ c = 60) (h60 : ∀ k : Nat, s.data.toList[k]? = some 60 → s.data.toList[k + 1]? = some 32) :
    Calls Tryz.prog 12 #[.string s] w (SgPost w (lex 0 s.data.toList)) := by
  obtain ⟨L, hL⟩ : ∃ L, lex 0 s.data.toList = L := ⟨_, rfl⟩
  rw [hL]
  obtain ⟨PP, hPP⟩ : ∃ PP, SgPost w L = PP := ⟨_, rfl⟩
  rw [hPP]
  have hPP' := Lib.hid hPP
  have hL' := Lib.hid hL
  have hok' := Lib.hid hok
  have h60' := Lib.hid h60
  have hsz := Lib.hid (Lib.size_eq s)
  clear hPP hL hok h60
  go_enter Tryz.func12, Tryz.ntmps12
  go_wp2_with fail
  go_loopw [3, 4] (fun out iv wr => ∃ (k : Nat) (po : Option Addr) (co : Nat) (pre : List Tok), iv = .int .i64 k ∧ k ≤ s.size ∧ out = .slice po pre.length co ∧ rkG.Own w.heap.size wr out pre ∧ pre ++ lex k (s.data.toList.drop k) = L ∧ pre.length ≤ k ∧ Below w.heap.size w wr) (fun _ iv _ => s.size - (intOf iv).toNat)
  case atStart => exact ⟨0, none, 0, [], rfl, Nat.zero_le _, rfl, RowK.Own.nil _ _ _, by rw [List.drop_zero]; exact hL'.out, Nat.le_refl _, Below.refl _ _⟩
  case round =>
    obtain ⟨k, po, co, pre, rfl, hk, rfl, ho, hL0, hpk, hb⟩ := hrel
    obtain ⟨M, hM⟩ : ∃ M, pre.length = M := ⟨_, rfl⟩
    rw [hM] at ho hpk ⊢
    have ho' := Lib.hid ho
    have hL0' := Lib.hid hL0
    have hb' := Lib.hid hb
    have hM' := Lib.hid hM
    clear ho hL0 hb hM
    by_cases hlt : k < s.size
    · have hi : (k : Int) < (s.size : Int) := by omega
      have hi0 : (0 : Int) ≤ (k : Int) := by omega
      have hg := Lib.hid (get_byte s k hlt)
      have hdr := Lib.hid (drop_at s k hlt)
      obtain ⟨c, hc⟩ : ∃ c, s[k] = c := ⟨_, rfl⟩
      have hg2 := hg.out
      have hdr2 := hdr.out
      rw [hc] at hg2 hdr2
      have hcg := Lib.hid hg2
      have hcd := Lib.hid hdr2
      have hc' := Lib.hid hc
      have h39 : c ≠ 39 := by
        intro e
        have h := hok'.out c (List.mem_of_getElem? hg2)
        rw [e] at h
        exact absurd h (by decide)
      clear hg hdr hg2 hdr2
      by_cases h32 : c = 32
      · have e32 : ((s[k].toNat : Int) == 32) = true := by rw [hc, h32]; rfl
        have hlb := Lib.hid (lex_blank (l := s.data.toList) (k := k) (by rw [hcg.out, h32]))
        clear hc
        go_wp2_with fail
        go_roundw
        case rel => exact ⟨k + 1, po, co, pre, by go_num, by omega, by rw [hM'.out], ho'.out, by rw [← hlb.out]; exact hL0'.out, by rw [hM'.out]; omega, hb'.out⟩
        case measure => simp [intOf]; omega
      · have h32' : s.data.toList[k]? ≠ some 32 := by
          rw [hcg.out]
          intro e
          exact h32 (Option.some.inj e)
        have n32 := Lib.hid h32'
        have e32 : ((s[k].toNat : Int) == 32) = false := by
          rw [hc]
          apply beq_false_of_ne
          intro e
          apply h32
          apply UInt8.toNat_inj.1
          show c.toNat = 32
          omega
        have D := rdigit_calls c wr
        unfold byteV at D
        rw [← hc] at D
        have D' := Lib.hid D
        clear D hc h32'
        go_wp2_with fail
        refine D'.out.mono ?_
        rintro e w' ⟨rfl, rfl⟩
        clear D' e32
        cases hd : isDig s[k]
        · have hd0 := Lib.hid hd
          have D := rletter_calls c wr
          unfold byteV at D
          rw [← hc'.out] at D
          have D' := Lib.hid D
          clear D hd
          go_wp2_with fail
          refine D'.out.mono ?_
          rintro e w' ⟨rfl, rfl⟩
          clear D'
          cases hl : isLet s[k]
          · have hl0 := Lib.hid hl
            have H0 : Hid (isDig c = false ∧ isLet c = false) := Lib.hid ⟨by rw [← hc'.out]; exact hd0.out, by rw [← hc'.out]; exact hl0.out⟩
            clear hl
            have hki1 : (k : Int) ≤ (k : Int) + 1 := by omega
            have hkn1 : (k : Int) + 1 ≤ (s.size : Int) := by omega
            obtain ⟨z, hz⟩ : ∃ z : Int, (s[k].toNat : Int) = z := ⟨_, rfl⟩
            have hzc : Hid (∀ v : UInt8, (v.toNat : Int) = z → c = v) := Lib.hid fun v hv => by
              rw [hc'.out] at hz
              apply UInt8.toNat_inj.1
              omega
            have hzn : ∀ v : UInt8, c ≠ v → (z == (v.toNat : Int)) = false := fun v hv => by
              apply beq_false_of_ne
              intro e
              exact hv (hzc.out v e.symm)
            have z39 : (z == 39) = false := hzn 39 h39
            clear h39
            by_cases z61 : z = 61
            · subst z61
              have hcv : c = 61 := hzc.out 61 rfl
              have h2 : two (c :: s.data.toList.drop (k + 1)) = false := by
                rw [hcv]; unfold two; rw [List.take_succ_cons]; rfl
              have hTm := tokH_mark H0.out.1 H0.out.2 (by rw [hcv]; decide) h2 (by rw [hcv]; rfl)
              have hone : [c] = (s.extract k (k + 1)).data.toList := by rw [drop_take, hcd.out, show k + 1 - k = 1 by omega]; rfl
              rw [hone, ← hcd.out] at hTm
              have hT : tokH (s.data.toList.drop k) = (2, (s.extract k (k + 1)).data.toList, 1) := hTm
              obtain ⟨t, t1, t2, t3, t4⟩ := lex_step n32.out hT (by decide)
              obtain ⟨p2, c2, w2, e2, o2, b2⟩ := sign_app (x := s.extract k (k + 1)) (q := k) (b1 := false) (b2 := false) ho'.out hM'.out hb'.out (by omega) t2 (by rw [t3]) (by rw [t1]; rfl) (by rw [t1]; rfl)
              have hfin : (pre ++ [t]) ++ lex (k + 1) (s.data.toList.drop (k + 1)) = L := by
                rw [List.append_assoc, List.singleton_append]
                rw [show k + (1) = k + 1 by omega] at t4
                rw [← t4]; exact hL0'.out
              have hfin' := Lib.hid hfin
              have o2' := Lib.hid o2
              have b2' := Lib.hid b2
              clear hTm hone h2 hcv hzn
              clear hT t1 t2 t3 t4 hfin o2 b2
              go_wp2_with fail
              go_roundw
              case rel => exact ⟨k + 1, p2, c2, pre ++ [t], by first | rfl | go_num, by omega, by rw [List.length_append, hM'.out]; rfl, o2'.out, hfin'.out, by rw [List.length_append, hM'.out]; simp; omega, b2'.out⟩
              case measure => simp [intOf]; omega
            by_cases z60 : z = 60
            · subst z60
              have hcv : c = 60 := hzc.out 60 rfl
              have hnx := h60'.out k (by rw [hcg.out, hcv])
              have hn1 : k + 1 < s.size := by rw [hsz.out]; exact (List.getElem?_eq_some_iff.1 hnx).1
              have hlt1 : (k : Int) + 1 < (s.size : Int) := by omega
              have hd1 := drop_at s (k + 1) hn1
              have g1 := get_byte s (k + 1) hn1
              rw [g1] at hnx
              have hy61 := Option.some.inj hnx
              have hy1 : (s[k + 1].toNat : Int) = 32 := by rw [hy61]; rfl
              have h2 : two (c :: s.data.toList.drop (k + 1)) = false := by
                rw [hcv, hd1, hy61]; unfold two; rfl
              have hTm := tokH_mark H0.out.1 H0.out.2 (by rw [hcv]; decide) h2 (by rw [hcv]; rfl)
              have hone : [c] = (s.extract k (k + 1)).data.toList := by rw [drop_take, hcd.out, show k + 1 - k = 1 by omega]; rfl
              rw [hone, ← hcd.out] at hTm
              have hT : tokH (s.data.toList.drop k) = (2, (s.extract k (k + 1)).data.toList, 1) := hTm
              obtain ⟨t, t1, t2, t3, t4⟩ := lex_step n32.out hT (by decide)
              obtain ⟨p2, c2, w2, e2, o2, b2⟩ := sign_app (x := s.extract k (k + 1)) (q := k) (b1 := false) (b2 := false) ho'.out hM'.out hb'.out (by omega) t2 (by rw [t3]) (by rw [t1]; rfl) (by rw [t1]; rfl)
              have hfin : (pre ++ [t]) ++ lex (k + 1) (s.data.toList.drop (k + 1)) = L := by
                rw [List.append_assoc, List.singleton_append]
                rw [show k + (1) = k + 1 by omega] at t4
                rw [← t4]; exact hL0'.out
              have hfin' := Lib.hid hfin
              have o2' := Lib.hid o2
              have b2' := Lib.hid b2
              clear hTm hone h2 hcv hzn hd1 g1 hy61 hnx
              clear hT t1 t2 t3 t4 hfin o2 b2
              go_wp2_with fail
              go_roundw
              case rel => exact ⟨k + 1, p2, c2, pre ++ [t], by first | rfl | go_num, by omega, by rw [List.length_append, hM'.out]; rfl, o2'.out, hfin'.out, by rw [List.length_append, hM'.out]; simp; omega, b2'.out⟩
              case measure => simp [intOf]; omega
            exfalso
            have q : ∀ v : UInt8, z ≠ (v.toNat : Int) → c ≠ v := fun v hv e => hv (by rw [← hz, hc'.out, e])
            rcases hok'.out c (List.mem_of_getElem? hcg.out) with h | h | h | h | h
            · rw [H0.out.2] at h; cases h
            · exact h32 h
            · rw [H0.out.1] at h; cases h
            · exact q 61 z61 h
            · exact q 60 z60 h
          · -- a word
            have hl0 := Lib.hid hl
            clear hl
            go_wp2_with fail
            go_loopw [6] (fun nv wi => ∃ m : Nat, nv = .int .i64 m ∧ k + 1 ≤ m ∧ m ≤ s.size ∧ ((s.data.toList.drop k).take (m - k)).all isWrd = true ∧ wi = wr) (fun nv _ => s.size - (intOf nv).toNat)
            case atStart =>
              refine ⟨k + 1, by go_num, Nat.le_refl _, by omega, ?_, rfl⟩
              rw [hcd.out, show k + 1 - k = 1 by omega]
              have : isWrd c = true := by unfold isWrd; rw [← hc'.out, hl0.out, Bool.or_true]
              simp [this]
            case round =>
              obtain ⟨m, rfl, hkm, hm, hall, rfl⟩ := hrel
              have hall' := Lib.hid hall
              clear hall
              by_cases hlm : m < s.size
              · have hg2 := Lib.hid (get_byte s m hlm)
                have hj : (m : Int) < (s.size : Int) := by omega
                have D1 := rdigit_calls s[m] wr
                have D2 := rletter_calls s[m] wr
                unfold byteV at D1 D2
                have D1' := Lib.hid D1
                have D2' := Lib.hid D2
                clear D1 D2
                go_wp2_with fail
                refine D1'.out.mono ?_
                rintro e w' ⟨rfl, rfl⟩
                cases hd : isDig s[m]
                · have hd2 := Lib.hid hd
                  clear hd
                  go_wp2_with fail
                  refine D2'.out.mono ?_
                  rintro e w' ⟨rfl, rfl⟩
                  cases hl : isLet s[m]
                  · have hw : isWrd s[m] = false := by unfold isWrd; rw [hd2.out, hl]; rfl
                    have hX : spanN isWrd (s.data.toList.drop k) = m - k := span_stop hall'.out (by rw [List.length_drop, ← hsz.out]; omega) (fun c2 hc2 => by
                      rw [List.getElem?_drop, show k + (m - k) = m by omega, hg2.out] at hc2
                      rw [← Option.some.inj hc2]; exact hw)
                    have hT : tokH (s.data.toList.drop k) = (3, (s.extract k m).data.toList, m - k) := by
                      rw [hcd.out, tokH_let (by rw [← hc'.out]; exact hd0.out) (by rw [← hc'.out]; exact hl0.out), ← hcd.out, hX, drop_take]
                    obtain ⟨t, t1, t2, t3, t4⟩ := lex_step n32.out hT (by decide)
                    obtain ⟨p2, c2, w2, e2, o2, b2⟩ := sign_app (x := s.extract k m) (q := k) (b1 := false) (b2 := false) ho'.out hM'.out hb'.out (by omega) t2 (by rw [t3]) (by rw [t1]; rfl) (by rw [t1]; rfl)
                    have hfin : (pre ++ [t]) ++ lex m (s.data.toList.drop m) = L := by
                      rw [List.append_assoc, List.singleton_append]
                      rw [show k + (m - k) = m by omega] at t4
                      rw [← t4]; exact hL0'.out
                    have hfin' := Lib.hid hfin
                    have o2' := Lib.hid o2
                    have b2' := Lib.hid b2
                    have hkmi : (k : Int) ≤ (m : Int) := by omega
                    have hmi : (m : Int) ≤ (s.size : Int) := by omega
                    clear hw hX hT t1 t2 t3 t4 hfin o2 b2 hl
                    go_wp2_with fail
                    go_roundw
                    case rel => exact ⟨m, p2, c2, pre ++ [t], rfl, hm, by rw [List.length_append, hM'.out]; rfl, o2'.out, hfin'.out, by rw [List.length_append, hM'.out]; simp; omega, b2'.out⟩
                    case measure => simp [intOf]; omega
                  · have hw : isWrd s[m] = true := by unfold isWrd; rw [hl, Bool.or_true]
                    have hall2 := Lib.hid (all_more hall'.out (by omega) hg2.out hw)
                    clear hl hw
                    go_wp2_with fail
                    go_roundw
                    case rel => exact ⟨m + 1, by go_num, by omega, by omega, hall2.out, trivial⟩
                    case measure => simp [intOf]; omega
                · have hw : isWrd s[m] = true := by unfold isWrd; rw [hd, Bool.true_or]
                  have hall2 := Lib.hid (all_more hall'.out (by omega) hg2.out hw)
                  clear hd hw
                  go_wp2_with fail
                  go_roundw
                  case rel => exact ⟨m + 1, by go_num, by omega, by omega, hall2.out, trivial⟩
                  case measure => simp [intOf]; omega
              · have hX : spanN isWrd (s.data.toList.drop k) = m - k := span_stop hall'.out (by rw [List.length_drop, ← hsz.out]; omega) (fun c2 hc2 => by
                  rw [List.getElem?_drop, show k + (m - k) = m by omega, List.getElem?_eq_none (by rw [← hsz.out]; omega)] at hc2
                  cases hc2)
                have hT : tokH (s.data.toList.drop k) = (3, (s.extract k m).data.toList, m - k) := by
                  rw [hcd.out, tokH_let (by rw [← hc'.out]; exact hd0.out) (by rw [← hc'.out]; exact hl0.out), ← hcd.out, hX, drop_take]
                obtain ⟨t, t1, t2, t3, t4⟩ := lex_step n32.out hT (by decide)
                obtain ⟨p2, c2, w2, e2, o2, b2⟩ := sign_app (x := s.extract k m) (q := k) (b1 := false) (b2 := false) ho'.out hM'.out hb'.out (by omega) t2 (by rw [t3]) (by rw [t1]; rfl) (by rw [t1]; rfl)
                have hfin : (pre ++ [t]) ++ lex m (s.data.toList.drop m) = L := by
                  rw [List.append_assoc, List.singleton_append]
                  rw [show k + (m - k) = m by omega] at t4
                  rw [← t4]; exact hL0'.out
                have hfin' := Lib.hid hfin
                have o2' := Lib.hid o2
                have b2' := Lib.hid b2
                have hkmi : (k : Int) ≤ (m : Int) := by omega
                have hmi : (m : Int) ≤ (s.size : Int) := by omega
                clear hX hT t1 t2 t3 t4 hfin o2 b2
                go_wp2_with fail
                go_roundw
                case rel => exact ⟨m, p2, c2, pre ++ [t], rfl, hm, by rw [List.length_append, hM'.out]; rfl, o2'.out, hfin'.out, by rw [List.length_append, hM'.out]; simp; omega, b2'.out⟩
                case measure => simp [intOf]; omega
        · -- a number
          have hd0 := Lib.hid hd
          clear hd
          go_wp2_with fail
          go_loopw [6] (fun nv wi => ∃ m : Nat, nv = .int .i64 m ∧ k + 1 ≤ m ∧ m ≤ s.size ∧ ((s.data.toList.drop k).take (m - k)).all isDig = true ∧ wi = wr) (fun nv _ => s.size - (intOf nv).toNat)
          case atStart =>
            refine ⟨k + 1, by go_num, Nat.le_refl _, by omega, ?_, rfl⟩
            rw [hcd.out, show k + 1 - k = 1 by omega]
            have : isDig c = true := by rw [← hc'.out, hd0.out]
            simp [this]
          case round =>
            obtain ⟨m, rfl, hkm, hm, hall, rfl⟩ := hrel
            have hall' := Lib.hid hall
            clear hall
            by_cases hlm : m < s.size
            · have hg2 := Lib.hid (get_byte s m hlm)
              have hj : (m : Int) < (s.size : Int) := by omega
              have D1 := rdigit_calls s[m] wr
              unfold byteV at D1
              have D1' := Lib.hid D1
              clear D1
              go_wp2_with fail
              refine D1'.out.mono ?_
              rintro e w' ⟨rfl, rfl⟩
              cases hd : isDig s[m]
              · have hX : spanN isDig (s.data.toList.drop k) = m - k := span_stop hall'.out (by rw [List.length_drop, ← hsz.out]; omega) (fun c2 hc2 => by
                  rw [List.getElem?_drop, show k + (m - k) = m by omega, hg2.out] at hc2
                  rw [← Option.some.inj hc2]; exact hd)
                have hkmi : (k : Int) ≤ (m : Int) := by omega
                have hmi : (m : Int) ≤ (s.size : Int) := by omega
                have hT : tokH (s.data.toList.drop k) = (4, (s.extract k m).data.toList, m - k) := by rw [hcd.out, tokH_dig (by rw [← hc'.out]; exact hd0.out), ← hcd.out, hX, drop_take]
                obtain ⟨t, t1, t2, t3, t4⟩ := lex_step n32.out hT (by decide)
                obtain ⟨p2, c2, w2, e2, o2, b2⟩ := sign_app (x := s.extract k m) (q := k) (b1 := true) (b2 := false) ho'.out hM'.out hb'.out (by omega) t2 (by rw [t3]) (by rw [t1]; rfl) (by rw [t1]; rfl)
                have hfin : (pre ++ [t]) ++ lex (m) (s.data.toList.drop (m)) = L := by
                  rw [List.append_assoc, List.singleton_append]
                  rw [show k + (m - k) = m by omega] at t4
                  rw [← t4]; exact hL0'.out
                have hfin' := Lib.hid hfin
                have o2' := Lib.hid o2
                have b2' := Lib.hid b2
                clear hX hd
                clear hT t1 t2 t3 t4 hfin o2 b2
                go_wp2_with fail
                go_roundw
                case rel => exact ⟨m, p2, c2, pre ++ [t], by first | rfl | go_num, by omega, by rw [List.length_append, hM'.out]; rfl, o2'.out, hfin'.out, by rw [List.length_append, hM'.out]; simp; omega, b2'.out⟩
                case measure => simp [intOf]; omega
              · have hall2 := Lib.hid (all_more hall'.out (by omega) hg2.out hd)
                clear hd
                go_wp2_with fail
                go_roundw
                case rel => exact ⟨m + 1, by go_num, by omega, by omega, hall2.out, trivial⟩
                case measure => simp [intOf]; omega
            · have hX : spanN isDig (s.data.toList.drop k) = m - k := span_stop hall'.out (by rw [List.length_drop, ← hsz.out]; omega) (fun c2 hc2 => by
                rw [List.getElem?_drop, show k + (m - k) = m by omega, List.getElem?_eq_none (by rw [← hsz.out]; omega)] at hc2
                cases hc2)
              have hkmi : (k : Int) ≤ (m : Int) := by omega
              have hmi : (m : Int) ≤ (s.size : Int) := by omega
              have hT : tokH (s.data.toList.drop k) = (4, (s.extract k m).data.toList, m - k) := by rw [hcd.out, tokH_dig (by rw [← hc'.out]; exact hd0.out), ← hcd.out, hX, drop_take]
              obtain ⟨t, t1, t2, t3, t4⟩ := lex_step n32.out hT (by decide)
              obtain ⟨p2, c2, w2, e2, o2, b2⟩ := sign_app (x := s.extract k m) (q := k) (b1 := true) (b2 := false) ho'.out hM'.out hb'.out (by omega) t2 (by rw [t3]) (by rw [t1]; rfl) (by rw [t1]; rfl)
              have hfin : (pre ++ [t]) ++ lex (m) (s.data.toList.drop (m)) = L := by
                rw [List.append_assoc, List.singleton_append]
                rw [show k + (m - k) = m by omega] at t4
                rw [← t4]; exact hL0'.out
              have hfin' := Lib.hid hfin
              have o2' := Lib.hid o2
              have b2' := Lib.hid b2
              clear hX
              clear hT t1 t2 t3 t4 hfin o2 b2
              go_wp2_with fail
              go_roundw
              case rel => exact ⟨m, p2, c2, pre ++ [t], by first | rfl | go_num, by omega, by rw [List.length_append, hM'.out]; rfl, o2'.out, hfin'.out, by rw [List.length_append, hM'.out]; simp; omega, b2'.out⟩
              case measure => simp [intOf]; omega
    · obtain rfl : k = s.size := by omega
      have hnone : s.data.toList[s.size]? = none := List.getElem?_eq_none (by rw [← hsz.out]; exact Nat.le_refl _)
      have hdn : s.data.toList.drop s.size = [] := List.drop_eq_nil_of_le (by rw [← hsz.out]; exact Nat.le_refl _)
      obtain ⟨t, t1, t2, t3, t4⟩ := lex_stop (l := s.data.toList) (k := s.size) (by rw [hnone]; intro e; cases e) (K := 1) (X := []) (n := 0) (by rw [hdn]; rfl) (by decide)
      obtain ⟨p2, c2, w2, e2, o2, b2⟩ := sign_app (x := ⟨#[]⟩) (q := s.size) (b1 := false) (b2 := false) ho'.out hM'.out hb'.out (by omega) t2 (by rw [t3]) (by rw [t1]; rfl) (by rw [t1]; rfl)
      have hfin : pre ++ [t] = L := by rw [← t4]; exact hL0'.out
      have hfin' := Lib.hid hfin
      have o2' := Lib.hid o2
      have b2' := Lib.hid b2
      clear t1 t2 t3 t4 hfin o2 b2 hnone hdn
      go_wp2_with fail
      (try go_ret)
      rw [← hPP'.out, ← hfin'.out]
      exact ⟨p2, c2, by rw [List.length_append, hM'.out]; rfl, by rw [List.length_append, hM'.out]; exact o2'.out, b2'.out⟩
end Go.Proofs.YtdfgbkilaepolaaGreatDoor
namespace Go.Proofs.YtdfgbkilaepolaaGreatDoor
open Go.RowKit
/-- nothing was read, nothing comes back -/
def Idle (w : World) (g : Nat) (s : ByteArray) (l : Toks) (deep : Int) (e : Ending) (w' : World) : Prop :=
  ∃ cs, e = .returned (.agg cs.toArray) ∧ CAt (fun j => w.heap.size ≤ j) w' cs (leaf 0 0 []) ∧ Rd w' g s l deep true ∧ Keeps (fun j => j = g) w w'
set_option maxHeartbeats 1000000 in
theorem unit_idle {w : World} {g : Nat} {s : ByteArray} {l : Toks} {deep : Int} (h : Rd w g s l deep true) :
    Calls Tryz.prog 171 #[.pointer (some ⟨g, 0, none⟩)] w (Idle w g s l deep) := by
  have hgl := h.lt
  obtain ⟨gf, g5, g6⟩ := h.low
  have hR := Lib.hid (h.alloc (.cells condZ 28))
  have hK := Lib.hid ((Keeps.refl (fun j => j = g) w).alloc (.cells condZ 28))
  unfold condZ at hR hK
  clear h
  go_enter Tryz.func171, Tryz.ntmps171
  go_wp2_with fail
  refine bodyPost_ret (v := .agg #[.int .i64 0, .int .i64 0, .string ⟨#[]⟩, .slice none 0 0]) (by simp [results, Tryz.results171, go_sem]) rfl ?_
  exact ⟨_, rfl, CAt.leaf _ _ 0 0 [], hR.out, hK.out⟩
set_option maxHeartbeats 1000000 in
theorem times_idle {w : World} {g : Nat} {s : ByteArray} {l : Toks} {deep : Int} (h : Rd w g s l deep true) :
    Calls Tryz.prog 167 #[.pointer (some ⟨g, 0, none⟩)] w (Idle w g s l deep) := by
  have hgl := h.lt
  have h5 := h.b5
  have hB := Lib.hid (Blk.new w 28 condZ)
  have hz0' := Lib.hid (alloc_size w (.cells condZ 28))
  have h1 := Lib.hid (h.alloc (.cells condZ 28))
  have k1 := Lib.hid ((Keeps.refl (fun j => j = g) w).alloc (.cells condZ 28))
  clear h
  go_enter Tryz.func167, Tryz.ntmps167
  go_wp2_with fail
  refine (unit_idle h1.out).mono ?_
  rintro e w2 ⟨cs, rfl, hC, hR2, k2⟩
  have hB2 := Lib.hid (hB.out.keeps k2 (Nat.ne_of_gt hgl))
  have hK2 := Lib.hid (k1.out.trans k2)
  have hC2 := Lib.hid (hC.mono (Q := fun j => w.heap.size < j) fun j hj _ => by rw [hz0'.out] at hj; exact hj)
  have hR2' := Lib.hid hR2
  clear hC k2 hR2
  obtain ⟨Q, pp, nn, cc, rfl⟩ := hC2.out.open_
  have hA := hB2.out.lt
  have hV := Lib.hid (Var.new hC2.out hA)
  have hR3 := Lib.hid (hR2'.out.alloc (.cells #[.int .i64 (leaf 0 0 []).kind, .int .i64 (leaf 0 0 []).num, .string Q, .slice pp nn cc] 28))
  have hB3 := Lib.hid (hB2.out.alloc (.cells #[.int .i64 (leaf 0 0 []).kind, .int .i64 (leaf 0 0 []).num, .string Q, .slice pp nn cc] 28))
  have hK3 := Lib.hid (hK2.out.alloc (.cells #[.int .i64 (leaf 0 0 []).kind, .int .i64 (leaf 0 0 []).num, .string Q, .slice pp nn cc] 28))
  obtain ⟨w3, e3⟩ : ∃ w3, w2.alloc (.cells #[.int .i64 (leaf 0 0 []).kind, .int .i64 (leaf 0 0 []).num, .string Q, .slice pp nn cc] 28) = w3 := ⟨_, rfl⟩
  obtain ⟨A, eA⟩ : ∃ A, w2.heap.size = A := ⟨_, rfl⟩
  have hA2 : w.heap.size < A := by omega
  have hV : Hid (Var w A w3 (leaf 0 0 [])) := by
    rw [← e3, ← eA]; exact hV
  rw [e3] at hR3 hB3 hK3
  clear hB2 hK2 hC2 hR2' hB h1 k1 hA
  go_wp2_with fail
  clear e3 eA
  go_loopg [6] 0 (fun _ _ wr => w3 = wr)
  case atStart => rfl
  case round =>
    subst hrel
    obtain ⟨Q, pp, nn, cc, hV1, hV2⟩ := hV.out.open_
    have hV2' := Lib.hid hV2
    have a0 := Blk.cell hV1
    have af := Blk.frozen hV1
    have b0 := Blk.cell hB3.out
    have bf := Blk.frozen hB3.out
    unfold condZ at b0
    clear hV1 hV2
    have D := Lib.hid (take_no ⟨#[42]⟩ hR3.out (.inl rfl))
    go_wp2_with fail
    refine D.out.mono ?_
    rintro e w' ⟨rfl, rfl⟩
    clear D
    go_wp2_with fail
    obtain ⟨W, eW, hBW, hRW, hKW⟩ := put_cond rfl hB3.out hR3.out (Nat.ne_of_lt hgl) (Nat.ne_of_lt h5) (.int .i64 (leaf 0 0 []).kind) (.int .i64 (leaf 0 0 []).num) (.string Q) (.slice pp nn cc)
    rw [eW]
    have c5 := hBW.cell
    refine bodyPost_ret (v := .agg #[.int .i64 (leaf 0 0 []).kind, .int .i64 (leaf 0 0 []).num, .string Q, .slice pp nn cc]) (by simp [results, Tryz.results167, go_sem, c5]) rfl ?_
    exact ⟨_, rfl, (hV2'.out.keeps hKW fun j hj _ e => by omega).mono fun j hj _ => Nat.le_of_lt hj.1, hRW, hK3.out.step hKW (fun j e => .inr (by omega))⟩
set_option maxHeartbeats 1000000 in
theorem sum_idle {w : World} {g : Nat} {s : ByteArray} {l : Toks} {deep : Int} (h : Rd w g s l deep true) :
    Calls Tryz.prog 161 #[.pointer (some ⟨g, 0, none⟩)] w (Idle w g s l deep) := by
  have hgl := h.lt
  have h5 := h.b5
  have hB := Lib.hid (Blk.new w 28 condZ)
  have hz0' := Lib.hid (alloc_size w (.cells condZ 28))
  have h1 := Lib.hid (h.alloc (.cells condZ 28))
  have k1 := Lib.hid ((Keeps.refl (fun j => j = g) w).alloc (.cells condZ 28))
  clear h
  go_enter Tryz.func161, Tryz.ntmps161
  go_wp2_with fail
  refine (times_idle h1.out).mono ?_
  rintro e w2 ⟨cs, rfl, hC, hR2, k2⟩
  have hB2 := Lib.hid (hB.out.keeps k2 (Nat.ne_of_gt hgl))
  have hK2 := Lib.hid (k1.out.trans k2)
  have hC2 := Lib.hid (hC.mono (Q := fun j => w.heap.size < j) fun j hj _ => by rw [hz0'.out] at hj; exact hj)
  have hR2' := Lib.hid hR2
  clear hC k2 hR2
  obtain ⟨Q, pp, nn, cc, rfl⟩ := hC2.out.open_
  have hA := hB2.out.lt
  have hV := Lib.hid (Var.new hC2.out hA)
  have hR3 := Lib.hid (hR2'.out.alloc (.cells #[.int .i64 (leaf 0 0 []).kind, .int .i64 (leaf 0 0 []).num, .string Q, .slice pp nn cc] 28))
  have hB3 := Lib.hid (hB2.out.alloc (.cells #[.int .i64 (leaf 0 0 []).kind, .int .i64 (leaf 0 0 []).num, .string Q, .slice pp nn cc] 28))
  have hK3 := Lib.hid (hK2.out.alloc (.cells #[.int .i64 (leaf 0 0 []).kind, .int .i64 (leaf 0 0 []).num, .string Q, .slice pp nn cc] 28))
  obtain ⟨w3, e3⟩ : ∃ w3, w2.alloc (.cells #[.int .i64 (leaf 0 0 []).kind, .int .i64 (leaf 0 0 []).num, .string Q, .slice pp nn cc] 28) = w3 := ⟨_, rfl⟩
  obtain ⟨A, eA⟩ : ∃ A, w2.heap.size = A := ⟨_, rfl⟩
  have hA2 : w.heap.size < A := by omega
  have hV : Hid (Var w A w3 (leaf 0 0 [])) := by
    rw [← e3, ← eA]; exact hV
  rw [e3] at hR3 hB3 hK3
  clear hB2 hK2 hC2 hR2' hB h1 k1 hA
  go_wp2_with fail
  clear e3 eA
  go_loopg [6] 0 (fun _ _ wr => w3 = wr)
  case atStart => rfl
  case round =>
    subst hrel
    obtain ⟨Q, pp, nn, cc, hV1, hV2⟩ := hV.out.open_
    have hV2' := Lib.hid hV2
    have a0 := Blk.cell hV1
    have af := Blk.frozen hV1
    have b0 := Blk.cell hB3.out
    have bf := Blk.frozen hB3.out
    unfold condZ at b0
    clear hV1 hV2
    have D := Lib.hid (take_no ⟨#[43]⟩ hR3.out (.inl rfl))
    go_wp2_with fail
    refine D.out.mono ?_
    rintro e w' ⟨rfl, rfl⟩
    clear D
    have D := Lib.hid (take_no ⟨#[45]⟩ hR3.out (.inl rfl))
    go_wp2_with fail
    refine D.out.mono ?_
    rintro e w' ⟨rfl, rfl⟩
    clear D
    go_wp2_with fail
    obtain ⟨W, eW, hBW, hRW, hKW⟩ := put_cond rfl hB3.out hR3.out (Nat.ne_of_lt hgl) (Nat.ne_of_lt h5) (.int .i64 (leaf 0 0 []).kind) (.int .i64 (leaf 0 0 []).num) (.string Q) (.slice pp nn cc)
    rw [eW]
    have c5 := hBW.cell
    refine bodyPost_ret (v := .agg #[.int .i64 (leaf 0 0 []).kind, .int .i64 (leaf 0 0 []).num, .string Q, .slice pp nn cc]) (by simp [results, Tryz.results161, go_sem, c5]) rfl ?_
    exact ⟨_, rfl, (hV2'.out.keeps hKW fun j hj _ e => by omega).mono fun j hj _ => Nat.le_of_lt hj.1, hRW, hK3.out.step hKW (fun j e => .inr (by omega))⟩
end Go.Proofs.YtdfgbkilaepolaaGreatDoor
