/- Walk: Print of a schema. Walk: the calls whose answers the document fixes. -/
import Derived.Test.YtkibaaljpbcjeaaDoorSC1
import Derived.Test.YtkibaaljpbcjeaaDoorSFx
namespace Go.Proofs.YtkibaaljpbcjeaaDoor
open Go.RowKit
theorem tysaid5 (s : ByteArray) : (s.toList == [116, 121, 112, 101]) = decide (s.data.toList = typeL) := by
  rw [Lib.toList_data]
  show (s.data.toList == typeL) = _
  by_cases h : s.data.toList = typeL
  · rw [h]; rfl
  · rw [decide_eq_false h]; exact beq_false_of_ne h
def PrintSaid (w : World) (T : Option (List UInt8)) (e : Ending) (w' : World) : Prop :=
  ((∃ x, T = some x ∧ e = .returned (.tuple #[.string ⟨x.toArray⟩, .int .i64 0])) ∨ (T = none ∧ e = .returned (.tuple #[.string ⟨#[]⟩, .int .i64 9]))) ∧ Below w.heap.size w w'
set_option maxHeartbeats 8000000 in
set_option maxRecDepth 100000 in
theorem print_calls (v : Value) (ts : List TyD) (w : World) (hS : SchV w v ts) (hW : tysW ts ≤ 900000000) :
    Calls Tryd.prog 12 #[.agg #[v]] w (PrintSaid w (tysT ts)) := by
  obtain ⟨p, c, rfl⟩ := hS.form
  obtain ⟨cs, hrow, hty⟩ := hS
  have hmax := hrow.1
  unfold maxLen at hmax
  -- the boxes of the schema and of the writer
  obtain ⟨w1, e1⟩ : ∃ w1, w.alloc (.cells #[.slice p ts.length c] 25) = w1 := ⟨_, rfl⟩
  have hb1 := (Below.refl w.heap.size w).alloc (Nat.le_refl _) (.cells #[.slice p ts.length c] 25)
  have bx1 := Blk.new w 25 #[.slice p ts.length c]
  have hz1 : w1.heap.size = w.heap.size + 1 := by rw [← e1]; simp
  rw [e1] at hb1 bx1
  obtain ⟨w2, e2⟩ : ∃ w2, w1.alloc (.cells #[.pointer none, .slice none 0 0, .bool false] 63) = w2 := ⟨_, rfl⟩
  have hW2 := WrAt.new w.heap.size w1 (by omega)
  have hb2 := (Below.refl w1.heap.size w1).alloc (Nat.le_refl _) (.cells #[.pointer none, .slice none 0 0, .bool false] 63)
  have hz2 : w2.heap.size = w1.heap.size + 1 := by rw [← e2]; simp
  rw [e2] at hW2 hb2
  have bx2 := bx1.below hb2 (by omega)
  have hK2 : WKeeps w.heap.size w1.heap.size w w2 := (WKeeps.of_below hb1).trans (WKeeps.of_below hb2)
  rw [hz1] at hW2 hK2
  have c1 := bx1.cell
  have c2 := bx2.cell
  have hI0 := PI.start (tysT ts) (tysW ts)
  generalize hT : tysT ts = T at *
  generalize hTW : tysW ts = TW at *
  have hI0' : PI T TW [] false (tysT (ts.drop 0)) (tysW (ts.drop 0)) := by rw [List.drop_zero, hT, hTW]; exact hI0
  have hI0'' := Lib.hid hI0'
  generalize hn : ts.length = n at *
  have hn' := Lib.hid hn
  have hrow' := Lib.hid hrow
  have hty' := Lib.hid hty
  have hW2' := Lib.hid hW2
  have hK2' := Lib.hid hK2
  clear hI0 hI0' hT hTW hn hrow hty hW2 hK2 bx1 bx2 hb1 hb2
  go_enter Tryd.func12, Tryd.ntmps12
  go_wp2_with fail
  go_loopw [14] (fun i wr => ∃ (j : Nat) (li : List UInt8) (odd : Bool), j ≤ n ∧ i = .int .i64 j ∧ PI T TW li odd (tysT (ts.drop j)) (tysW (ts.drop j)) ∧ WrAt w.heap.size (w.heap.size + 1) wr li odd ∧ WKeeps w.heap.size (w.heap.size + 1) w wr ∧ w.heap.size + 2 ≤ wr.heap.size) (fun i _ => n - (intOf i).toNat)
  case atStart => exact ⟨0, [], false, Nat.zero_le _, rfl, hI0''.out, hW2'.out, hK2'.out, by omega⟩
  case round =>
    obtain ⟨j, li, odd, hj, rfl, hI, hWr, hK, hz⟩ := hrel
    by_cases hlt : j < n
    · obtain ⟨wo, rfl⟩ : ∃ wo : World, wo = wr := ⟨_, rfl⟩
      have hjl : j < ts.length := by rw [hn'.out]; exact hlt
      obtain ⟨⟨nm, rels⟩, hq⟩ : ∃ q, ts[j]? = some q := ⟨_, List.getElem?_eq_getElem hjl⟩
      have hdr : ts.drop j = (nm, rels) :: ts.drop (j + 1) := by
        rw [List.drop_eq_getElem_cons hjl, (List.getElem?_eq_some_iff.1 hq).2]
      have hBr : Below w.heap.size w wo := hK.below (Nat.le_refl _)
      obtain ⟨g, o, rfl, hc1, hcell⟩ := hrow'.out.cell (by omega)
      obtain ⟨N, rp, rc, rcs, hN, lg, x0, x1, hrr, hrv⟩ := hty'.out.part hcell hq
      have tr : ∀ i v, w.cell? ⟨g, i, none⟩ = some v → wo.cell? ⟨g, i, none⟩ = some v := fun i v hv => by rw [hBr.cell (p := ⟨g, i, none⟩) lg]; exact hv
      have y0 := tr _ _ x0
      have y1 := tr _ _ x1
      have lgr : g < wo.heap.size := by omega
      -- the type's box
      obtain ⟨w3, e3⟩ : ∃ w3, wo.alloc (.cells #[.string N, .slice rp rels.length rc] 39) = w3 := ⟨_, rfl⟩
      have hb3 := (Below.refl wo.heap.size wo).alloc (Nat.le_refl _) (.cells #[.string N, .slice rp rels.length rc] 39)
      have bt3 := Blk.new wo 39 #[.string N, .slice rp rels.length rc]
      have hz3 : w3.heap.size = wo.heap.size + 1 := by rw [← e3]; simp
      rw [e3] at hb3 bt3
      have hW3 := hWr.later hb3
      have hK3 := hK.trans (WKeeps.of_below (B := w.heap.size) (b := w.heap.size + 1) hb3)
      have bl3 := hW3.lt
      rw [hdr] at hI
      have hlen := hI.len
      rw [tysW_cons] at hlen
      have sN := Lib.size_eq N
      rw [hN] at sN
      have P3 := put_calls _ (w.heap.size + 1) w3 li odd ⟨#[116, 121, 112, 101, 32]⟩ hW3 (by rw [show (⟨#[116, 121, 112, 101, 32]⟩ : ByteArray).size = 5 from rfl]; omega) (by omega)
      have hbn : wo.heap.size ≠ w.heap.size + 1 := by have := hWr.lt; omega
      have P3' := Lib.hid P3
      have bt3' := Lib.hid bt3
      have hK3' := Lib.hid hK3
      have hI' := Lib.hid hI
      have hrr' := Lib.hid hrr
      have hrv' := Lib.hid hrv
      clear P3 bt3 hK3 hI hrr hrv hW3 hWr hK hb3 hdr hq hjl tr x0 x1 hcell lg hBr
      go_wp2_with fail
      refine P3'.out.mono ?_
      rintro e w4 ⟨rfl, hW4, k4⟩
      have z4 := k4.size
      have bt4 := bt3'.out.wkeeps k4 (by decide) hbn
      have hK4 := hK3'.out.trans k4
      have c4 := bt4.cell
      have P4 := wname_calls _ (w.heap.size + 1) w4 _ odd N hW4 (by rw [List.length_append, show (⟨#[116, 121, 112, 101, 32]⟩ : ByteArray).data.toList.length = 5 from rfl]; omega) (by omega)
      rw [hN] at P4
      have l4 := bt4.lt
      have P4' := Lib.hid P4
      have bt4' := Lib.hid bt4
      have hK4' := Lib.hid hK4
      clear P4 bt4 hK4 hW4 k4 P3' bt3' hK3'
      go_wp2_with fail
      refine P4'.out.mono ?_
      rintro e w5 ⟨rfl, hW5, k5⟩
      have z5 := k5.size
      have bt5 := bt4'.out.wkeeps k5 (by decide) hbn
      have hK5 := hK4'.out.trans k5
      have P5 := put_calls _ (w.heap.size + 1) w5 _ _ ⟨#[10]⟩ hW5 (by simp only [List.length_append]; rw [show (⟨#[116, 121, 112, 101, 32]⟩ : ByteArray).data.toList.length = 5 from rfl, show (⟨#[10]⟩ : ByteArray).size = 1 from rfl]; omega) (by omega)
      have bl5 := hW5.lt
      have P5' := Lib.hid P5
      have bt5' := Lib.hid bt5
      have hK5' := Lib.hid hK5
      clear P5 bt5 hK5 hW5 k5 P4' bt4' hK4' c4
      go_wp2_with fail
      refine P5'.out.mono ?_
      rintro e w6 ⟨rfl, hW6, k6⟩
      have z6 := k6.size
      have bt6 := bt5'.out.wkeeps k6 (by decide) hbn
      have hK6 := hK5'.out.trans k6
      have hI6 := hI'.out.type (l' := li ++ (⟨#[116, 121, 112, 101, 32]⟩ : ByteArray).data.toList ++ nm ++ (⟨#[10]⟩ : ByteArray).data.toList) (odd' := odd || !good nm) (by
        show li ++ [116, 121, 112, 101, 32] ++ nm ++ [10] = li ++ ([116, 121, 112, 101] ++ [32] ++ nm ++ [10])
        simp) rfl
      have c6 := bt6.cell
      have l6 := bt6.lt
      have hrx := hrr'.out.1
      unfold maxLen at hrx
      generalize li ++ (⟨#[116, 121, 112, 101, 32]⟩ : ByteArray).data.toList ++ nm ++ (⟨#[10]⟩ : ByteArray).data.toList = L6 at *
      generalize (odd || !good nm) = odd6 at *
      have hI60 : PI T TW L6 odd6 (restT (rels.drop 0) (ts.drop (j + 1))) (restW (rels.drop 0) (ts.drop (j + 1))) := by rw [List.drop_zero]; exact hI6
      generalize hnr : rels.length = nr at *
      have hnr' := Lib.hid hnr
      have hI6' := Lib.hid hI60
      have hW6' := Lib.hid hW6
      have bt6' := Lib.hid bt6
      have hK6' := Lib.hid hK6
      clear hI6 hI60 hnr hW6 bt6 hK6 k6 P5' bt5' hK5' hI' hlen sN
      go_wp2_with fail
      go_loopw [33] (fun i wr => ∃ (k : Nat) (lk : List UInt8) (od : Bool), k ≤ nr ∧ i = .int .i64 k ∧ PI T TW lk od (restT (rels.drop k) (ts.drop (j + 1))) (restW (rels.drop k) (ts.drop (j + 1))) ∧ WrAt w.heap.size (w.heap.size + 1) wr lk od ∧ WKeeps w.heap.size (w.heap.size + 1) w wr ∧ w.heap.size + 2 ≤ wr.heap.size) (fun i _ => nr - (intOf i).toNat)
      case atStart => exact ⟨0, _, _, Nat.zero_le _, rfl, hI6'.out, hW6'.out, hK6'.out, by omega⟩
      case round =>
        obtain ⟨k, lk, od, hk, rfl, hIk, hWk, hKk, hzk⟩ := hrel
        by_cases hlk : k < nr
        · have hkl : k < rels.length := by rw [hnr'.out]; exact hlk
          obtain ⟨⟨mm, r⟩, hqk⟩ : ∃ q, rels[k]? = some q := ⟨_, List.getElem?_eq_getElem hkl⟩
          have hdk : rels.drop k = (mm, r) :: rels.drop (k + 1) := by
            rw [List.drop_eq_getElem_cons hkl, (List.getElem?_eq_some_iff.1 hqk).2]
          have hBs : Below w.heap.size w wr := hKk.below (Nat.le_refl _)
          obtain ⟨h1, u1, rfl, hd1, hck⟩ := hrr'.out.cell (by omega)
          obtain ⟨M, kk, a, bb, q, d, hM, lh, v0, v1, v2, v3, v4, R⟩ := hrv'.out.part hck hqk
          have tr : ∀ i v, w.cell? ⟨h1, i, none⟩ = some v → wr.cell? ⟨h1, i, none⟩ = some v := fun i v hv => by rw [hBs.cell (p := ⟨h1, i, none⟩) lh]; exact hv
          have y0 := tr _ _ v0
          have y1 := tr _ _ v1
          have y2 := tr _ _ v2
          have y3 := tr _ _ v3
          have y4 := tr _ _ v4
          have lhr : h1 < wr.heap.size := by omega
          -- the relation's box
          obtain ⟨w7, e7⟩ : ∃ w7, wr.alloc (.cells #[.string M, .int .i64 kk, .string a, .string bb, .slice q r.parts.length d] 44) = w7 := ⟨_, rfl⟩
          have hb7 := (Below.refl wr.heap.size wr).alloc (Nat.le_refl _) (.cells #[.string M, .int .i64 kk, .string a, .string bb, .slice q r.parts.length d] 44)
          have br7 := Blk.new wr 44 #[.string M, .int .i64 kk, .string a, .string bb, .slice q r.parts.length d]
          have hz7 : w7.heap.size = wr.heap.size + 1 := by rw [← e7]; simp
          rw [e7] at hb7 br7
          have hW7 := hWk.later hb7
          have hK7 := hKk.trans (WKeeps.of_below (B := w.heap.size) (b := w.heap.size + 1) hb7)
          have bl7 := hW7.lt
          have hbk : wr.heap.size ≠ w.heap.size + 1 := by have := hWk.lt; omega
          rw [hdk] at hIk
          have hlen := hIk.len
          rw [restW_cons] at hlen
          have sM := Lib.size_eq M
          rw [hM] at sM
          -- the flag
          have hty5 := tysaid5 M
          rw [hM] at hty5
          obtain ⟨w8, e8⟩ : ∃ w8, w7.setCell ⟨w.heap.size + 1, 2, none⟩ (.bool (od || decide (mm = typeL))) = w8 := ⟨_, rfl⟩
          obtain ⟨hW8, k8⟩ := hW7.odd (od || decide (mm = typeL))
          rw [e8] at hW8 k8
          have br8 := br7.wkeeps k8 (by decide) hbk
          have hK8 := hK7.trans k8
          have z8 := k8.size
          have c7 := br7.cell
          have c8 := br8.cell
          have bl8 := hW8.lt
          have l8 := br8.lt
          obtain ⟨q7, f7⟩ := hW7.flag
          have f72 := f7 2
          have P8 := wname_calls _ (w.heap.size + 1) w8 _ _ M hW8 (by omega) (by omega)
          rw [hM] at P8
          have P8' := Lib.hid P8
          have br8' := Lib.hid br8
          have hK8' := Lib.hid hK8
          have hIk' := Lib.hid hIk
          have R' := Lib.hid R
          have hlen' := Lib.hid hlen
          clear P8 br8 hK8 hW8 k8 hIk hW7 hWk hK7 hKk br7 hb7 hdk hqk hkl tr v0 v1 v2 v3 v4 hck f7 R hlen
          have hall : ∀ w9, WrAt w.heap.size (w.heap.size + 1) w9 (lk ++ mm) (od || decide (mm = typeL) || !good mm) → WKeeps w.heap.size (w.heap.size + 1) w8 w9 → Blk w9 wr.heap.size 44 #[.string M, .int .i64 kk, .string a, .string bb, .slice q r.parts.length d] ∧ WKeeps w.heap.size (w.heap.size + 1) w w9 := fun w9 h9 k9 => ⟨br8'.out.wkeeps k9 (by decide) hbk, hK8'.out.trans k9⟩
          have hall' := Lib.hid hall
          clear hall
          cases od
          all_goals
            simp only [Bool.false_or, Bool.true_or] at e8 P8' hall'
            go_wp2_with fail
            refine P8'.out.mono ?_
            rintro e w9 ⟨rfl, hW9, k9⟩
            have z9 := k9.size
            obtain ⟨br9, hK9⟩ := hall'.out w9 hW9 k9
            have P9 := put_calls _ (w.heap.size + 1) w9 _ _ ⟨#[32, 61, 32]⟩ hW9 (by have := hlen'.out; rw [List.length_append, show (⟨#[32, 61, 32]⟩ : ByteArray).size = 3 from rfl]; omega) (by omega)
            have bl9 := hW9.lt
            have P9' := Lib.hid P9
            have br9' := Lib.hid br9
            have hK9' := Lib.hid hK9
            clear P9 br9 hK9 hW9 k9 c7 c8 y0 y1 y2 y3 y4
            go_wp2_with fail
            refine P9'.out.mono ?_
            rintro e wa ⟨rfl, hWa, ka⟩
            have za := ka.size
            have bra := br9'.out.wkeeps ka (by decide) hbk
            have hKa := hK9'.out.trans ka
            have ca := bra.cell
            have la := bra.lt
            have Pa := wrule_any r w (w.heap.size + 1) wa _ _ kk a bb q _ d R'.out (hKa.below (Nat.le_refl _)) (by omega) hWa (by have := hlen'.out; simp only [List.length_append]; rw [show (⟨#[32, 61, 32]⟩ : ByteArray).data.toList.length = 3 from rfl]; omega)
            have Pa' := Lib.hid Pa
            have hKa' := Lib.hid hKa
            clear Pa bra hKa hWa ka
            go_wp2_with fail
            refine Pa'.out.mono ?_
            rintro e wb ⟨rfl, kb, lb, odb, hlb, hWb, hsb⟩
            have zb := kb.size
            have hKb := hKa'.out.trans kb
            have hlb2 : lb.length ≤ lk.length + mm.length + 3 + r.wt := by
              refine Nat.le_trans hlb ?_
              simp only [List.length_append]; rw [show (⟨#[32, 61, 32]⟩ : ByteArray).data.toList.length = 3 from rfl]; omega
            have Pb := put_calls _ (w.heap.size + 1) wb _ _ ⟨#[10]⟩ hWb (by have := hlen'.out; rw [show (⟨#[10]⟩ : ByteArray).size = 1 from rfl]; omega) (by omega)
            have blb := hWb.lt
            have Pb' := Lib.hid Pb
            have hKb' := Lib.hid hKb
            have hsb' := Lib.hid hsb
            clear Pb hKb hWb kb hsb hlb ca
            go_wp2_with fail
            refine Pb'.out.mono ?_
            rintro e wc ⟨rfl, hWc, kc⟩
            have zc := kc.size
            have hKc := hKb'.out.trans kc
            have hIc : PI T TW (lb ++ (⟨#[10]⟩ : ByteArray).data.toList) odb (restT (rels.drop (k + 1)) (ts.drop (j + 1))) (restW (rels.drop (k + 1)) (ts.drop (j + 1))) := by
              refine hIk'.out.rel (by rw [List.length_append, show (⟨#[10]⟩ : ByteArray).data.toList.length = 1 from rfl]; omega) ?_
              unfold relT
              rcases hsb'.out with ⟨h2, h3⟩ | ⟨h2, h3, x, hx, hl⟩
              · refine .inl ⟨h2, ?_⟩
                by_cases hg : good mm = true ∧ mm ≠ typeL
                · rw [if_pos hg]
                  rcases h3 with h3 | h3
                  · first
                      | exact .inl rfl
                      | (exfalso; rw [hg.1, decide_eq_false hg.2] at h3; cases h3)
                  · exact .inr (by rw [h3]; rfl)
                · rw [if_neg hg]; exact .inr rfl
              · first
                  | (cases h3; done)
                  | (refine .inr ⟨h2, rfl, ?_⟩
                     have h4 : good mm = true ∧ mm ≠ typeL := by
                       constructor
                       · cases hg : good mm
                         · rw [hg] at h3; simp at h3
                         · rfl
                       · intro hm
                         rw [decide_eq_true hm] at h3; simp at h3
                     rw [if_pos h4, hx]
                     refine ⟨_, rfl, ?_⟩
                     rw [hl]
                     show lk ++ mm ++ [32, 61, 32] ++ x ++ [10] = lk ++ (mm ++ [32, 61, 32] ++ x ++ [10])
                     simp)
            have hIc' := Lib.hid hIc
            have hWc' := Lib.hid hWc
            have hKc' := Lib.hid hKc
            clear hIc hWc hKc kc hlb2
            go_wp2_with fail
            go_roundw
            case rel => exact ⟨k + 1, _, _, by omega, by go_num, hIc'.out, hWc'.out, hKc'.out, by omega⟩
            case measure => simp [intOf]; omega
        · obtain rfl : k = nr := by omega
          have hIe : PI T TW lk od (tysT (ts.drop (j + 1))) (tysW (ts.drop (j + 1))) := by
            have h := hIk
            rw [List.drop_eq_nil_of_le (by rw [hnr'.out]; exact Nat.le_refl _), restT_nil, restW_nil] at h
            exact h
          have hIe' := Lib.hid hIe
          have hWk' := Lib.hid hWk
          have hKk' := Lib.hid hKk
          clear hIe hIk hWk hKk
          go_wp2_with fail
          go_roundw
          case rel => exact ⟨j + 1, _, _, by omega, by go_num, hIe'.out, hWk'.out, hKk'.out, by omega⟩
          case measure => simp [intOf]; omega
    · obtain rfl : j = n := by omega
      have hE := hI
      rw [List.drop_eq_nil_of_le (by rw [hn'.out]; exact Nat.le_refl _)] at hE
      have hE2 := hE.done
      have P := string_calls _ (w.heap.size + 1) wr li odd hWr (by omega)
      have hB := hK.below (Nat.le_refl _)
      obtain ⟨qf, ff⟩ := hWr.flag
      have bl := hWr.lt
      have P' := Lib.hid P
      have hB' := Lib.hid hB
      have hE' := Lib.hid hE2
      clear P hB hE hE2 hI hWr hK ff
      cases odd
      · go_wp2_with fail
        refine P'.out.mono ?_
        rintro e we ⟨rfl, hbe⟩
        go_wp2_with fail
        go_ret2
        refine ⟨.inl ⟨li, ?_, rfl⟩, hB'.out.trans hbe⟩
        rcases hE'.out with ⟨h, _⟩ | ⟨_, h⟩
        · cases h
        · exact h
      · go_wp2_with fail
        go_ret2
        refine ⟨.inr ⟨?_, rfl⟩, hB'.out⟩
        rcases hE'.out with ⟨_, h⟩ | ⟨h, _⟩
        · exact h
        · cases h
end Go.Proofs.YtkibaaljpbcjeaaDoor
namespace Go.Proofs.YtkibaaljpbcjeaaDoor
open Go.RowKit
theorem ParseSaid.yes {w w' : World} {ls : List (List UInt8)} {e : Ending} {ts : List TyD} (h : ParseSaid w ls e w') (hp : parseG ls 0 [] = (some ts, 0)) : ∃ p c us, e = .returned (.tuple #[.agg #[.slice p ts.length c], .int .i64 0, .int .i64 0]) ∧ Sch (w.heap.size + 3) w' (.slice p ts.length c) us ts ∧ Below w.heap.size w w' := by
  obtain ⟨hb, h⟩ := h
  rw [hp] at h
  rcases h with ⟨k, hk, _⟩ | ⟨ts', v, us, ht, he, hS⟩
  · cases (Prod.mk.inj hk).1
  · obtain rfl := Option.some.inj (Prod.mk.inj ht).1
    obtain ⟨p, c, rfl⟩ := own_slice hS.row
    exact ⟨p, c, us, he, hS, hb⟩
theorem ParseSaid.no {w w' : World} {ls : List (List UInt8)} {e : Ending} {k : Int} (h : ParseSaid w ls e w') (hp : parseG ls 0 [] = (none, k)) : e = .returned (.tuple #[.agg #[.slice none 0 0], .int .i64 k, .int .i64 9]) ∧ Below w.heap.size w w' := by
  obtain ⟨hb, h⟩ := h
  rw [hp] at h
  rcases h with ⟨k', hk, he⟩ | ⟨ts', v, us, ht, he, hS⟩
  · obtain rfl := (Prod.mk.inj hk).2
    exact ⟨he, hb⟩
  · cases (Prod.mk.inj ht).1
theorem PrintSaid.yes {w w' : World} {T : Option (List UInt8)} {e : Ending} {x : List UInt8} (h : PrintSaid w T e w') (hT : T = some x) : e = .returned (.tuple #[.string ⟨x.toArray⟩, .int .i64 0]) ∧ Below w.heap.size w w' := by
  obtain ⟨h, hb⟩ := h
  rcases h with ⟨y, hy, he⟩ | ⟨hy, _⟩
  · rw [hT] at hy; obtain rfl := Option.some.inj hy; exact ⟨he, hb⟩
  · rw [hT] at hy; cases hy
theorem big_max : 10000000 ≤ maxLen := by unfold maxLen; decide
/-- the cells of the fixed schema -/
theorem fx_cells {w : World} {p : Option Addr} {c : Nat} (h : SchV w (.slice p 1 c) fxs) : ∃ g o g2 o2 c2 g3 o3 c3, p = some ⟨g, o, none⟩ ∧ g < w.heap.size ∧ 1 ≤ c ∧ w.cell? ⟨g, o + 1, none⟩ = some (.slice (some ⟨g2, o2, none⟩) 1 c2) ∧ g2 < w.heap.size ∧ 1 ≤ c2 ∧
    w.cell? ⟨g2, o2 + 1, none⟩ = some (.int .i64 4) ∧ w.cell? ⟨g2, o2 + 2, none⟩ = some (.string ⟨#[]⟩) ∧ w.cell? ⟨g2, o2 + 3, none⟩ = some (.string ⟨#[]⟩) ∧ w.cell? ⟨g2, o2 + 4, none⟩ = some (.slice (some ⟨g3, o3, none⟩) 2 c3) ∧ g3 < w.heap.size ∧ 2 ≤ c3 ∧ w.cell? ⟨g3, o3 + 4, none⟩ = some (.int .i64 5) := by
  obtain ⟨cs, hrow, hty⟩ := h
  obtain ⟨g, o, rfl, hc, hcell⟩ := hrow.cell (by decide)
  obtain ⟨N, rp, rc, rcs, hN, lg, x0, x1, hrr, hrv⟩ := hty.part (i := 0) hcell rfl
  obtain ⟨g2, o2, rfl, hc2, hcell2⟩ := hrr.cell (by decide)
  obtain ⟨M, k, a, b, q, d, hM, lg2, y0, y1, y2, y3, y4, R⟩ := hrv.part (i := 0) hcell2 rfl
  obtain ⟨k', a', b', q', d', ds, e, hr, hrow3, hlen, hps⟩ := R.form
  injection e with e1 e
  injection e with e2 e
  injection e with e3 e
  injection e with e4 _
  injection e1 with _ e1
  injection e2 with e2
  injection e3 with e3
  injection e4 with e4 _ e5
  subst e1 e2 e3 e4 e5
  injection hr with h1 h2 h3 h4
  subst h1
  obtain ⟨g3, o3, rfl, hc3, hcell3⟩ := hrow3.cell (by decide)
  obtain ⟨k5, a5, b5, q5, d5, R5, hr5, lg3, z0, _⟩ := RV.part (i := 1) (ps := [.node 1 [] [] [], .node 5 [] [] [.node 2 [111, 119, 110, 101, 114] [] [], .node 3 [112, 97, 114, 101, 110, 116] vwr []]]) hcell3 rfl (hps 1 _ rfl)
  injection hr5 with h51 h52 h53 h54
  subst h51
  have ea : a = ⟨#[]⟩ := data_inj (b := ⟨#[]⟩) h2.symm
  have eb : b = ⟨#[]⟩ := data_inj (b := ⟨#[]⟩) h3.symm
  subst ea eb
  exact ⟨g, o, g2, o2, rc, g3, o3, d, rfl, lg, hc, x1, lg2, hc2, y1, y2, y3, y4, lg3, hc3, z0⟩
set_option maxHeartbeats 4000000 in
set_option maxRecDepth 100000 in
theorem fixed_calls (m : Int) (w : World) (hg : 0 < w.heap.size) (hm : w.cell? ⟨0, 0, none⟩ = some (.int .i64 m)) :
    Calls Tryd.prog 7 #[] w fun e w' => e = .returned (.bool true) ∧ Below w.heap.size w w' := by
  have hlater : ∀ W, Below w.heap.size w W → 0 < W.heap.size ∧ W.cell? ⟨0, 0, none⟩ = some (.int .i64 m) := fun W hb => ⟨Nat.lt_of_lt_of_le hg hb.size, by rw [hb.cell (p := ⟨0, 0, none⟩) hg]; exact hm⟩
  have P1 := parse_calls fx1 m w (by decide) hg hm
  have hlater' := Lib.hid hlater
  clear hlater hg hm
  go_enter Tryd.func7, Tryd.ntmps7
  go_wp2_with fail
  refine P1.mono ?_
  intro e w1 h1
  obtain ⟨p, c, us, he, hS, hb1⟩ := h1.yes fx1_parse
  rw [show fxs.length = 1 from rfl] at he hS
  subst he
  obtain ⟨w2, e2⟩ : ∃ w2, w1.alloc (.cells #[.slice p 1 c] 25) = w2 := ⟨_, rfl⟩
  have hb2 := (Below.refl w1.heap.size w1).alloc (Nat.le_refl _) (.cells #[.slice p 1 c] 25)
  have bx2 := Blk.new w1 25 #[.slice p 1 c]
  have hz2 : w2.heap.size = w1.heap.size + 1 := by rw [← e2]; simp
  rw [e2] at hb2 bx2
  have hs1 := hb1.size
  have B2 := hb1.trans (hb2.mono hs1)
  have hV : SchV w1 (.slice p 1 c) fxs := SchV.of_sch hS (N := 1000) (Nat.le_trans (by decide) big_max) (tsSmall_of fxs_W)
  obtain ⟨hg2, hm2⟩ := hlater'.out w2 B2
  have P2 := parse_calls fx2 m w2 (by decide) hg2 hm2
  have bx2' := Lib.hid bx2
  have B2' := Lib.hid B2
  have hb2' := Lib.hid hb2
  have hV' := Lib.hid hV
  clear P1 hS hg2 hm2 bx2 B2 hb2 hV hb1
  go_wp2_with fail
  refine P2.mono ?_
  intro e w3 h3
  obtain ⟨rfl, hb3⟩ := h3.no fx2_parse
  have hs3 := hb3.size
  have hV3 := (hV'.out.later hb2'.out).later hb3
  obtain ⟨g, o, g2, o2, c2, g3, o3, c3, rfl, lg, hc, x1, lg2, hc2, y1, y2, y3, y4, lg3, hc3, z0⟩ := fx_cells hV3
  have bx3 := bx2'.out.below hb3 (by omega)
  have cx3 := bx3.cell
  have lx3 := bx3.lt
  have hb4 := (Below.refl w3.heap.size w3).alloc (Nat.le_refl _) (.cells #[.slice none 0 0] 25)
  have hV4 := hV3.later hb4
  have bx4 := bx3.below hb4 lx3
  have B4 := B2'.out.trans ((hb3.trans (hb4.mono hs3)).mono (by omega))
  obtain ⟨w5, e5⟩ : ∃ w5, (w3.alloc (.cells #[.slice none 0 0] 25)).alloc (.cells #[.int .i64 4, .string ⟨#[]⟩, .string ⟨#[]⟩, .slice (some ⟨g3, o3, none⟩) 2 c3] 42) = w5 := ⟨_, rfl⟩
  have hb5 := (Below.refl (w3.alloc (.cells #[.slice none 0 0] 25)).heap.size (w3.alloc (.cells #[.slice none 0 0] 25))).alloc (Nat.le_refl _) (.cells #[.int .i64 4, .string ⟨#[]⟩, .string ⟨#[]⟩, .slice (some ⟨g3, o3, none⟩) 2 c3] 42)
  have br5 := Blk.new (w3.alloc (.cells #[.slice none 0 0] 25)) 42 #[.int .i64 4, .string ⟨#[]⟩, .string ⟨#[]⟩, .slice (some ⟨g3, o3, none⟩) 2 c3]
  have hz4 : (w3.alloc (.cells #[.slice none 0 0] 25)).heap.size = w3.heap.size + 1 := by simp
  have hz5 : w5.heap.size = w3.heap.size + 2 := by rw [← e5]; simp
  rw [e5] at hb5 br5
  have lx4 := bx4.lt
  have lg34 : g3 < (w3.alloc (.cells #[.slice none 0 0] 25)).heap.size := by omega
  have z4 : (w3.alloc (.cells #[.slice none 0 0] 25)).cell? ⟨g3, o3 + 4, none⟩ = some (.int .i64 5) := by rw [hb4.cell (p := ⟨g3, o3 + 4, none⟩) lg3]; exact z0
  have bx5 := bx4.below hb5 lx4
  have cx5 := bx5.cell
  have hV5 := hV4.later hb5
  have P3 := print_calls _ fxs w5 hV5 (Nat.le_trans fxs_W (by decide))
  have z5 : w5.cell? ⟨g3, o3 + 4, none⟩ = some (.int .i64 5) := by rw [hb5.cell (p := ⟨g3, o3 + 4, none⟩) lg34]; exact z4
  have B5 := B4.trans (hb5.mono (by omega))
  have P3' := Lib.hid P3
  have B5' := Lib.hid B5
  have br5' := Lib.hid br5
  rw [hz4] at br5'
  clear P2 P3 B5 br5 hV3 hV4 hV5 bx3 bx4 bx5 hb5 B4 hb4 hb3 h1 h3 lx4 lg34 z4 hz4
  go_wp2_with fail
  refine P3'.out.mono ?_
  intro e w6 h6
  obtain ⟨rfl, hb6⟩ := h6.yes fxs_print
  have br6 := br5'.out.below hb6 (by omega)
  have cr6 := br6.cell
  have z6 : w6.cell? ⟨g3, o3 + 4, none⟩ = some (.int .i64 5) := by rw [hb6.cell (p := ⟨g3, o3 + 4, none⟩) (show g3 < w5.heap.size by omega)]; exact z5
  have hs6 := hb6.size
  have B6 := B5'.out.trans (hb6.mono (by omega))
  have B6' := Lib.hid B6
  have hfx : (⟨fx3.toArray⟩ : ByteArray).toList = [116, 121, 112, 101, 32, 100, 111, 99, 10, 118, 105, 101, 119, 101, 114, 32, 61, 32, 116, 104, 105, 115, 32, 124, 32, 111, 119, 110, 101, 114, 32, 38, 32, 112, 97, 114, 101, 110, 116, 45, 62, 118, 105, 101, 119, 101, 114, 10] := by rw [Lib.toList_data]; rfl
  have l6 : w3.heap.size + 1 < w6.heap.size := by omega
  have l63 : g3 < w6.heap.size := by omega
  clear B6 br6 hb6 h6 P3' x1 y1 y2 y3 y4 z0 z5 cx3 cx5
  go_wp2_with fail
  go_ret
  exact ⟨rfl, B6'.out⟩
end Go.Proofs.YtkibaaljpbcjeaaDoor
