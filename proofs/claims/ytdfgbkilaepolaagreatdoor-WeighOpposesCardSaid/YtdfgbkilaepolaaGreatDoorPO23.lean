/- Walks: weigh.open: a book of arguments whose names are those of parameters that may be. Walks: weigh.Eval, of parameters that may be and of arguments by their names. Walks: the statement's usual parameters, their values. Walk: the document's Parse of the fixed text; what Eval tells of it. Walks: Eval of the usual parameters and their values. -/
import Derived.Test.YtdfgbkilaepolaaGreatDoorPO20
import Derived.Test.YtdfgbkilaepolaaGreatDoorPO22
import Derived.Test.YtdfgbkilaepolaaGreatDoorPO19
import Derived.Test.YtdfgbkilaepolaaGreatDoorPO12
namespace Go.Proofs.YtdfgbkilaepolaaGreatDoor
open Go.RowKit Go.Maps
/-- what arguments hold -/
def bookV (ags : List Ag) (s : List UInt8) : Vl := (ags.find? fun x => decide (x.1.data.toList = s)).elim ⟨0, 0, []⟩ (·.2)
def wrongV (pa : List Par) (ags : List Ag) : Bool := ags.any fun x => !fitsV (kindOf pa x.1.data.toList) x.2
def openE (pa : List Par) (ags : List Ag) : Int := if ags.length < pa.length then 4 else if wrongV pa ags = true then 1 else 0
theorem mapf_book {ags : List Ag} (hnd : (ags.map (·.1)).Nodup) (s : ByteArray) : (mapf (ags.map fun x => (.string x.1, x.2.val)) (.string s)).getD (.agg #[.int .i64 0, .int .i64 0, .string ⟨#[]⟩]) = (bookV ags s.data.toList).val := by
  cases hm : mapf (ags.map fun x => (Value.string x.1, x.2.val)) (.string s) with
  | none =>
    have hn : ags.find? (fun x => decide (x.1.data.toList = s.data.toList)) = none := by
      rw [List.find?_eq_none]
      intro x hx hd
      have e := data_eq (of_decide_eq_true hd)
      have h1 : (mapf (ags.map fun x => (Value.string x.1, x.2.val)) (.string s)).isSome = true := mapf_is.2 ⟨_, List.mem_map.2 ⟨x, hx, rfl⟩, by rw [e]⟩
      rw [hm] at h1; cases h1
    unfold bookV; rw [hn]; rfl
  | some v =>
    obtain ⟨x, hx, e⟩ := List.mem_map.1 (mapf_some hm)
    injection e with e1 e2
    injection e1 with e1
    subst e1 e2
    have hf : ags.find? (fun y => decide (y.1.data.toList = x.1.data.toList)) = some x := by
      have hs : (ags.find? (fun y => decide (y.1.data.toList = x.1.data.toList))).isSome = true := List.find?_isSome.2 ⟨x, hx, by simp⟩
      obtain ⟨y, hy⟩ := Option.isSome_iff_exists.1 hs
      have hy2 : y.1.data.toList = x.1.data.toList := of_decide_eq_true (List.find?_some (p := fun y : Ag => decide (y.1.data.toList = x.1.data.toList)) hy)
      have hym := List.mem_of_find?_eq_some hy
      rw [hy]
      have : y = x := by
        have e := data_eq hy2
        have inj : ∀ (l : List Ag), (l.map (·.1)).Nodup → ∀ a ∈ l, ∀ b ∈ l, a.1 = b.1 → a = b := by
          intro l
          induction l with
          | nil => intro _ a ha; cases ha
          | cons z l ih =>
            intro hl a ha b hb e
            rw [List.map_cons, List.nodup_cons] at hl
            rcases List.mem_cons.1 ha with e1 | ha1 <;> rcases List.mem_cons.1 hb with e2 | hb1
            · rw [e1, e2]
            · subst e1; exact absurd (List.mem_map.2 ⟨b, hb1, e.symm⟩) hl.1
            · subst e2; exact absurd (List.mem_map.2 ⟨a, ha1, e⟩) hl.1
            · exact ih hl.2 a ha1 b hb1 e
        exact inj ags hnd y hym x hx e
      rw [this]
    unfold bookV; rw [hf]; rfl
theorem nodup_new {l : List ByteArray} (h : l.Nodup) {j : Nat} {x : ByteArray} (hx : l[j]? = some x) : x ∉ l.take j := by
  intro hm
  obtain ⟨i, hi⟩ := List.getElem?_of_mem hm
  have hik : i < j := by
    have := (List.getElem?_eq_some_iff.1 hi).1
    rw [List.length_take] at this; omega
  rw [List.getElem?_take, if_pos hik] at hi
  have hil := (List.getElem?_eq_some_iff.1 hi).1
  have hjl := (List.getElem?_eq_some_iff.1 hx).1
  have hp := List.pairwise_iff_getElem.1 h i j hil hjl hik
  rw [(List.getElem?_eq_some_iff.1 hi).2, (List.getElem?_eq_some_iff.1 hx).2] at hp
  exact hp rfl
theorem mapf_new {α : Type} {l : List α} {nm : α → ByteArray} {f : α → Value} (h : (l.map nm).Nodup) {j : Nat} {x : α} (hx : l[j]? = some x) : mapf ((l.take j).map fun y => (.string (nm y), f y)) (.string (nm x)) = none := by
  refine mapf_none fun y hy => ?_
  obtain ⟨z, hz, rfl⟩ := List.mem_map.1 hy
  intro e
  injection e with e
  refine nodup_new h (j := j) (x := nm x) (by rw [List.getElem?_map, hx]; rfl) ?_
  rw [← List.map_take, ← e]
  exact List.mem_map.2 ⟨z, hz, rfl⟩
theorem take_map {α β : Type} {l : List α} {f : α → β} {k : Nat} {x : α} (hx : l[k]? = some x) : (l.take (k + 1)).map f = (l.take k).map f ++ [f x] := by
  obtain ⟨e1, e2⟩ := List.getElem?_eq_some_iff.1 hx
  rw [List.take_succ_eq_append_getElem e1, e2, List.map_append]; rfl
theorem take_any {α : Type} {l : List α} {f : α → Bool} {k : Nat} {x : α} (hx : l[k]? = some x) : (l.take (k + 1)).any f = ((l.take k).any f || f x) := by
  obtain ⟨e1, e2⟩ := List.getElem?_eq_some_iff.1 hx
  rw [List.take_succ_eq_append_getElem e1, e2, List.any_append]; simp
/-- arguments by a slice -/
def AgsV (w : World) (v : Value) (ags : List Ag) : Prop := ∃ p c, v = .slice p ags.length c ∧ (ags ≠ [] → ∃ g o, p = some ⟨g, o, none⟩ ∧ AgAt w g o ags ∧ ags.length ≤ c ∧ c ≤ maxLen)
theorem AgsV.later {w w' : World} {v : Value} {ags : List Ag} (h : AgsV w v ags) (hb : Below w.heap.size w w') : AgsV w' v ags := by
  obtain ⟨p, c, h1, h2⟩ := h
  exact ⟨p, c, h1, fun hne => by obtain ⟨g, o, e, h3, h4⟩ := h2 hne; exact ⟨g, o, e, h3.later hb, h4⟩⟩
set_option maxHeartbeats 8000000 in
set_option maxRecDepth 100000 in
theorem open_calls (pa : List Par) (hpa : ParsOk pa) (ags : List Ag) (hpre : ∀ (j : Nat) (x : Ag), ags[j]? = some x → ∃ y : Par, pa[j]? = some y ∧ y.1 = x.1) (g o c : Nat) (v : Value) (w : World) (hA : ParAt w g o pa) (hV : AgsV w v ags) (hE : ErrAt w) :
    Calls Tryz.prog 16 #[.slice (some ⟨g, o, none⟩) pa.length c, v] w fun e w' => ∃ m, e = .returned (.tuple #[m, .int .i64 (openE pa ags)]) ∧ Below w.heap.size w w' ∧ (openE pa ags = 0 → ∃ b, m = .map (some b) ∧ BkAt w' b (bookV ags)) := by
  have P := Lib.hid (check_calls pa hpa g o c w hA hE)
  obtain ⟨h1, h2, h3, h4, h5⟩ := hpa
  have hlen : ags.length ≤ pa.length := by
    refine Nat.le_of_not_lt fun hl => ?_
    obtain ⟨y, hy, _⟩ := hpre pa.length _ (List.getElem?_eq_getElem hl)
    have := (List.getElem?_eq_some_iff.1 hy).1
    omega
  have hnd : (ags.map (·.1)).Nodup := by
    have e : ags.map (·.1) = (pa.map (·.1)).take ags.length := by
      refine List.ext_getElem? fun j => ?_
      rw [List.getElem?_take, List.getElem?_map, List.getElem?_map]
      by_cases hj : j < ags.length
      · rw [if_pos hj]
        obtain ⟨y, hy, e⟩ := hpre j _ (List.getElem?_eq_getElem hj)
        rw [hy, List.getElem?_eq_getElem hj]
        exact congrArg some e.symm
      · rw [if_neg hj, List.getElem?_eq_none (by omega)]; rfl
    rw [e]
    exact h5.sublist (List.take_sublist _ _)
  obtain ⟨p, cv, rfl, hp⟩ := hV
  obtain ⟨OE, hOE⟩ : ∃ OE, openE pa ags = OE := ⟨_, rfl⟩
  rw [hOE]
  have hOE' := Lib.hid hOE
  have hA' := Lib.hid hA
  have hp' := Lib.hid hp
  have h4' := Lib.hid h4
  have h5' := Lib.hid h5
  have hnd' := Lib.hid hnd
  have hpre' := Lib.hid hpre
  have hmm := @run_makeMap Tryz.prog
  obtain ⟨n, hn⟩ : ∃ n, pa.length = n := ⟨_, rfl⟩
  obtain ⟨an, han⟩ : ∃ an, ags.length = an := ⟨_, rfl⟩
  rw [hn] at P h3 hlen ⊢
  rw [han] at hlen ⊢
  have hn' := Lib.hid hn
  have han' := Lib.hid han
  clear hA hE hp h1 h2 h4 h5 hnd hpre hn han hOE
  go_enter Tryz.func16, Tryz.ntmps16
  go_wp2_with fail
  refine P.out.mono ?_
  rintro e w1 ⟨rfl, hb1⟩
  have M0 := MapAt.made Tryz.prog 9 w1
  have B0 := hb1.alloc hb1.size (.map #[] 0)
  obtain ⟨w2, e2⟩ : ∃ w2, w1.alloc (.map #[] 0) = w2 := ⟨_, rfl⟩
  obtain ⟨b, hb⟩ : ∃ b, w1.heap.size = b := ⟨_, rfl⟩
  rw [e2] at M0 B0
  rw [hb] at M0
  have hwb : w.heap.size ≤ b := by rw [← hb]; exact hb1.size
  have M0' := Lib.hid M0
  have B0' := Lib.hid B0
  clear M0 B0 hb1 P
  go_wp2_with fail
  go_loopw [24] (fun i wr => ∃ j : Nat, i = .int .i64 j ∧ j ≤ n ∧ Below w.heap.size w wr ∧ MapAt Tryz.prog 9 wr b j (mapf ((pa.take j).map fun x => (.string x.1, .int .i64 x.2)))) (fun i _ => n - (intOf i).toNat)
  case atStart => exact ⟨0, rfl, Nat.zero_le _, B0'.out, M0'.out⟩
  case round =>
    clear M0' B0' e2 hb
    obtain ⟨j, rfl, hj, hB, hM⟩ := hrel
    by_cases hlt : j < n
    · have hjl : j < pa.length := by rw [hn'.out]; exact hlt
      obtain ⟨x, hx⟩ : ∃ x, pa[j]? = some x := ⟨_, List.getElem?_eq_getElem hjl⟩
      have hxm := List.mem_of_getElem? hx
      have hAr := hA'.out.later hB
      have q0 := hAr.name j x hx
      have q1 := hAr.kind j x hx
      have lg := hAr.lt
      have n4 := h4'.out x hxm
      have hnew := mapf_new (f := fun x : Par => .int .i64 x.2) h5'.out hx
      have htake := Lib.hid (take_map (f := fun x : Par => (Value.string x.1, Value.int .i64 x.2)) hx)
      obtain ⟨s, kk⟩ := x
      simp only at q0 q1 n4 hnew htake
      have hB1 := (Below.refl wr.heap.size wr).alloc (Nat.le_refl _) (.cells #[.string s, .int .i64 kk] 61)
      have bT := Blk.new wr 61 #[.string s, .int .i64 kk]
      obtain ⟨w5, e5⟩ : ∃ w5, wr.alloc (.cells #[.string s, .int .i64 kk] 61) = w5 := ⟨_, rfl⟩
      rw [e5] at hB1 bT
      have tc := bT.cell
      have hM5 := hM.later hB1
      have hB5 := hB.trans (hB1.mono hB.size)
      obtain ⟨w6, hr, hM6, hk6⟩ := hM5.put strKeyed Tryz.underlying70 (by unfold maxLen; omega) (strKey (s := s) (by unfold maxLen; omega)) (.int .i64 kk)
      rw [hnew, ← mapf_snoc _ (Value.string s, Value.int .i64 kk), ← htake.out] at hM6
      have hB6 := Lib.hid (Keeps.below_step hB5 hB5.size hk6 (fun j e => by rw [e]; exact hwb))
      have hM6' := Lib.hid hM6
      clear hx hxm hAr hnew htake hB1 bT hM5 hB5 hM6 hk6 hM hB hjl
      go_wp2_with fail
      go_roundw
      case rel => exact ⟨j + 1, by go_num, by omega, hB6.out, hM6'.out⟩
      case measure => simp [intOf]; omega
    · obtain rfl : j = n := by omega
      rw [List.take_of_length_le (by rw [hn'.out]; exact Nat.le_refl _)] at hM
      have hwl : b < wr.heap.size := hM.lt
      have M1 := MapAt.made Tryz.prog 9 wr
      have B1 := hB.alloc hB.size (.map #[] 0)
      have K1 := hM.later ((Below.refl wr.heap.size wr).alloc (Nat.le_refl _) (.map #[] 0))
      obtain ⟨w3, e3⟩ : ∃ w3, wr.alloc (.map #[] 0) = w3 := ⟨_, rfl⟩
      obtain ⟨b2, hb2⟩ : ∃ b2, wr.heap.size = b2 := ⟨_, rfl⟩
      rw [e3] at M1 B1 K1
      rw [hb2] at M1 hwl
      have hwb2 : w.heap.size ≤ b2 := by rw [← hb2]; exact hB.size
      have M1' := Lib.hid M1
      have B1' := Lib.hid B1
      have K1' := Lib.hid K1
      clear M1 B1 K1 hM hB
      go_wp2_with fail
      go_loopw [11, 37] (fun wv i wr => ∃ q : Nat, wv = .bool ((ags.take q).any fun x => !fitsV (kindOf pa x.1.data.toList) x.2) ∧ i = .int .i64 q ∧ q ≤ an ∧ Below w.heap.size w wr ∧ MapAt Tryz.prog 9 wr b j (mapf (pa.map fun x => (.string x.1, .int .i64 x.2))) ∧ MapAt Tryz.prog 9 wr b2 q (mapf ((ags.take q).map fun x => (.string x.1, x.2.val)))) (fun _ i _ => an - (intOf i).toNat)
      case atStart => exact ⟨0, rfl, rfl, Nat.zero_le _, B1'.out, K1'.out, M1'.out⟩
      case round =>
        clear M1' B1' K1' e3 hb2 hmm
        obtain ⟨i, rfl, rfl, hi, hB, hK, hM⟩ := hrel
        by_cases hlt2 : i < an
        · have hil : i < ags.length := by rw [han'.out]; exact hlt2
          obtain ⟨x, hx⟩ : ∃ x, ags[i]? = some x := ⟨_, List.getElem?_eq_getElem hil⟩
          obtain ⟨g2, o2, rfl, hG, hc1, hc2⟩ := hp'.out (by intro e; rw [e] at hil; exact absurd hil (Nat.not_lt_zero _))
          rw [han'.out] at hc1
          obtain ⟨y, hy, hyx⟩ := hpre'.out i x hx
          have hym := List.mem_of_getElem? hy
          have n4 := h4'.out y hym
          rw [hyx] at n4
          have hGr := hG.later hB
          have q0 := hGr.name i x hx
          have q1 := hGr.kind i x hx
          have q2 := hGr.num i x hx
          have q3 := hGr.str i x hx
          have lg := hGr.lt
          have hnew := mapf_new (f := fun x : Ag => x.2.val) hnd'.out hx
          have htake := Lib.hid (take_map (f := fun x : Ag => (Value.string x.1, x.2.val)) hx)
          have hany := Lib.hid (take_any (f := fun x : Ag => !fitsV (kindOf pa x.1.data.toList) x.2) hx)
          obtain ⟨s, vk, vn, vs⟩ := x
          simp only at q0 q1 q2 q3 n4 hnew htake hyx
          obtain ⟨va, hva⟩ : ∃ va : ByteArray, (⟨vs.toArray⟩ : ByteArray) = va := ⟨_, rfl⟩
          have hvs : vs = va.data.toList := by rw [← hva]
          have hsv : strV vs = .string va := by rw [← hva]; rfl
          have hval : (⟨vk, vn, vs⟩ : Vl).val = .agg #[.int .i64 vk, .int .i64 vn, .string va] := by
            rw [← hva]; rfl
          rw [hval] at htake
          rw [hsv] at q3
          have hkd : mapf (pa.map fun x => (Value.string x.1, Value.int .i64 x.2)) (.string s) = some (.int .i64 (kindOf pa s.data.toList)) := by
            have h1 : (mapf (pa.map fun x => (Value.string x.1, Value.int .i64 x.2)) (.string s)).isSome = true := mapf_is.2 ⟨_, List.mem_map.2 ⟨y, hym, rfl⟩, by rw [hyx]⟩
            have h2 := mapf_kind h5'.out s
            cases hq : mapf (pa.map fun x => (Value.string x.1, Value.int .i64 x.2)) (.string s) with
            | none => rw [hq] at h1; cases h1
            | some u => rw [hq] at h2; rw [show u = _ from h2]
          have hB1 := (Below.refl wr.heap.size wr).alloc (Nat.le_refl _) (.cells #[.string s, .int .i64 vk, .int .i64 vn, .string va] 42)
          have bT := Blk.new wr 42 #[.string s, .int .i64 vk, .int .i64 vn, .string va]
          obtain ⟨w5, e5⟩ : ∃ w5, wr.alloc (.cells #[.string s, .int .i64 vk, .int .i64 vn, .string va] 42) = w5 := ⟨_, rfl⟩
          rw [e5] at hB1 bT
          have tc := bT.cell
          have hM5 := hM.later hB1
          have hK5 := hK.later hB1
          have hB5 := hB.trans (hB1.mono hB.size)
          have hlk := hK5.look_ok strKeyed Tryz.underlying70 (zeroInt w5) (strKey (s := s) (by unfold maxLen; omega))
          rw [hkd] at hlk
          obtain ⟨kd, hkd2⟩ : ∃ kd, kindOf pa s.data.toList = kd := ⟨_, rfl⟩
          rw [hkd2] at hlk
          obtain ⟨any, hanyE⟩ : ∃ any, ((ags.take i).any fun x => !fitsV (kindOf pa x.1.data.toList) x.2) = any := ⟨_, rfl⟩
          simp only at hany
          rw [hanyE, hkd2, hvs] at hany
          rw [hanyE]
          obtain ⟨ft, hft⟩ : ∃ ft, fitsV kd ⟨vk, vn, va.data.toList⟩ = ft := ⟨_, rfl⟩
          rw [hft] at hany
          have hlk2 : (Instr.lookup 70 (.map (some b)) (.string s) true).run Tryz.prog w5 = .ok (.tuple #[.int .i64 kd, .bool true]) w5 := hlk
          have bT' := Lib.hid bT
          have hM5' := Lib.hid hM5
          have hK5' := Lib.hid hK5
          have hB5' := Lib.hid hB5
          have hnew' := Lib.hid hnew
          have F := Lib.hid (fun W => by have := fits_calls kd vk vn va W; rw [hft] at this; exact this)
          have hne2 : b ≠ b2 := by omega
          have d5 : Hid (∀ w6, Below w5.heap.size w5 w6 → ∃ w7, (Instr.mapUpdate 55 (.map (some b2)) (.string s) (.agg #[.int .i64 vk, .int .i64 vn, .string va])).run Tryz.prog w6 = .ok () w7 ∧ MapAt Tryz.prog 9 w7 b2 (i + 1) (mapf ((ags.take (i + 1)).map fun x => (.string x.1, x.2.val))) ∧ MapAt Tryz.prog 9 w7 b j (mapf (pa.map fun x => (.string x.1, .int .i64 x.2))) ∧ Below w.heap.size w w7) := Lib.hid fun w6 hb6 => by
            have hM6 := hM5'.out.later hb6
            have hK6 := hK5'.out.later hb6
            have hB6 := hB5'.out.trans (hb6.mono hB5'.out.size)
            obtain ⟨w7, hr, hM7, hk7⟩ := hM6.put strKeyed Tryz.underlying55 (by unfold maxLen; omega) (strKey (s := s) (by unfold maxLen; omega)) (.agg #[.int .i64 vk, .int .i64 vn, .string va])
            rw [hnew'.out, ← mapf_snoc _ (Value.string s, Value.agg #[.int .i64 vk, .int .i64 vn, .string va]), ← htake.out] at hM7
            exact ⟨w7, hr, hM7, hK6.keeps hk7 hne2, Keeps.below_step hB6 hB6.size hk7 (fun j e => by rw [e]; exact hwb2)⟩
          clear hx hy hym hyx hG hGr hnew htake hB1 bT hM5 hK5 hB5 hM hK hB hil hkd hlk hkd2 hanyE hft hnew' hM5' hK5' hB5' hva hvs hsv hval hne2
          cases any
          · go_wp2_with fail
            refine (F.out _).mono ?_
            rintro e w6 ⟨rfl, hb6⟩
            have bT6 := bT'.out.below hb6 bT'.out.lt
            have tc6 := bT6.cell
            obtain ⟨w7, hr, hM7, hK7, hB7⟩ := d5.out w6 hb6
            have hM7' := Lib.hid hM7
            have hK7' := Lib.hid hK7
            have hB7' := Lib.hid hB7
            clear d5 F bT' bT6 hb6 hM7 hK7 hB7 tc
            go_wp2_with fail
            go_roundw
            case rel => exact ⟨i + 1, by rw [hany.out]; simp, by go_num, by omega, hB7'.out, hK7'.out, hM7'.out⟩
            case measure => simp [intOf]; omega
          · obtain ⟨w7, hr, hM7, hK7, hB7⟩ := d5.out w5 (Below.refl _ _)
            have hM7' := Lib.hid hM7
            have hK7' := Lib.hid hK7
            have hB7' := Lib.hid hB7
            clear d5 F bT' hM7 hK7 hB7
            go_wp2_with fail
            go_roundw
            case rel => exact ⟨i + 1, by rw [hany.out]; simp, by go_num, by omega, hB7'.out, hK7'.out, hM7'.out⟩
            case measure => simp [intOf]; omega
        · obtain rfl : i = an := by omega
          have htk : ags.take i = ags := List.take_of_length_le (by rw [han'.out]; exact Nat.le_refl _)
          rw [htk] at hM ⊢
          have hl1 := hM.len Tryz.underlying55
          have hl2 := hK.len Tryz.underlying70
          have hBk : Hid (BkAt wr b2 (bookV ags)) := Lib.hid ⟨_, _, hM, fun s _ => mapf_book hnd'.out s⟩
          have hB' := Lib.hid hB
          have hw : (ags.any fun x => !fitsV (kindOf pa x.1.data.toList) x.2) = wrongV pa ags := rfl
          rw [hw]
          have hO2 := hOE'.out
          unfold openE at hO2
          rw [han'.out, hn'.out] at hO2
          obtain ⟨wrg, hwrg⟩ : ∃ wrg, wrongV pa ags = wrg := ⟨_, rfl⟩
          rw [hwrg] at hO2 ⊢
          have hO3 := Lib.hid hO2
          clear hM hK hB hw hO2 hOE' hwrg htk
          by_cases hl3 : i < j
          · have hO4 := hO3.out
            rw [if_pos hl3] at hO4
            have hO5 := Lib.hid hO4
            clear hO3 hO4
            go_wp2_with fail
            go_ret2
            exact ⟨_, by rw [hO5.out]; rfl, hB'.out, fun h => absurd (hO5.out.trans h) (by decide)⟩
          · obtain rfl : i = j := by omega
            have hO4 := hO3.out
            rw [if_neg hl3] at hO4
            cases wrg
            · rw [if_neg (by simp)] at hO4
              have hO5 := Lib.hid hO4
              clear hO3 hO4
              go_wp2_with fail
              go_ret2
              exact ⟨_, by rw [hO5.out]; rfl, hB'.out, fun _ => ⟨_, rfl, hBk.out⟩⟩
            · rw [if_pos rfl] at hO4
              have hO5 := Lib.hid hO4
              clear hO3 hO4
              go_wp2_with fail
              go_ret2
              exact ⟨_, by rw [hO5.out]; rfl, hB'.out, fun h => absurd (hO5.out.trans h) (by decide)⟩
end Go.Proofs.YtdfgbkilaepolaaGreatDoor
namespace Go.Proofs.YtdfgbkilaepolaaGreatDoor
open Go.RowKit Go.Maps
theorem eval_kind (K : List UInt8 → Int) (B : List UInt8 → Vl) (oe : Int) (c : CT) : evalC K B oe c = if (kindE K c).2 ≠ 0 then (⟨0, 0, []⟩, (kindE K c).2) else if oe ≠ 0 then (⟨0, 0, []⟩, oe) else match valueC B c with
    | none => (⟨0, 0, []⟩, 10)
    | some v => (v, 0) := by
  unfold evalC kindE
  by_cases h1 : (printC c).2 ≠ 0
  · rw [if_pos h1, if_pos h1, if_pos h1]
  rw [if_neg h1, if_neg h1]
  by_cases h2 : ((namesC c).any fun n => decide (K n = 0)) = true
  · rw [if_pos h2, if_pos h2, if_pos (by decide)]
  rw [if_neg h2, if_neg h2]
  by_cases h3 : kindC K c ≤ 0
  · rw [if_pos h3, if_pos h3, if_pos (by decide)]
  rw [if_neg h3, if_neg h3]
  exact (if_neg (fun h => h rfl)).symm
theorem kindE_ok {K : List UInt8 → Int} {c : CT} (h : (kindE K c).2 = 0) : (printC c).2 = 0 ∧ 0 < kindC K c := by
  unfold kindE at h
  by_cases h1 : (printC c).2 ≠ 0
  · rw [if_pos h1] at h; exact absurd h h1
  rw [if_neg h1] at h
  by_cases h2 : ((namesC c).any fun n => decide (K n = 0)) = true
  · rw [if_pos h2] at h; exact absurd h (by decide)
  rw [if_neg h2] at h
  by_cases h3 : kindC K c ≤ 0
  · rw [if_pos h3] at h; exact absurd h (by decide)
  exact ⟨by simpa using h1, by omega⟩
/-- what Eval leaves -/
abbrev EvPost (R : Vl × Int) (w : World) (e : Ending) (w' : World) : Prop :=
  ∃ (k n : Int) (s : ByteArray), e = .returned (.tuple #[.agg #[.int .i64 k, .int .i64 n, .string s], .int .i64 R.2]) ∧ R.1 = ⟨k, n, s.data.toList⟩ ∧ Below w.heap.size w w'
set_option maxHeartbeats 8000000 in
set_option maxRecDepth 100000 in
theorem eval_calls (pa : List Par) (hpa : ParsOk pa) (ags : List Ag) (hpre : ∀ (j : Nat) (x : Ag), ags[j]? = some x → ∃ y : Par, pa[j]? = some y ∧ y.1 = x.1) (hG : openE pa ags = 0 → Goes (kindOf pa) (bookV ags)) (r : CT) (hcw : r.cw ≤ 400000) (g o c : Nat) (v : Value) (cs : List Value) (w : World) (hA : ParAt w g o pa) (hV : AgsV w v ags) (hR : CV w cs r) (hS : Std w) :
    Calls Tryz.prog 8 #[.slice (some ⟨g, o, none⟩) pa.length c, .agg cs.toArray, v] w (EvPost (evalC (kindOf pa) (bookV ags) (openE pa ags) r) w) := by
  obtain ⟨R, hR2⟩ : ∃ R, evalC (kindOf pa) (bookV ags) (openE pa ags) r = R := ⟨_, rfl⟩
  rw [hR2]
  rw [eval_kind] at hR2
  have hsl := slim_of_cw r (by omega)
  obtain ⟨k, m, a, p, c2, ds, ecs, -, -, -, -⟩ := hR.form
  rw [ecs] at hR ⊢
  have hpl : r.parts.length = r.parts.length := rfl
  generalize r.parts.length = pl at *
  clear ecs hpl
  -- the box, the result
  have b0 := Blk.new w 28 #[.int .i64 k, .int .i64 m, .string a, .slice p pl c2]
  have B0 := (Below.refl w.heap.size w).alloc (Nat.le_refl _) (.cells #[.int .i64 k, .int .i64 m, .string a, .slice p pl c2] 28)
  obtain ⟨w0, e0⟩ : ∃ w0, w.alloc (.cells #[.int .i64 k, .int .i64 m, .string a, .slice p pl c2] 28) = w0 := ⟨_, rfl⟩
  rw [e0] at b0 B0
  have r1 := Blk.new w0 33 #[.int .i64 0, .int .i64 0, .string ⟨#[]⟩]
  have b1 := b0.alloc (.cells #[.int .i64 0, .int .i64 0, .string ⟨#[]⟩] 33)
  have B1 := B0.alloc B0.size (.cells #[.int .i64 0, .int .i64 0, .string ⟨#[]⟩] 33)
  have hgw : w.heap.size ≤ w0.heap.size := B0.size
  obtain ⟨w1, e1⟩ : ∃ w1, w0.alloc (.cells #[.int .i64 0, .int .i64 0, .string ⟨#[]⟩] 33) = w1 := ⟨_, rfl⟩
  obtain ⟨gr, hgr⟩ : ∃ gr, w0.heap.size = gr := ⟨_, rfl⟩
  rw [e1] at r1 b1 B1
  rw [hgr] at r1 hgw
  have bc := b1.cell
  have hr1 := Lib.hid r1
  have hb1 := Lib.hid b1
  have hB1 := Lib.hid B1
  have K0 := Lib.hid (kkind_calls pa hpa r hcw g o c _ w1 (hA.later B1) (hR.later B1) (hS.next B1))
  have OP := Lib.hid (fun W (h : Below w.heap.size w W) => open_calls pa hpa ags hpre g o c v W (hA.later h) (hV.later h) (hS.next h).err)
  have VC := Lib.hid (fun (h1 : (kindE (kindOf pa) r).2 = 0) (h2 : openE pa ags = 0) W b (h : Below w.heap.size w W) (hb : BkAt W b (bookV ags)) => value_calls pa (bookV ags) (hG h2) r hsl (well_of_print (kindE_ok h1).1) (kindE_ok h1).2 _ W b (hR.later h) hb)
  obtain ⟨KE, hKE⟩ : ∃ KE, kindE (kindOf pa) r = KE := ⟨_, rfl⟩
  obtain ⟨OE, hOE⟩ : ∃ OE, openE pa ags = OE := ⟨_, rfl⟩
  rw [hKE] at K0 VC hR2
  rw [hOE] at OP VC hR2
  obtain ⟨k1, k2⟩ := KE
  obtain ⟨V, hV2⟩ : ∃ V, valueC (bookV ags) r = V := ⟨_, rfl⟩
  rw [hV2] at VC hR2
  obtain ⟨n, hn⟩ : ∃ n, pa.length = n := ⟨_, rfl⟩
  rw [hn] at K0 OP ⊢
  simp only at K0 VC hR2
  have hR2' := Lib.hid hR2
  clear hpa hpre hG hcw hsl hA hV hR hS b0 B0 r1 b1 B1 hKE hOE hV2 hn hR2
  go_enter Tryz.func8, Tryz.ntmps8
  go_wp2_with fail
  refine K0.out.mono ?_
  rintro e w2 ⟨rfl, hb2⟩
  have hB2 := hB1.out.trans (hb2.mono hB1.out.size)
  have hr2 := hr1.out.below hb2 hr1.out.lt
  have hx2 := hb1.out.below hb2 hb1.out.lt
  clear K0 hb2
  by_cases hk2 : k2 = 0
  · subst hk2
    have V0 := VC.out rfl
    have O2 := Lib.hid (OP.out w2 hB2)
    have hR3 := hR2'.out
    rw [if_neg (by simp)] at hR3
    have hR3' := Lib.hid hR3
    have hB2' := Lib.hid hB2
    have hr2' := Lib.hid hr2
    have hx2' := Lib.hid hx2
    have V0' := Lib.hid V0
    clear hR2' hR3 VC V0 OP hB2 hr2 hx2 hB1 hr1 hb1 bc
    go_wp2_with fail
    refine O2.out.mono ?_
    rintro e w3 ⟨mv, rfl, hb3, hbk⟩
    have hB3 := hB2'.out.trans (hb3.mono hB2'.out.size)
    have hr3 := hr2'.out.below hb3 hr2'.out.lt
    have hx3 := hx2'.out.below hb3 hx2'.out.lt
    clear hb3 O2 hB2' hr2' hx2'
    by_cases ho : OE = 0
    · subst ho
      obtain ⟨b, rfl, hbk2⟩ := hbk rfl
      have V1 := Lib.hid (V0'.out rfl w3 b hB3 hbk2)
      have hR4 := hR3'.out
      rw [if_neg (by simp)] at hR4
      have hR4' := Lib.hid hR4
      have hB3' := Lib.hid hB3
      have hr3' := Lib.hid hr3
      have xc3 := hx3.cell
      clear hR3' hR4 V0' hB3 hr3 hx3 hbk hbk2
      go_wp2_with fail
      refine V1.out.mono ?_
      rintro e w4 ⟨vk, vn, vs, ok, rfl, hb4, hV4⟩
      have hB4 := hB3'.out.trans (hb4.mono hB3'.out.size)
      have hr4 := hr3'.out.below hb4 hr3'.out.lt
      have g4 := Blk.new w4 33 #[.int .i64 vk, .int .i64 vn, .string vs]
      have hB5 := hB4.alloc hB4.size (.cells #[.int .i64 vk, .int .i64 vn, .string vs] 33)
      have hr5 := hr4.alloc (.cells #[.int .i64 vk, .int .i64 vn, .string vs] 33)
      obtain ⟨w5, e5⟩ : ∃ w5, w4.alloc (.cells #[.int .i64 vk, .int .i64 vn, .string vs] 33) = w5 := ⟨_, rfl⟩
      obtain ⟨gv, hgv⟩ : ∃ gv, w4.heap.size = gv := ⟨_, rfl⟩
      rw [e5] at g4 hB5 hr5
      rw [hgv] at g4
      have gc := g4.cell
      have hV4' := Lib.hid hV4
      have rc5 := hr5.cell
      have rf5 := hr5.frozen
      clear hB3' hr3' xc3 V1 hb4 hB4 hr4 g4 hV4
      cases ok
      · have hN : V = none := by
          cases V with
          | none => rfl
          | some u => exact absurd hV4'.out.1 (by simp)
        have F9 := hr5.set3 (.int .i64 0) (.int .i64 0) (.string ⟨#[]⟩)
        have FB := Lib.hid (below_set3 hB5 hgw (.int .i64 0) (.int .i64 0) (.string ⟨#[]⟩))
        have Fc := F9.cell
        have hR5 : Hid ((⟨0, 0, []⟩, 10) = R) := Lib.hid (by rw [← hR4'.out, hN])
        clear F9 hB5 hr5 hV4' hR4' hN
        go_wp2_with fail
        refine bodyPost_ret (v := .tuple #[.agg #[.int .i64 0, .int .i64 0, .string ⟨#[]⟩], .int .i64 10]) (by simp [results, Tryz.results8, go_sem, Fc]) rfl ?_
        exact ⟨0, 0, ⟨#[]⟩, by rw [← hR5.out], by rw [← hR5.out], FB.out⟩
      · obtain ⟨u, hu⟩ : ∃ u, V = some u := by
          cases V with
          | none => exact absurd hV4'.out (by simp)
          | some u => exact ⟨u, rfl⟩
        have F9 := hr5.set3 (.int .i64 vk) (.int .i64 vn) (.string vs)
        have FB := Lib.hid (below_set3 hB5 hgw (.int .i64 vk) (.int .i64 vn) (.string vs))
        have Fc := F9.cell
        have hR5 : Hid ((⟨vk, vn, vs.data.toList⟩, 0) = R) := Lib.hid (by
          have h := hV4'.out
          rw [hu] at h
          rw [← hR4'.out, hu, ← h.2])
        clear F9 hB5 hr5 hV4' hR4' hu
        go_wp2_with fail
        refine bodyPost_ret (v := .tuple #[.agg #[.int .i64 vk, .int .i64 vn, .string vs], .int .i64 0]) (by simp [results, Tryz.results8, go_sem, Fc]) rfl ?_
        exact ⟨vk, vn, vs, by rw [← hR5.out], by rw [← hR5.out], FB.out⟩
    · have hR5 : Hid ((⟨0, 0, []⟩, OE) = R) := Lib.hid (by rw [← hR3'.out, if_pos (by simpa using ho)])
      have ho1 : (OE != 0) = true := by simpa using ho
      have rc5 := hr3.cell
      have rf5 := hr3.frozen
      have F9 := hr3.set3 (.int .i64 0) (.int .i64 0) (.string ⟨#[]⟩)
      have FB := Lib.hid (below_set3 hB3 hgw (.int .i64 0) (.int .i64 0) (.string ⟨#[]⟩))
      have Fc := F9.cell
      clear F9 hB3 hr3 hx3 hR3' V0' hbk ho
      go_wp2_with fail
      refine bodyPost_ret (v := .tuple #[.agg #[.int .i64 0, .int .i64 0, .string ⟨#[]⟩], .int .i64 OE]) (by simp [results, Tryz.results8, go_sem, Fc]) rfl ?_
      exact ⟨0, 0, ⟨#[]⟩, by rw [← hR5.out], by rw [← hR5.out], FB.out⟩
  · have hR5 : Hid ((⟨0, 0, []⟩, k2) = R) := Lib.hid (by rw [← hR2'.out, if_pos (by simpa using hk2)])
    have hk1 : (k2 != 0) = true := by simpa using hk2
    have rc5 := hr2.cell
    have rf5 := hr2.frozen
    have F9 := hr2.set3 (.int .i64 0) (.int .i64 0) (.string ⟨#[]⟩)
    have FB := Lib.hid (below_set3 hB2 hgw (.int .i64 0) (.int .i64 0) (.string ⟨#[]⟩))
    have Fc := F9.cell
    clear F9 hB2 hr2 hx2 hR2' VC OP hB1 hr1 hb1 bc hk2
    go_wp2_with fail
    refine bodyPost_ret (v := .tuple #[.agg #[.int .i64 0, .int .i64 0, .string ⟨#[]⟩], .int .i64 k2]) (by simp [results, Tryz.results8, go_sem, Fc]) rfl ?_
    exact ⟨0, 0, ⟨#[]⟩, by rw [← hR5.out], by rw [← hR5.out], FB.out⟩
end Go.Proofs.YtdfgbkilaepolaaGreatDoor
namespace Go.Proofs.YtdfgbkilaepolaaGreatDoor
open Go.RowKit Go.Maps
def agL (a b : Int) (s : ByteArray) (f : Bool) : List Ag := [(⟨#[97]⟩, ⟨2, a, []⟩), (⟨#[98]⟩, ⟨2, b, []⟩), (⟨#[115]⟩, ⟨3, 0, s.data.toList⟩), (⟨#[102]⟩, flagV f)]
theorem agL_pre (a b : Int) (s : ByteArray) (f : Bool) : ∀ (j : Nat) (x : Ag), (agL a b s f)[j]? = some x → ∃ y : Par, parL[j]? = some y ∧ y.1 = x.1 := by
  intro j x hx
  match j, hx with
  | 0, hx => exact ⟨_, rfl, by rw [← Option.some.inj hx]⟩
  | 1, hx => exact ⟨_, rfl, by rw [← Option.some.inj hx]⟩
  | 2, hx => exact ⟨_, rfl, by rw [← Option.some.inj hx]⟩
  | 3, hx => exact ⟨_, rfl, by rw [← Option.some.inj hx]⟩
theorem usual_calls (w : World) : Calls Tryz.prog 9 #[] w fun e w' => ∃ g, e = .returned (.slice (some ⟨g, 0, none⟩) 4 4) ∧ ParAt w' g 0 parL ∧ Below w.heap.size w w' := by
  go_enter Tryz.func9, Tryz.ntmps9
  go_wp2_with fail
  go_ret
  refine ⟨_, rfl, ?_, (Below.refl w.heap.size w).alloc (Nat.le_refl _) _⟩
  have hb := Blk.new w 61 #[.string ⟨#[97]⟩, .int .i64 2, .string ⟨#[98]⟩, .int .i64 2, .string ⟨#[115]⟩, .int .i64 3, .string ⟨#[102]⟩, .int .i64 1]
  have hc := hb.cell
  refine ⟨hb.lt, fun k x hx => ?_, fun k x hx => ?_⟩
  all_goals
    match k, hx with
    | 0, hx => rw [hc, ← Option.some.inj hx]; rfl
    | 1, hx => rw [hc, ← Option.some.inj hx]; rfl
    | 2, hx => rw [hc, ← Option.some.inj hx]; rfl
    | 3, hx => rw [hc, ← Option.some.inj hx]; rfl
theorem values_calls (a b : Int) (s : ByteArray) (f : Bool) (w : World) : Calls Tryz.prog 6 #[.int .i64 a, .int .i64 b, .string s, .bool f] w fun e w' => ∃ g, e = .returned (.slice (some ⟨g, 0, none⟩) 4 4) ∧ AgAt w' g 0 (agL a b s f) ∧ Below w.heap.size w w' := by
  have key : ∀ (w : World) (n : Int), (flagV f).n = n → AgAt (w.alloc (.cells #[.string ⟨#[97]⟩, .int .i64 2, .int .i64 a, .string ⟨#[]⟩, .string ⟨#[98]⟩, .int .i64 2, .int .i64 b, .string ⟨#[]⟩, .string ⟨#[115]⟩, .int .i64 3, .int .i64 0, .string s, .string ⟨#[102]⟩, .int .i64 1, .int .i64 n, .string ⟨#[]⟩] 42)) w.heap.size 0 (agL a b s f) := fun w n hn => by
    have hb := Blk.new w 42 #[.string ⟨#[97]⟩, .int .i64 2, .int .i64 a, .string ⟨#[]⟩, .string ⟨#[98]⟩, .int .i64 2, .int .i64 b, .string ⟨#[]⟩, .string ⟨#[115]⟩, .int .i64 3, .int .i64 0, .string s, .string ⟨#[102]⟩, .int .i64 1, .int .i64 n, .string ⟨#[]⟩]
    have hc := hb.cell
    have hs : strV s.data.toList = .string s := strV_data s
    refine ⟨hb.lt, fun k x hx => ?_, fun k x hx => ?_, fun k x hx => ?_, fun k x hx => ?_⟩
    all_goals
      match k, hx with
      | 0, hx => rw [hc, ← Option.some.inj hx]; first | rfl | exact congrArg some hs.symm
      | 1, hx => rw [hc, ← Option.some.inj hx]; first | rfl | exact congrArg some hs.symm
      | 2, hx => rw [hc, ← Option.some.inj hx]; first | rfl | exact congrArg some hs.symm
      | 3, hx => rw [hc, ← Option.some.inj hx]; first | rfl | (subst hn; rfl)
  cases f
  · go_enter Tryz.func6, Tryz.ntmps6
    go_wp2_with fail
    go_ret
    have K := key (w.alloc (.cells #[.int .i64 1, .int .i64 0, .string ⟨#[]⟩] 33)) 0 rfl
    rw [alloc_size] at K
    refine ⟨_, rfl, K, ?_⟩
    exact ((Below.refl w.heap.size w).alloc (Nat.le_refl _) _).alloc (by simp) _
  · go_enter Tryz.func6, Tryz.ntmps6
    go_wp2_with fail
    go_ret
    have K := key (w.alloc (.cells #[.int .i64 1, .int .i64 1, .string ⟨#[]⟩] 33)) 1 rfl
    rw [alloc_size] at K
    refine ⟨_, rfl, K, ?_⟩
    exact ((Below.refl w.heap.size w).alloc (Nat.le_refl _) _).alloc (by simp) _
end Go.Proofs.YtdfgbkilaepolaaGreatDoor
namespace Go.Proofs.YtdfgbkilaepolaaGreatDoor
open Go.RowKit Go.Maps
theorem wfS_of {L : Toks} (h : ∀ t ∈ L, t.sort ≤ 5 ∧ (t.sort ≤ 1 → t.text = [])) (hl : ∀ t ∈ L[L.length - 1]?, t.sort ≤ 1) : WfS L := by
  intro k t ht
  have hm := List.mem_of_getElem? ht
  refine ⟨(h t hm).1, (h t hm).2, fun h2 => ?_⟩
  have hk := (List.getElem?_eq_some_iff.1 ht).1
  refine Nat.lt_of_not_le fun hle => ?_
  have e : L.length - 1 = k := by omega
  have := hl t (by rw [e]; exact ht)
  omega
theorem less_uR : Less uR := by
  intro l c r h
  match l, h with
  | t :: l, h =>
    have h : (if t.sort = 4 then (match t.text with | [d] => if isDig d = true then .ok (leaf 3 ((d.toNat : Int) - 48) [], l) else .error 0 | _ => .error 0) else if t.sort = 3 ∧ isNameC t.text = true then .ok (leaf 5 0 t.text, l) else .error 0 : Res) = .ok (c, r) := h
    have : r = l := by
      split at h
      · split at h
        · split at h
          · injection h with h; injection h with _ h2; exact h2.symm
          · cases h
        · cases h
      · split at h
        · injection h with h; injection h with _ h2; exact h2.symm
        · cases h
    rw [this]; simp
theorem less_times {U : Toks → Res} (hU : Less U) : Less (gTimes U) := by
  have hL : ∀ (n : Nat) (a : CT) (m : Toks) (c : CT) (r : Toks), timesL U n a m = .ok (c, r) → r.length ≤ m.length := by
    intro n
    induction n with
    | zero =>
      intro a m c r h
      have h : (.ok (a, m) : Res) = .ok (c, r) := h
      injection h with h; injection h with _ h2
      rw [h2]; exact Nat.le_refl _
    | succ n ih =>
      intro a m c r h
      by_cases ht : isT m [42] = true
      · rw [timesL_yes ht] at h
        cases hu : U m.tail with
        | error e => rw [hu] at h; cases h
        | ok am =>
          obtain ⟨b, q⟩ := am
          rw [hu] at h
          have h1 := hU _ _ _ hu
          have h2 := ih _ _ _ _ h
          have h3 := isT_len ht
          omega
      · have e : timesL U (n + 1) a m = .ok (a, m) := by unfold timesL; rw [if_neg ht]
        rw [e] at h
        injection h with h; injection h with _ h2
        rw [h2]; exact Nat.le_refl _
  intro l c r h
  have h : (match U l with | .error e => .error e | .ok (a, m) => timesL U (m.length + 1) a m : Res) = .ok (c, r) := h
  cases hu : U l with
  | error e => rw [hu] at h; cases h
  | ok am =>
    obtain ⟨b, q⟩ := am
    rw [hu] at h
    have h1 := hU _ _ _ hu
    have h2 := hL _ _ _ _ _ h
    omega
/-- the part of the grammar that is read here -/
def gW : Toks → Res := condR (allR (gNotR (gHeldR (gSum (gTimes uR)))))
theorem gW_calls (g gs : Nat) (L : Toks) : SaidG 13 gW g gs L :=
  rcond_calls _ g gs L (rall_calls _ g gs L (rnot_calls _ g gs L (rheld_calls _ g gs L (rsum_calls _ g gs L (rtimes_calls uR g gs L (runit_calls g gs L) less_uR) (less_times less_uR)))))
def wfixT : ByteArray := ⟨#[97, 32, 61, 32, 49, 32, 111, 114, 32, 98, 32, 60, 32, 48]⟩
def wfix : CT := .node 8 0 [] [pairC 9 (leaf 5 0 [97]) (leaf 3 1 []), pairC 10 (leaf 5 0 [98]) (leaf 3 0 [])]
def wfixL : Toks := [⟨3, [97], 0, false⟩, ⟨2, [61], 2, false⟩, ⟨4, [49], 4, false⟩, ⟨3, [111, 114], 6, false⟩, ⟨3, [98], 9, false⟩, ⟨2, [60], 11, false⟩, ⟨4, [48], 13, false⟩, ⟨1, [], 14, false⟩]
theorem wfix_lex : lex 0 wfixT.data.toList = wfixL := by kernel_rfl
theorem wfix_parse : gW wfixL = .ok (wfix, [⟨1, [], 14, false⟩]) := by kernel_rfl
theorem wfixT_calls (w : World) : Calls Tryz.prog 7 #[.string ⟨#[97, 32, 61, 32, 49, 32, 111, 114, 32, 98, 32, 60, 32, 48]⟩] w fun e w' => ∃ cs, e = .returned (.tuple #[.agg cs.toArray, .int .i64 0, .int .i64 0]) ∧ CAt (fun j => w.heap.size < j) w' cs wfix ∧ Below w.heap.size w w' := by
  refine rparse_calls wfixT (by decide) wfixL (fun w => ?_) (wfS_of (by decide) (by decide)) (by decide) gW (fun g gs => gW_calls g gs _) wfix ⟨1, [], 14, false⟩ wfix_parse (by rfl) (by decide) w
  have h := signsA_calls wfixT w (by decide) (by decide) (fun k hk => ?_)
  · rw [wfix_lex] at h; exact h
  · have hl := (List.getElem?_eq_some_iff.1 hk).1
    have hl : k < 14 := hl
    have : k = 11 := by
      revert hk
      match k, hl with
      | 0, _ => decide
      | 1, _ => decide
      | 2, _ => decide
      | 3, _ => decide
      | 4, _ => decide
      | 5, _ => decide
      | 6, _ => decide
      | 7, _ => decide
      | 8, _ => decide
      | 9, _ => decide
      | 10, _ => decide
      | 11, _ => decide
      | 12, _ => decide
      | 13, _ => decide
    subst this; rfl
theorem wfix_val (a : Int) (h : a = 1 ∨ a = 2) : evalC (kindOf parL) (bookV (agL a 5 ⟨#[]⟩ false)) (openE parL (agL a 5 ⟨#[]⟩ false)) wfix = (flagV (decide (a = 1)), 0) := by
  rcases h with rfl | rfl <;> kernel_rfl
theorem wfix_nil : (evalC (kindOf parL) (bookV []) (openE parL []) wfix).2 = 4 := by kernel_rfl
theorem wfix_cw : wfix.cw ≤ 400000 := by decide +kernel
end Go.Proofs.YtdfgbkilaepolaaGreatDoor
namespace Go.Proofs.YtdfgbkilaepolaaGreatDoor
open Go.RowKit Go.Maps
theorem fits_ok {k : Int} {v : Vl} (h : fitsV k v = true) : OkV k v := by
  unfold fitsV at h
  simp only [Bool.and_eq_true, decide_eq_true_eq] at h
  obtain ⟨h1, h2⟩ := h
  by_cases h3 : k = 3
  · rw [if_pos h3] at h2
    simp only [Bool.and_eq_true, decide_eq_true_eq] at h2
    refine ⟨h1, fun e => by omega, ?_, ?_⟩ <;> (rw [h2.1]; decide)
  rw [if_neg h3] at h2
  by_cases h4 : k = 1
  · rw [if_pos h4] at h2
    simp only [Bool.and_eq_true, Bool.or_eq_true, decide_eq_true_eq, List.isEmpty_iff] at h2
    refine ⟨h1, fun _ => h2, ?_, ?_⟩ <;> (rcases h2.2 with e | e <;> rw [e] <;> decide)
  · rw [if_neg h4] at h2
    simp only [Bool.and_eq_true, decide_eq_true_eq] at h2
    exact ⟨h1, fun e => absurd e h4, h2.1.2, h2.2⟩
theorem goes_open {pa : List Par} {ags : List Ag} (hpre : ∀ (j : Nat) (x : Ag), ags[j]? = some x → ∃ y : Par, pa[j]? = some y ∧ y.1 = x.1) (h : openE pa ags = 0) : Goes (kindOf pa) (bookV ags) := by
  unfold openE at h
  by_cases hl : ags.length < pa.length
  · rw [if_pos hl] at h; exact absurd h (by decide)
  rw [if_neg hl] at h
  have hw : wrongV pa ags = false := by
    cases hw : wrongV pa ags with
    | false => rfl
    | true => rw [hw, if_pos rfl] at h; exact absurd h (by decide)
  intro s
  unfold bookV
  cases hf : ags.find? (fun x => decide (x.1.data.toList = s)) with
  | some x =>
    have hm := List.mem_of_find?_eq_some hf
    have hs : x.1.data.toList = s := of_decide_eq_true (List.find?_some (p := fun x : Ag => decide (x.1.data.toList = s)) hf)
    have hx : fitsV (kindOf pa x.1.data.toList) x.2 = true := by
      unfold wrongV at hw
      have := List.any_eq_false.1 hw x hm
      simpa using this
    rw [hs] at hx
    exact fits_ok hx
  | none =>
    have hk : kindOf pa s = 0 := by
      unfold kindOf
      have : pa.find? (fun x => decide (x.1.data.toList = s)) = none := by
        rw [List.find?_eq_none]
        intro y hy hd
        obtain ⟨j, hj⟩ := List.getElem?_of_mem hy
        have hjl := (List.getElem?_eq_some_iff.1 hj).1
        have hja : j < ags.length := by omega
        obtain ⟨y', hy', e⟩ := hpre j _ (List.getElem?_eq_getElem hja)
        rw [hj] at hy'
        obtain rfl := Option.some.inj hy'
        have := List.find?_eq_none.1 hf _ (List.getElem_mem hja)
        rw [← e] at this
        exact this hd
      rw [this]; rfl
    rw [hk]
    exact ⟨rfl, fun e => by omega, by decide, by decide⟩
/-- what Eval tells of a condition, by the usual parameters and these values -/
noncomputable def evU (a b : Int) (s : ByteArray) (f : Bool) (r : CT) : Vl × Int := evalC (kindOf parL) (bookV (agL a b s f)) (openE parL (agL a b s f)) r
theorem evu_calls (a b : Int) (s : ByteArray) (f : Bool) (r : CT) (hcw : r.cw ≤ 400000) (W : World) (g1 g2 : Nat) (cs : List Value) (hP : ParAt W g1 0 parL) (hA : AgAt W g2 0 (agL a b s f)) (hR : CV W cs r) (hS : Std W) :
    Calls Tryz.prog 8 #[.slice (some ⟨g1, 0, none⟩) 4 4, .agg cs.toArray, .slice (some ⟨g2, 0, none⟩) 4 4] W (EvPost (evU a b s f r) W) :=
  eval_calls parL parL_ok (agL a b s f) (agL_pre a b s f) (goes_open (agL_pre a b s f)) r hcw g1 0 4 _ cs W hP ⟨_, 4, rfl, fun _ => ⟨g2, 0, rfl, hA, Nat.le_refl _, by decide⟩⟩ hR hS
theorem evn_calls (r : CT) (hcw : r.cw ≤ 400000) (W : World) (g1 : Nat) (cs : List Value) (hP : ParAt W g1 0 parL) (hR : CV W cs r) (hS : Std W) :
    Calls Tryz.prog 8 #[.slice (some ⟨g1, 0, none⟩) 4 4, .agg cs.toArray, .slice none 0 0] W (EvPost (evalC (kindOf parL) (bookV []) (openE parL []) r) W) :=
  eval_calls parL parL_ok [] (fun j x h => by simp at h) (fun h => absurd h (by decide)) r hcw g1 0 4 _ cs W hP ⟨none, 0, rfl, fun h => absurd rfl h⟩ hR hS
end Go.Proofs.YtdfgbkilaepolaaGreatDoor
