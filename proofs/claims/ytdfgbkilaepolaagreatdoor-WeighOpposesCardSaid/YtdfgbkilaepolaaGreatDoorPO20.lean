/- Walks: kinds.isName, Check, of parameters that may be. Walks: kinds.Kind. What can be written is rightly made. Walks: kinds.Kind, of parameters that may be. Walks: the value of a condition: what its parts have in common. -/
import Derived.Test.YtdfgbkilaepolaaGreatDoorPW02
import Derived.Test.YtdfgbkilaepolaaGreatDoorPO18
import Derived.WalkLawsBesides
import Derived.Test.YtdfgbkilaepolaaGreatDoorPO19
import Derived.Test.YtdfgbkilaepolaaGreatDoorPO12
namespace Go.Proofs.YtdfgbkilaepolaaGreatDoor
open Go.RowKit Go.Maps
theorem strV_data (s : ByteArray) : strV s.data.toList = .string s := by unfold strV; rw [Array.toArray_toList]
set_option maxHeartbeats 2000000 in
theorem kisName_calls (s : ByteArray) (w : World) (hE : ErrAt w) (hn : isNm s.data.toList = true) (hs : s.size ≤ 1000) :
    Calls Tryz.prog 48 #[.string s] w fun e w' => e = .returned (.bool true) ∧ Below w.heap.size w w' := by
  have P := parse_calls s w hE (by omega)
  unfold isNm at hn
  simp only [Bool.and_eq_true, decide_eq_true_eq] at hn
  obtain ⟨⟨h1, h2⟩, h3⟩ := hn
  have P2 : Calls Tryz.prog 72 #[.string s] w fun e w' => ∃ (m q : Int) (p : Option Addr) (n c : Nat), e = .returned (.tuple #[.agg #[.int .i64 5, .int .i64 m, .string s, .slice p n c], .int .i64 q, .int .i64 0]) ∧ Below w.heap.size w w' := by
    refine P.mono ?_
    rintro e w' ⟨cs, rfl, hC, hB, _⟩
    obtain ⟨p, n, c, rfl, _⟩ := hC.form
    rw [h1, h2, h3, strV_data]
    exact ⟨_, _, p, n, c, rfl, hB⟩
  have P3 := Lib.hid P2
  clear P P2 h1 h2 h3 hE hs
  go_enter Tryz.func48, Tryz.ntmps48
  go_wp2_with fail
  refine P3.out.mono ?_
  rintro e w1 ⟨m, q, p, n, c, rfl, hB⟩
  have hB' := Lib.hid hB
  go_wp2_with fail
  go_ret
  exact ⟨rfl, hB.alloc hB.size _⟩
set_option maxHeartbeats 4000000 in
set_option maxRecDepth 100000 in
theorem check_calls (ps : List Par) (hps : ParsOk ps) (g o c : Nat) (w : World) (hA : ParAt w g o ps) (hE : ErrAt w) :
    Calls Tryz.prog 26 #[.slice (some ⟨g, o, none⟩) ps.length c] w fun e w' => e = .returned (.int .i64 0) ∧ Below w.heap.size w w' := by
  obtain ⟨h1, h2, h3, h4, h5⟩ := hps
  obtain ⟨b, hb⟩ : ∃ b, w.heap.size = b := ⟨_, rfl⟩
  have M0 := MapAt.made Tryz.prog 9 w
  rw [hb] at M0
  have B0 := Lib.hid ((Below.refl w.heap.size w).alloc (Nat.le_refl _) (.map #[] 0))
  have M0' := Lib.hid M0
  have hmm := @run_makeMap Tryz.prog
  obtain ⟨n, hn⟩ : ∃ n, ps.length = n := ⟨_, rfl⟩
  rw [hn] at h3 ⊢
  have hb' := Lib.hid hb
  have hn' := Lib.hid hn
  have hA' := Lib.hid hA
  have hE' := Lib.hid hE
  have h1' := Lib.hid h1
  have h2' := Lib.hid h2
  have h4' := Lib.hid h4
  have h5' := Lib.hid h5
  clear M0 hn hA hE h1 h2 h4 h5
  go_enter Tryz.func26, Tryz.ntmps26
  go_wp2_with fail
  clear hb
  go_loopw [4, 10] (fun bd i wr => ∃ k : Nat, bd = .int .i64 0 ∧ i = .int .i64 k ∧ k ≤ n ∧ Below w.heap.size w wr ∧ MapAt Tryz.prog 9 wr b k (mapf ((ps.take k).map fun x => (.string x.1, .bool true)))) (fun _ i _ => n - (intOf i).toNat)
  case atStart => exact ⟨0, rfl, rfl, Nat.zero_le _, B0.out, M0'.out⟩
  case round =>
    clear hmm B0 M0'
    obtain ⟨k, rfl, rfl, hk, hB, hM⟩ := hrel
    by_cases hlt : k < n
    · have hkl : k < ps.length := by rw [hn'.out]; exact hlt
      obtain ⟨x, hx⟩ : ∃ x, ps[k]? = some x := ⟨_, List.getElem?_eq_getElem hkl⟩
      have hxm := List.mem_of_getElem? hx
      have hAr := hA'.out.later hB
      have q0 := hAr.name k x hx
      have q1 := hAr.kind k x hx
      have lg := hAr.lt
      have n1 := h1'.out x hxm
      obtain ⟨n2, n3⟩ := h2'.out x hxm
      have n4 := h4'.out x hxm
      have hnew : mapf ((ps.take k).map fun x => (Value.string x.1, Value.bool true)) (.string x.1) = none := by
        refine mapf_none fun y hy => ?_
        obtain ⟨z, hz, rfl⟩ := List.mem_map.1 hy
        intro e
        injection e with e
        obtain ⟨i, hi⟩ := List.getElem?_of_mem hz
        have hik : i < k := by
          have := (List.getElem?_eq_some_iff.1 hi).1
          rw [List.length_take] at this; omega
        rw [List.getElem?_take, if_pos hik] at hi
        have hnd := h5'.out
        have hil : i < (ps.map (·.1)).length := by rw [List.length_map]; omega
        have hkl2 : k < (ps.map (·.1)).length := by rw [List.length_map]; omega
        have hp := List.pairwise_iff_getElem.1 hnd i k hil hkl2 hik
        apply hp
        rw [List.getElem_map, List.getElem_map, (List.getElem?_eq_some_iff.1 hi).2, (List.getElem?_eq_some_iff.1 hx).2]
        exact e
      have htake : (ps.take (k + 1)).map (fun x => (Value.string x.1, Value.bool true)) = (ps.take k).map (fun x => (Value.string x.1, Value.bool true)) ++ [(.string x.1, .bool true)] := by
        obtain ⟨e1, e2⟩ := List.getElem?_eq_some_iff.1 hx
        rw [List.take_succ_eq_append_getElem e1, e2, List.map_append]; rfl
      have hEr := hE'.out.keeps (S := fun _ => False) (.of_below hB) id
      obtain ⟨s, kk⟩ := x
      simp only at q0 q1 n1 n2 n3 n4 hnew htake
      have k1 : ¬ kk < 1 := by omega
      have k2 : ¬ 3 < kk := by omega
      have hB1 := (Below.refl wr.heap.size wr).alloc (Nat.le_refl _) (.cells #[.string s, .int .i64 kk] 61)
      have bT := Blk.new wr 61 #[.string s, .int .i64 kk]
      obtain ⟨w3, e3⟩ : ∃ w3, wr.alloc (.cells #[.string s, .int .i64 kk] 61) = w3 := ⟨_, rfl⟩
      rw [e3] at hB1 bT
      have P := Lib.hid (kisName_calls s w3 (hEr.keeps (S := fun _ => False) (.of_below hB1) id) n1 n4)
      have tc := bT.cell
      have bT' := Lib.hid bT
      have hM3 := Lib.hid (hM.later hB1)
      have hB3 := Lib.hid (hB.trans (hB1.mono hB.size))
      have hlb := hM.lt
      have hnew' := Lib.hid hnew
      have htake' := Lib.hid htake
      clear hx hxm hAr n1 n2 n3 hnew htake hEr hB1 bT hM hB hkl
      go_wp2_with fail
      refine P.out.mono ?_
      rintro e w4 ⟨rfl, hb4⟩
      have bT4 := bT'.out.below hb4 bT'.out.lt
      have tc4 := bT4.cell
      have hM4 := hM3.out.later hb4
      obtain ⟨w5, hr, hM5, hk5⟩ := hM4.put strKeyed Tryz.underlying85 (by unfold maxLen; omega) (strKey (s := s) (by unfold maxLen; omega)) (.bool true)
      rw [hnew'.out, ← mapf_snoc _ (Value.string s, Value.bool true), ← htake'.out] at hM5
      have hne : wr.heap.size ≠ b := by omega
      have bT5 := bT4.keeps hk5 hne
      have tc5 := bT5.cell
      have hB5 := Lib.hid (Keeps.below_step (hB3.out.trans (hb4.mono hB3.out.size)) (hB3.out.trans (hb4.mono hB3.out.size)).size hk5 (fun j e => by rw [hb'.out]; omega))
      have hM5' := Lib.hid hM5
      clear hM4 hM5 bT4 bT5 hk5 hb4 tc P bT' hM3 hB3 hne
      go_wp2_with fail
      go_roundw
      case rel => exact ⟨k + 1, rfl, by go_num, by omega, hB5.out, hM5'.out⟩
      case measure => simp [intOf]; omega
    · obtain rfl : k = n := by omega
      have hl := hM.len Tryz.underlying85
      have hB' := Lib.hid hB
      clear hM hB
      go_wp2_with fail
      go_ret
      exact ⟨rfl, hB'.out⟩
end Go.Proofs.YtdfgbkilaepolaaGreatDoor
namespace Go.Proofs.YtdfgbkilaepolaaGreatDoor
open Go.RowKit Go.Maps
theorem slim_of_cw (r : CT) (h : r.cw ≤ 1000000) : r.slim := by
  have hn := cw_node r
  have hp : ∀ p ∈ r.parts, p.slim := fun p hpm => slim_of_cw p (by have := cwL_mem hpm; omega)
  cases r with
  | node k n s ps => exact .mk (by simp only [CT.str] at hn; omega) hp
termination_by SizeOf.sizeOf r
decreasing_by exact partc_lt hpm
theorem partW_inv {cond : Wr} {d least : Nat} {c : CT} {x : List Piece} (h : partW cond d least c = some x) : ∃ d' x', cond d' c = some x' := by
  unfold partW at h
  split at h
  · exact ⟨_, _, h⟩
  · cases d with
    | zero => cases h
    | succ d => obtain ⟨y, hy, _⟩ := Option.map_eq_some_iff.1 h; exact ⟨_, _, hy⟩
theorem partsW_inv {cond : Wr} {d least : Nat} {sep : List Piece} : ∀ {ps : List CT} {x : List Piece}, partsW cond d least sep ps = some x → ∀ p ∈ ps, ∃ d' x', cond d' p = some x'
  | [], _, _, p, hp => by cases hp
  | [c], _, h, p, hp => by
    obtain rfl := List.mem_singleton.1 hp
    exact partW_inv (show partW cond d least p = some _ from h)
  | c :: c2 :: l, _, h, p, hp => by
    have h2 : (match partW cond d least c with | none => none | some x => (partsW cond d least sep (c2 :: l)).map fun y => x ++ sep ++ y) = some _ := h
    cases hc : partW cond d least c with
    | none => rw [hc] at h2; cases h2
    | some u =>
      rw [hc] at h2
      obtain ⟨y, hy, _⟩ := Option.map_eq_some_iff.1 h2
      rcases List.mem_cons.1 hp with rfl | hp
      · exact partW_inv hc
      · exact partsW_inv hy p hp
theorem twoW_inv {cond : Wr} {d l1 l2 : Nat} {sep : List Piece} {ps : List CT} {x : List Piece} (h : twoW cond d l1 l2 sep ps = some x) : ∀ p ∈ ps, ∃ d' x', cond d' p = some x' := by
  match ps, h with
  | [a, b], h =>
    have h2 : (match partW cond d l1 a with | none => none | some x => (partW cond d l2 b).map fun y => x ++ sep ++ y) = some x := h
    cases hc : partW cond d l1 a with
    | none => rw [hc] at h2; cases h2
    | some u =>
      rw [hc] at h2
      obtain ⟨y, hy, _⟩ := Option.map_eq_some_iff.1 h2
      intro p hp
      rcases List.mem_cons.1 hp with rfl | hp
      · exact partW_inv hc
      · obtain rfl := List.mem_singleton.1 hp
        exact partW_inv hy
theorem well_of {c : CT} (h : rightC c = true) (hp : ∀ p ∈ c.parts, p.well) : c.well := by cases c; exact .mk h hp
theorem well_cond : ∀ f d c x, condW f d c = some x → c.well
  | 0, _, _, _, h => by cases h
  | f + 1, d, c, x, h => by
    have ih := well_cond f
    have h : stepW (condW f) d c = some x := h
    have hr := right_step h
    refine well_of hr ?_
    have all : (∀ p ∈ c.parts, ∃ d' x', condW f d' p = some x') → ∀ p ∈ c.parts, p.well := fun h p hp => by
      obtain ⟨d', x', e⟩ := h p hp; exact ih _ _ _ e
    unfold stepW at h
    rw [if_neg (by rw [hr]; simp)] at h
    have kin : (1 ≤ c.kind ∧ c.kind ≤ 5 → c.parts = []) := by
      intro hk
      unfold rightC at hr
      by_cases k1 : c.kind = 1 ∨ c.kind = 2
      · rw [if_pos k1] at hr; simp only [Bool.and_eq_true, List.isEmpty_iff] at hr; exact hr.1
      rw [if_neg k1] at hr
      by_cases k3 : c.kind = 3
      · rw [if_pos k3] at hr; simp only [Bool.and_eq_true, List.isEmpty_iff] at hr; exact hr.1.1.1
      rw [if_neg k3] at hr
      by_cases k4 : c.kind = 4
      · rw [if_pos k4] at hr; simp only [Bool.and_eq_true, List.isEmpty_iff] at hr; exact hr.1.1
      rw [if_neg k4] at hr
      by_cases k5 : c.kind = 5
      · rw [if_pos k5] at hr; simp only [Bool.and_eq_true, List.isEmpty_iff] at hr; exact hr.1.1
      omega
    by_cases hu : unlikeC c = true
    · rw [if_pos hu] at h
      have hu2 := hu
      unfold unlikeC at hu2
      intro q hq
      cases hps : c.parts with
      | nil => rw [hps] at hq; cases hq
      | cons p l =>
        cases l with
        | nil =>
          rw [hps] at hu2 hq h
          simp only [Bool.and_eq_true, beq_iff_eq, decide_eq_true_eq] at hu2
          obtain ⟨_, ⟨h9, h2⟩, hpl⟩ := hu2
          obtain rfl := List.mem_singleton.1 hq
          refine well_of ?_ fun z hz => ?_
          · unfold rightC
            rw [if_neg (by omega), if_neg (by omega), if_neg (by omega), if_neg (by omega), if_neg (by omega), if_neg (by omega), if_neg (by omega), if_pos (by omega), hpl, h2]; rfl
          · obtain ⟨d', x', e⟩ := partsW_inv h z hz
            exact ih _ _ _ e
        | cons p2 l => rw [hps] at hu2; simp at hu2
    rw [if_neg hu] at h
    by_cases k5 : 1 ≤ c.kind ∧ c.kind ≤ 5
    · rw [kin k5]; intro p hp; cases hp
    rw [if_neg (by intro e; omega), if_neg (by intro e; omega), if_neg (by intro e; omega), if_neg (by intro e; omega), if_neg (by intro e; omega)] at h
    have one : c.kind = 6 → c.parts.length = 1 := by
      intro k6
      unfold rightC at hr
      rw [if_neg (by omega), if_neg (by omega), if_neg (by omega), if_neg (by omega), if_pos k6] at hr
      simp only [Bool.and_eq_true, decide_eq_true_eq] at hr
      exact hr.1
    by_cases k6 : c.kind = 6
    · rw [if_pos k6] at h
      obtain ⟨y, hy, _⟩ := Option.map_eq_some_iff.1 h
      obtain ⟨d', x', e⟩ := partW_inv hy
      have h1 := one k6
      intro p hp
      cases hps : c.parts with
      | nil => rw [hps] at hp; cases hp
      | cons q l =>
        rw [hps] at h1 e hp
        have : l = [] := List.eq_nil_of_length_eq_zero (by simpa using h1)
        subst this
        obtain rfl := List.mem_singleton.1 hp
        exact ih _ _ _ e
    rw [if_neg k6] at h
    by_cases k8 : c.kind = 8
    · rw [if_pos k8] at h; exact all (partsW_inv h)
    rw [if_neg k8] at h
    by_cases k7 : c.kind = 7
    · rw [if_pos k7] at h; exact all (partsW_inv h)
    rw [if_neg k7] at h
    by_cases k15 : c.kind = 15
    · rw [if_pos k15] at h
      cases hc : partW (condW f) d 5 (c.parts.headD (leaf 0 0 [])) with
      | none => rw [hc] at h; cases h
      | some u =>
        rw [hc] at h
        obtain ⟨y, hy, _⟩ := Option.map_eq_some_iff.1 h
        have i1 := partW_inv hc
        have i2 := partsW_inv hy
        intro p hp
        cases hps : c.parts with
        | nil => rw [hps] at hp; cases hp
        | cons a l =>
          rw [hps] at hp i1 i2
          rcases List.mem_cons.1 hp with rfl | hp
          · obtain ⟨d', x', e⟩ := i1; exact ih _ _ _ e
          · obtain ⟨d', x', e⟩ := i2 p hp; exact ih _ _ _ e
    rw [if_neg k15] at h
    by_cases k9 : c.kind = 9
    · rw [if_pos k9] at h; exact all (partsW_inv h)
    rw [if_neg k9] at h
    by_cases k10 : c.kind = 10
    · rw [if_pos k10] at h; exact all (partsW_inv h)
    rw [if_neg k10] at h
    by_cases k11 : c.kind = 11
    · rw [if_pos k11] at h; exact all (partsW_inv h)
    rw [if_neg k11] at h
    by_cases k13 : c.kind = 13
    · rw [if_pos k13] at h; exact all (twoW_inv h)
    rw [if_neg k13] at h
    by_cases k14 : c.kind = 14
    · rw [if_pos k14] at h; exact all (twoW_inv h)
    rw [if_neg k14] at h
    exact all (twoW_inv h)
theorem well_of_print {c : CT} (h : (printC c).2 = 0) : c.well := by
  obtain ⟨_, ps, hp, _⟩ := printC_ok.1 h
  obtain ⟨d, x, e⟩ := partW_inv hp
  exact well_cond _ _ _ _ e
/-- a condition's kind, or why it has none -/
def kindE (K : List UInt8 → Int) (c : CT) : Int × Int :=
  if (printC c).2 ≠ 0 then (0, (printC c).2) else if ((namesC c).any fun n => decide (K n = 0)) = true then (0, 4) else if kindC K c ≤ 0 then (0, 1) else (kindC K c, 0)
theorem names_slim (r : CT) (hs : r.slim) : ∀ s ∈ namesC r, s.length ≤ maxLen := by
  have hp : ∀ p ∈ r.parts, ∀ s ∈ namesC p, s.length ≤ maxLen := fun p hpm => names_slim p (hs.part hpm)
  intro s h
  rw [namesC_eq, List.mem_append] at h
  rcases h with h | h
  · split at h
    · obtain rfl := List.mem_singleton.1 h
      have := hs.str
      unfold maxLen; omega
    · cases h
  · obtain ⟨p, hpm, h⟩ := List.mem_flatMap.1 h
    exact hp p hpm s h
termination_by SizeOf.sizeOf r
decreasing_by exact partc_lt hpm
end Go.Proofs.YtdfgbkilaepolaaGreatDoor
namespace Go.Proofs.YtdfgbkilaepolaaGreatDoor
open Go.RowKit Go.Maps
theorem take_par {pa : List Par} {f : Par → Value × Value} {k : Nat} {x : Par} (hx : pa[k]? = some x) : (pa.take (k + 1)).map f = (pa.take k).map f ++ [f x] := by
  obtain ⟨e1, e2⟩ := List.getElem?_eq_some_iff.1 hx
  rw [List.take_succ_eq_append_getElem e1, e2, List.map_append]; rfl
theorem any_same {ns ms : List (List UInt8)} (h : ∀ x, x ∈ ns ↔ x ∈ ms) (p : List UInt8 → Bool) : ns.any p = ms.any p := by
  rw [Bool.eq_iff_iff, List.any_eq_true, List.any_eq_true]
  constructor
  · rintro ⟨x, hx, hp⟩; exact ⟨x, (h x).1 hx, hp⟩
  · rintro ⟨x, hx, hp⟩; exact ⟨x, (h x).2 hx, hp⟩
theorem row_len {w : World} {B : Nat} {v : Value} {ns : List (List UInt8)} (h : w.ownsRow B 9 1 v ns.length (ns.map encStr)) : ns.length ≤ maxLen := by
  rcases h.2 with ⟨_, h0⟩ | ⟨g, c, cur, _, _, _, h1, h2, _⟩
  · rw [h0]; exact Nat.zero_le _
  · omega
set_option maxHeartbeats 8000000 in
set_option maxRecDepth 100000 in
theorem kkind_calls (pa : List Par) (hpa : ParsOk pa) (r : CT) (hcw : r.cw ≤ 400000) (g o c : Nat) (cs : List Value) (w : World) (hA : ParAt w g o pa) (hR : CV w cs r) (hS : Std w) :
    Calls Tryz.prog 15 #[.slice (some ⟨g, o, none⟩) pa.length c, .agg cs.toArray] w fun e w' => e = .returned (.tuple #[.int .i64 (kindE (kindOf pa) r).1, .int .i64 (kindE (kindOf pa) r).2]) ∧ Below w.heap.size w w' := by
  have hsl := slim_of_cw r (by omega)
  have hsz := size_cw r
  have hnames := names_slim r hsl
  obtain ⟨h1, h2, h3, h4, h5⟩ := hpa
  have hpa : ParsOk pa := ⟨h1, h2, h3, h4, h5⟩
  obtain ⟨k, m, a, p, c2, ds, ecs, -, -, -, -⟩ := hR.form
  rw [ecs] at hR ⊢
  clear ecs
  obtain ⟨X, hX⟩ : ∃ X, kindE (kindOf pa) r = X := ⟨_, rfl⟩
  rw [hX]
  unfold kindE at hX
  have hX' := Lib.hid hX
  clear hX
  obtain ⟨x1, x2⟩ := X
  simp only
  -- the box
  have b0 := Blk.new w 28 #[.int .i64 k, .int .i64 m, .string a, .slice p r.parts.length c2]
  have B0 := (Below.refl w.heap.size w).alloc (Nat.le_refl _) (.cells #[.int .i64 k, .int .i64 m, .string a, .slice p r.parts.length c2] 28)
  obtain ⟨w0, e0⟩ : ∃ w0, w.alloc (.cells #[.int .i64 k, .int .i64 m, .string a, .slice p r.parts.length c2] 28) = w0 := ⟨_, rfl⟩
  rw [e0] at b0 B0
  have P := Lib.hid (check_calls pa hpa g o c w0 (hA.later B0) (hS.next B0).err)
  have PR := Lib.hid (fun W (h : Below w.heap.size w W) => print_calls r (by omega) _ W (hR.later h) (hS.next h).tb)
  have NM := Lib.hid (fun W (h : Below w.heap.size w W) => names_calls r hsl (by omega) hnames _ W (hR.later h))
  have KC := Lib.hid (fun (hw : r.well) W b n (h : Below w.heap.size w W) (hM : MapAt Tryz.prog 9 W b n (kindf pa)) => kind_calls pa h5 r hsl hw _ W b n (hR.later h) hM)
  have hA' := Lib.hid hA
  have b0' := Lib.hid b0
  have B0' := Lib.hid B0
  have hnames' := Lib.hid hnames
  have h4' := Lib.hid h4
  have h5' := Lib.hid h5
  have hmm := @run_makeMap Tryz.prog
  obtain ⟨n, hn⟩ : ∃ n, pa.length = n := ⟨_, rfl⟩
  rw [hn] at P h3 ⊢
  have hn' := Lib.hid hn
  clear hA hR hS b0 B0 hnames h1 h2 h4 h5 hpa hn hcw
  go_enter Tryz.func15, Tryz.ntmps15
  go_wp2_with fail
  refine P.out.mono ?_
  rintro e w1 ⟨rfl, hb1⟩
  have hB1 := B0'.out.trans (hb1.mono B0'.out.size)
  have hb1x := b0'.out.below hb1 b0'.out.lt
  have xc1 := hb1x.cell
  have PR1 := Lib.hid (PR.out w1 hB1)
  have hB1' := Lib.hid hB1
  have hb1x' := Lib.hid hb1x
  clear hb1 hB1 P PR b0' B0' hb1x
  go_wp2_with fail
  refine PR1.out.mono ?_
  rintro e w2 ⟨rfl, hb2⟩
  have hB2 := hB1'.out.trans (hb2.mono hB1'.out.size)
  have hx2 := hb1x'.out.below hb2 hb1x'.out.lt
  have hB2' := Lib.hid hB2
  have hx2' := Lib.hid hx2
  clear hb2 hB2 PR1 hB1' hb1x' xc1
  by_cases hpr : (printC r).2 = 0
  · have hwell := well_of_print hpr
    have hX2 := hX'.out
    rw [if_neg (by simpa using hpr)] at hX2
    have hX3 := Lib.hid hX2
    clear hX2 hX'
    have KC1 := Lib.hid (KC.out hwell)
    clear KC
    generalize (printC r).2 = pe at *
    subst hpr
    generalize (⟨(printC r).1.toArray⟩ : ByteArray) = pt at *
    have M3 := MapAt.made Tryz.prog 9 w2
    have B3 := hB2'.out.alloc hB2'.out.size (.map #[] 0)
    have x3 := hx2.alloc (.map #[] 0)
    obtain ⟨w3, e3⟩ : ∃ w3, w2.alloc (.map #[] 0) = w3 := ⟨_, rfl⟩
    obtain ⟨b, hb⟩ : ∃ b, w2.heap.size = b := ⟨_, rfl⟩
    rw [e3] at M3 B3 x3
    rw [hb] at M3
    have hwb : w.heap.size ≤ b := by rw [← hb]; exact hB2'.out.size
    have B3b := (Below.refl w3.heap.size w3).alloc (Nat.le_refl _) (.cells #[.map (some b)] 71)
    have g4 := Blk.new w3 71 #[.map (some b)]
    have x4 := x3.alloc (.cells #[.map (some b)] 71)
    have M4 := M3.later B3b
    have B4 := B3.trans (B3b.mono B3.size)
    obtain ⟨w4, e4⟩ : ∃ w4, w3.alloc (.cells #[.map (some b)] 71) = w4 := ⟨_, rfl⟩
    have hbl : b < w3.heap.size := M3.lt
    obtain ⟨gb, hgb⟩ : ∃ gb, w3.heap.size = gb := ⟨_, rfl⟩
    rw [e4] at g4 x4 M4 B4
    rw [hgb] at g4 hbl
    have hxb : w.heap.size ≠ b := by
      have := hx2'.out.lt
      omega
    have g4' := Lib.hid g4
    have x4' := Lib.hid x4
    have M4' := Lib.hid M4
    have B4' := Lib.hid B4
    have gc4 := g4.cell
    have xc4 := x4.cell
    have xc2 := hx2.cell
    have xc3 := x3.cell
    clear M3 B3 x3 B3b g4 x4 M4 B4 hx2
    go_wp2_with fail
    go_loopw [29] (fun i wr => ∃ j : Nat, i = .int .i64 j ∧ j ≤ n ∧ Below w.heap.size w wr ∧ Blk wr w.heap.size 28 #[.int .i64 k, .int .i64 m, .string a, .slice p r.parts.length c2] ∧ Blk wr gb 71 #[.map (some b)] ∧ MapAt Tryz.prog 9 wr b j (mapf ((pa.take j).map fun x => (.string x.1, .int .i64 x.2)))) (fun i _ => n - (intOf i).toNat)
    case atStart => exact ⟨0, rfl, Nat.zero_le _, B4'.out, x4'.out, g4'.out, M4'.out⟩
    case round =>
      clear hmm g4' x4' M4' B4' gc4 xc4 e3 e4 hgb
      obtain ⟨j, rfl, hj, hB, hXb, hG, hM⟩ := hrel
      by_cases hlt : j < n
      · have hjl : j < pa.length := by rw [hn'.out]; exact hlt
        obtain ⟨x, hx⟩ : ∃ x, pa[j]? = some x := ⟨_, List.getElem?_eq_getElem hjl⟩
        have hxm := List.mem_of_getElem? hx
        have hAr := hA'.out.later hB
        have q0 := hAr.name j x hx
        have q1 := hAr.kind j x hx
        have lg := hAr.lt
        have n4 := h4'.out x hxm
        have hnew : mapf ((pa.take j).map fun x => (Value.string x.1, Value.int .i64 x.2)) (.string x.1) = none := by
          refine mapf_none fun y hy => ?_
          obtain ⟨z, hz, rfl⟩ := List.mem_map.1 hy
          intro e
          injection e with e
          obtain ⟨i, hi⟩ := List.getElem?_of_mem hz
          have hik : i < j := by
            have := (List.getElem?_eq_some_iff.1 hi).1
            rw [List.length_take] at this; omega
          rw [List.getElem?_take, if_pos hik] at hi
          have hnd := h5'.out
          have hil : i < (pa.map (·.1)).length := by rw [List.length_map]; omega
          have hkl2 : j < (pa.map (·.1)).length := by rw [List.length_map]; omega
          have hp := List.pairwise_iff_getElem.1 hnd i j hil hkl2 hik
          apply hp
          rw [List.getElem_map, List.getElem_map, (List.getElem?_eq_some_iff.1 hi).2, (List.getElem?_eq_some_iff.1 hx).2]
          exact e
        have htake := Lib.hid (take_par (f := fun x => (Value.string x.1, Value.int .i64 x.2)) hx)
        obtain ⟨s, kk⟩ := x
        simp only at q0 q1 n4 hnew htake
        have hB1 := (Below.refl wr.heap.size wr).alloc (Nat.le_refl _) (.cells #[.string s, .int .i64 kk] 61)
        have bT := Blk.new wr 61 #[.string s, .int .i64 kk]
        obtain ⟨w5, e5⟩ : ∃ w5, wr.alloc (.cells #[.string s, .int .i64 kk] 61) = w5 := ⟨_, rfl⟩
        rw [e5] at hB1 bT
        have tc := bT.cell
        have hM5 := hM.later hB1
        have hG5 := hG.below hB1 hG.lt
        have hX5 := hXb.below hB1 hXb.lt
        have hB5 := hB.trans (hB1.mono hB.size)
        have gc := hG5.cell
        obtain ⟨w6, hr, hM6, hk6⟩ := hM5.put strKeyed Tryz.underlying71 (by unfold maxLen; omega) (strKey (s := s) (by unfold maxLen; omega)) (.int .i64 kk)
        rw [hnew, ← mapf_snoc _ (Value.string s, Value.int .i64 kk), ← htake.out] at hM6
        have hgbb : gb ≠ b := by omega
        have hG6 := Lib.hid (hG5.keeps hk6 hgbb)
        have hX6 := Lib.hid (hX5.keeps hk6 hxb)
        have hB6 := Lib.hid (Keeps.below_step hB5 hB5.size hk6 (fun j e => by rw [e]; exact hwb))
        have hM6' := Lib.hid hM6
        clear hx hxm hAr hnew htake hB1 bT hM5 hG5 hX5 hB5 hM6 hk6 hM hG hXb hB hjl
        go_wp2_with fail
        go_roundw
        case rel => exact ⟨j + 1, by go_num, by omega, hB6.out, hX6.out, hG6.out, hM6'.out⟩
        case measure => simp [intOf]; omega
      · obtain rfl : j = n := by omega
        rw [List.take_of_length_le (by rw [hn'.out]; exact Nat.le_refl _)] at hM
        have xc := hXb.cell
        have N := Lib.hid (NM.out wr hB)
        have hM' := Lib.hid hM
        have hG' := Lib.hid hG
        have hXb' := Lib.hid hXb
        have hB' := Lib.hid hB
        clear hM hG hXb hB NM
        go_wp2_with fail
        refine N.out.mono ?_
        rintro e w5 ⟨v, ns, rfl, hm, hrow, hb5⟩
        have hG5 := hG'.out.below hb5 hG'.out.lt
        have hM5 := hM'.out.later hb5
        have hX5 := hXb'.out.below hb5 hXb'.out.lt
        have hB5 := hB'.out.trans (hb5.mono hB'.out.size)
        have D := Lib.hid (known_calls pa h5'.out gb b _ ns v w5 hrow (fun x hx => hnames'.out x ((hm x).1 hx)) (row_len hrow) ⟨hG5, _, hM5⟩)
        rw [any_same hm] at D
        have hG5' := Lib.hid hG5
        have hM5' := Lib.hid hM5
        have hX5' := Lib.hid hX5
        have hB5' := Lib.hid hB5
        clear hG5 hM5 hX5 hB5 hrow hm hb5 N hG' hM' hXb' hB' xc
        obtain ⟨any, hany⟩ : ∃ any, ((namesC r).any fun s => decide (kindOf pa s = 0)) = any := ⟨_, rfl⟩
        have D1 := D.out
        have hX4 := hX3.out
        rw [hany] at D1 hX4
        have D2 := Lib.hid D1
        have hX5 := Lib.hid hX4
        clear D D1 hX3 hX4 hany
        go_wp2_with fail
        refine D2.out.mono ?_
        rintro e w6 ⟨rfl, q, rfl⟩
        have hG6 := (hG5'.out.drewN q).cell
        have hX6 := (hX5'.out.drewN q).cell
        have hB6 := bdrewN hB5'.out q
        have hB6' := Lib.hid hB6
        cases any
        · rw [if_neg (by simp)] at hX5
          have K := KC1.out (w5.drewN q) b _ hB6 (hM5'.out.later (bdrewN (Below.refl _ _) q))
          obtain ⟨kz, hkz⟩ : ∃ kz, kindC (kindOf pa) r = kz := ⟨_, rfl⟩
          rw [hkz] at K hX5
          have K' := Lib.hid K
          clear K hB6 KC1 hkz hG5' hM5' hX5' hB5' D2
          by_cases hz : kz ≤ 0
          · have hz2 : ¬ 0 < kz := by omega
            rw [if_pos hz] at hX5
            have e1 := Lib.hid (congrArg (·.1) hX5.out)
            have e2 := Lib.hid (congrArg (·.2) hX5.out)
            clear hX5 hz
            go_wp2_with fail
            refine K'.out.mono ?_
            rintro e w7 ⟨rfl, hb7⟩
            have hB7 := Lib.hid (hB6'.out.trans (hb7.mono hB6'.out.size))
            clear hb7 K'
            go_wp2_with fail
            go_ret2
            exact ⟨by rw [← e1.out, ← e2.out]; rfl, hB7.out⟩
          · have hz2 : 0 < kz := by omega
            rw [if_neg hz] at hX5
            have e1 := Lib.hid (congrArg (·.1) hX5.out)
            have e2 := Lib.hid (congrArg (·.2) hX5.out)
            clear hX5 hz
            go_wp2_with fail
            refine K'.out.mono ?_
            rintro e w7 ⟨rfl, hb7⟩
            have hB7 := Lib.hid (hB6'.out.trans (hb7.mono hB6'.out.size))
            clear hb7 K'
            go_wp2_with fail
            go_ret2
            exact ⟨by rw [← e1.out, ← e2.out]; rfl, hB7.out⟩
        · rw [if_pos rfl] at hX5
          have e1 := Lib.hid (congrArg (·.1) hX5.out)
          have e2 := Lib.hid (congrArg (·.2) hX5.out)
          clear hX5 hB6 KC1 hG5' hM5' hX5' hB5' D2
          go_wp2_with fail
          go_ret2
          exact ⟨by rw [← e1.out, ← e2.out]; rfl, hB6'.out⟩
  · have hX2 := hX'.out
    rw [if_pos (by simpa using hpr)] at hX2
    have e1 := Lib.hid (congrArg (·.1) hX2)
    have e2 := Lib.hid (congrArg (·.2) hX2)
    clear hX2 hX' KC NM hx2 hx2' hmm
    generalize (printC r).2 = pe at *
    generalize (⟨(printC r).1.toArray⟩ : ByteArray) = pt at *
    have hp1 : (pe != 0) = true := by simpa using hpr
    clear hpr
    go_wp2_with fail
    go_ret2
    exact ⟨by rw [← e1.out, ← e2.out]; rfl, hB2'.out⟩
end Go.Proofs.YtdfgbkilaepolaaGreatDoor
namespace Go.Proofs.YtdfgbkilaepolaaGreatDoor
open Go.RowKit Go.Maps
/-- block b is a book of values: B tells what each name stands for -/
def BkAt (w : World) (b : Nat) (B : List UInt8 → Vl) : Prop := ∃ n f, MapAt Tryz.prog 9 w b n f ∧ ∀ s : ByteArray, s.size ≤ maxLen → (f (.string s)).getD (.agg #[.int .i64 0, .int .i64 0, .string ⟨#[]⟩]) = (B s.data.toList).val
theorem BkAt.later {w w' : World} {b : Nat} {B : List UInt8 → Vl} (h : BkAt w b B) (hb : Below w.heap.size w w') : BkAt w' b B := by
  obtain ⟨n, f, h1, h2⟩ := h; exact ⟨n, f, h1.later hb, h2⟩
theorem BkAt.look {w : World} {b : Nat} {B : List UInt8 → Vl} (h : BkAt w b B) {s : ByteArray} (hs : s.size ≤ maxLen) :
    (Instr.lookup 55 (.map (some b)) (.string s) false).run Tryz.prog w = .ok (B s.data.toList).val w := by
  obtain ⟨n, f, h1, h2⟩ := h
  rw [h1.look strKeyed Tryz.underlying55 (zeroVal w) (strKey hs), h2 s hs]
def sameV (a b : Int) (s : ByteArray) (a' b' : Int) (s' : ByteArray) : Bool := a == a' && (b == b' && s.toList == s'.toList)
set_option maxHeartbeats 1000000 in
theorem eql_val (a b a' b' : Int) (s s' : ByteArray) (w : World) : (binOp .eql 33 (.agg #[.int .i64 a, .int .i64 b, .string s]) (.agg #[.int .i64 a', .int .i64 b', .string s'])).run Tryz.prog w = .ok (.bool (sameV a b s a' b' s')) w := by
  unfold sameV
  cases h0 : a == a'
  · simp only [beq_eq_false_iff_ne, ne_eq] at h0
    simp [go_sem, h0]
  simp only [beq_iff_eq] at h0
  cases h1 : b == b'
  · simp only [beq_eq_false_iff_ne, ne_eq] at h1
    simp [go_sem, h0, h1]
  · simp only [beq_iff_eq] at h1
    by_cases h5 : s.toList = s'.toList <;> simp [go_sem, h0, h1, h5]
attribute [local go_sem ↓] eql_val
theorem sameV_eq (a b a' b' : Int) (s s' : ByteArray) : sameV a b s a' b' s' = decide ((⟨a, b, s.data.toList⟩ : Vl) = ⟨a', b', s'.data.toList⟩) := by
  unfold sameV
  rw [Lib.toList_data, Lib.toList_data, Bool.eq_iff_iff]
  simp
/-- what a value that may not be leaves -/
abbrev ValPost (o : Option Vl) (w : World) (e : Ending) (w' : World) : Prop :=
  ∃ (k n : Int) (s : ByteArray) (ok : Bool), e = .returned (.tuple #[.agg #[.int .i64 k, .int .i64 n, .string s], .bool ok]) ∧ Below w.heap.size w w' ∧ (match o with | some u => ok = true ∧ u = ⟨k, n, s.data.toList⟩ | none => ok = false)
def ValSaid (B : List UInt8 → Vl) (q : CT) : Prop := ∀ (cs : List Value) (w : World) (b : Nat), CV w cs q → BkAt w b B → Calls Tryz.prog 17 #[.map (some b), .agg cs.toArray] w (ValPost (valueC B q) w)
/-- three cells stored -/
abbrev set3 (w : World) (g : Nat) (a b c : Value) : World := ((w.setCell ⟨g, 0, none⟩ a).setCell ⟨g, 1, none⟩ b).setCell ⟨g, 2, none⟩ c
theorem Blk.set3 {w : World} {g : Nat} {t : TypeId} {x y z : Value} (h : Blk w g t #[x, y, z]) (a b c : Value) : Blk (set3 w g a b c) g t #[a, b, c] := ((h.set_ 0 a).set_ 1 b).set_ 2 c
theorem below_set3 {B : Nat} {a0 w : World} (h : Below B a0 w) {g : Nat} (hg : B ≤ g) (a b c : Value) : Below B a0 (set3 w g a b c) := ((h.setCell (p := ⟨g, 0, none⟩) hg a).setCell (p := ⟨g, 1, none⟩) hg b).setCell (p := ⟨g, 2, none⟩) hg c
theorem flag_calls' (b : Bool) (w : World) : Calls Tryz.prog 33 #[.bool b] w fun e w' => e = .returned (.agg #[.int .i64 1, .int .i64 (flagV b).n, .string ⟨#[]⟩]) ∧ Below w.heap.size w w' := flag_calls b w
theorem flagV_is (b : Bool) : flagV b = ⟨1, (flagV b).n, (⟨#[]⟩ : ByteArray).data.toList⟩ := rfl
set_option maxHeartbeats 8000000 in
set_option maxRecDepth 100000 in
theorem first_calls (B : List UInt8 → Vl) (ps : List CT) (hq : ∀ q ∈ ps, ValSaid B q) (v : Value) (ds : List Value) (w : World) (b : Nat) (hrow : RowV w v ps.length ds) (hp : ∀ (i : Nat) (q : CT), ps[i]? = some q → CV w ((ds.drop (i * 4)).take 4) q) (hM : BkAt w b B) (till : Bool) :
    Calls Tryz.prog 34 #[.map (some b), v, .bool till] w (ValPost (firstV till (ps.map (valueC B))) w) := by
  obtain ⟨p, c, rfl⟩ := hrow.form
  have hmax := hrow.1
  unfold maxLen at hmax
  obtain ⟨O, hO⟩ : ∃ O, firstV till (ps.map (valueC B)) = O := ⟨_, rfl⟩
  rw [hO]
  have hO' := Lib.hid hO
  have hq' := Lib.hid hq
  have hrow' := Lib.hid hrow
  have hp' := Lib.hid hp
  have hM' := Lib.hid hM
  obtain ⟨N, hN⟩ : ∃ N, ps.length = N := ⟨_, rfl⟩
  rw [hN] at hrow' hmax ⊢
  have hN' := Lib.hid hN
  have r0 := Blk.new w 33 #[.int .i64 0, .int .i64 0, .string ⟨#[]⟩]
  have B0 := (Below.refl w.heap.size w).alloc (Nat.le_refl _) (.cells #[.int .i64 0, .int .i64 0, .string ⟨#[]⟩] 33)
  have z0 : w.heap.size < (w.alloc (.cells #[.int .i64 0, .int .i64 0, .string ⟨#[]⟩] 33)).heap.size := by simp
  have r0' := Lib.hid r0
  have B0' := Lib.hid B0
  have ft := fun W => flag_calls' till W
  have ff := Lib.hid (fun W => flag_calls' (!till) W)
  have htV := flagV_is till
  obtain ⟨tn, htn⟩ : ∃ tn, (flagV till).n = tn := ⟨_, rfl⟩
  rw [htn] at htV ft
  have ft' := Lib.hid ft
  have htV' := Lib.hid htV
  clear hq hrow hp hM hN hO r0 B0 ft htV htn
  go_enter Tryz.func34, Tryz.ntmps34
  go_wp2_with fail
  go_loopw [14] (fun i wr => ∃ (j : Nat), i = .int .i64 j ∧ j ≤ N ∧ Below w.heap.size w wr ∧ Blk wr w.heap.size 33 #[.int .i64 0, .int .i64 0, .string ⟨#[]⟩] ∧ firstV till ((ps.drop j).map (valueC B)) = O) (fun i _ => N - (intOf i).toNat)
  case atStart => exact ⟨0, rfl, Nat.zero_le _, B0'.out, r0'.out, hO'.out⟩
  case round =>
    clear z0 B0' r0' hO'
    obtain ⟨j, rfl, hj, hB, hr, hno⟩ := hrel
    by_cases hlt : j < N
    · have hjl : j < ps.length := by rw [hN'.out]; exact hlt
      obtain ⟨q, hqq⟩ : ∃ q, ps[j]? = some q := ⟨_, List.getElem?_eq_getElem hjl⟩
      have hdr : ps.drop j = q :: ps.drop (j + 1) := by
        rw [List.drop_eq_getElem_cons hjl, (List.getElem?_eq_some_iff.1 hqq).2]
      rw [hdr, List.map_cons] at hno
      obtain ⟨g4, o, rfl, hc1, hcell⟩ := (hrow'.out.below hB).cell (by omega)
      obtain ⟨kq, mq, aq, pq, cq, Rq, -, lg, x0, x1, x2, x3⟩ := CV.part hcell hqq ((hp'.out j _ hqq).later hB)
      have hqm := List.mem_of_getElem? hqq
      obtain ⟨w3, e3⟩ : ∃ w3, wr.alloc (.cells #[.int .i64 kq, .int .i64 mq, .string aq, .slice pq q.parts.length cq] 28) = w3 := ⟨_, rfl⟩
      have hb3 := (Below.refl wr.heap.size wr).alloc (Nat.le_refl _) (.cells #[.int .i64 kq, .int .i64 mq, .string aq, .slice pq q.parts.length cq] 28)
      have bq3 := Blk.new wr 28 #[.int .i64 kq, .int .i64 mq, .string aq, .slice pq q.parts.length cq]
      rw [e3] at hb3 bq3
      have c3 := bq3.cell
      have hB3 := hB.trans (hb3.mono hB.size)
      have hr3 := hr.below hb3 hr.lt
      have D := Lib.hid (hq'.out q hqm _ w3 b (Rq.later hb3) (hM'.out.later hB3))
      have hB3' := Lib.hid hB3
      have hr3' := Lib.hid hr3
      have hno' := Lib.hid hno
      generalize valueC B q = V at *
      clear hB hr hb3 bq3 hr3 hB3 hno hdr hcell Rq hjl hqq hqm
      go_wp2_with fail
      refine D.out.mono ?_
      rintro e w4 ⟨vk, vn, vs, ok, rfl, hb4, hV⟩
      have hB4 := hB3'.out.trans (hb4.mono hB3'.out.size)
      have hr4 := hr3'.out.below hb4 hr3'.out.lt
      have g5 := Blk.new w4 33 #[.int .i64 vk, .int .i64 vn, .string vs]
      have hB5 := hB4.alloc hB4.size (.cells #[.int .i64 vk, .int .i64 vn, .string vs] 33)
      have hr5 := hr4.alloc (.cells #[.int .i64 vk, .int .i64 vn, .string vs] 33)
      obtain ⟨w5, e5⟩ : ∃ w5, w4.alloc (.cells #[.int .i64 vk, .int .i64 vn, .string vs] 33) = w5 := ⟨_, rfl⟩
      obtain ⟨gv, hgv⟩ : ∃ gv, w4.heap.size = gv := ⟨_, rfl⟩
      rw [e5] at g5 hB5 hr5
      rw [hgv] at g5
      have gc := g5.cell
      have hV' := Lib.hid hV
      have g5' := Lib.hid g5
      have hB5' := Lib.hid hB5
      have hr5' := Lib.hid hr5
      clear D hb4 hB4 hr4 g5 hB5 hr5 hV x0 x1 x2 x3 c3
      cases ok
      · have hnone : V = none := by
          cases V with
          | none => rfl
          | some u => exact absurd hV'.out.1 (by simp)
        have hOn : Hid (O = none) := Lib.hid (by rw [← hno'.out, hnone]; rfl)
        clear hnone hV' hno'
        go_wp2_with fail
        go_quiet (fail)
        obtain ⟨w6, e6⟩ : ∃ w6, w5.drewN nq = w6 := ⟨_, rfl⟩
        have hr6 := hr5'.out.drewN nq
        have g6 := g5'.out.drewN nq
        have hB6 := bdrewN hB5'.out nq
        rw [e6] at hr6 g6 hB6 ⊢
        have gc6 := g6.cell
        have rc6 := hr6.cell
        have rf6 := hr6.frozen
        have F := hr6.set3 (.int .i64 vk) (.int .i64 vn) (.string vs)
        have FB := Lib.hid (below_set3 hB6 (Nat.le_refl _) (.int .i64 vk) (.int .i64 vn) (.string vs))
        have Fc := F.cell
        clear e6 hr6 g6 hB6 F
        go_wp2_with fail
        refine bodyPost_ret (v := .tuple #[.agg #[.int .i64 vk, .int .i64 vn, .string vs], .bool false]) (by simp [results, Tryz.results34, go_sem, Fc]) rfl ?_
        exact ⟨vk, vn, vs, false, rfl, FB.out, by rw [hOn.out]⟩
      · have hS0 : ∀ i, w5.drew.cell? ⟨gv, i, none⟩ = (#[.int .i64 vk, .int .i64 vn, .string vs] : Array Value)[i]? := g5'.out.drew.cell
        go_wp2_with fail
        refine wp_region_s (fun w' => ∀ i, w'.cell? ⟨gv, i, none⟩ = (#[.int .i64 vk, .int .i64 vn, .string vs] : Array Value)[i]?) [] [(true, 0), (true, 1), (true, 2), (true, 3), (true, 4), (false, 5), (true, 6), (true, 7)] (by kernel_rfl) (by kernel_rfl) (by kernel_rfl) (by kernel_rfl) (fun _ _ _ _ _ h => h) hS0 ?_
        clear hS0
        refine wpS_take (v := ?_) rfl (.inl ⟨by rfl, fun w' hS => ?_⟩) ?_
        rotate_left
        · (try dsimp only at hS); go_simp; try with_reducible rfl
        simp only [Act.put, List.setIfInBounds_toArray, List.set_cons_zero, List.set_cons_succ]
        refine wpS_take (v := ?_) rfl (.inl ⟨by rfl, fun w' hS => ?_⟩) ?_
        rotate_left
        · (try dsimp only at hS); go_simp; try with_reducible rfl
        simp only [Act.put, List.setIfInBounds_toArray, List.set_cons_zero, List.set_cons_succ]
        refine wpS_take (v := ?_) rfl (.inl ⟨by rfl, fun w' hS => ?_⟩) ?_
        rotate_left
        · (try dsimp only at hS); go_simp; try with_reducible rfl
        simp only [Act.put, List.setIfInBounds_toArray, List.set_cons_zero, List.set_cons_succ]
        refine wpS_take (v := ?_) rfl (.inl ⟨by rfl, fun w' hS => ?_⟩) ?_
        rotate_left
        · (try dsimp only at hS); go_simp; try with_reducible rfl
        simp only [Act.put, List.setIfInBounds_toArray, List.set_cons_zero, List.set_cons_succ]
        refine wpS_take (v := ?_) rfl (.inl ⟨by rfl, fun w' hS => ?_⟩) ?_
        rotate_left
        · (try dsimp only at hS); go_simp; try with_reducible rfl
        simp only [Act.put, List.setIfInBounds_toArray, List.set_cons_zero, List.set_cons_succ]
        refine wpS_go rfl ?_
        have ft5 := ft'.out w5.drew
        have hB5d := hB5'.out.drew
        have hr5d := hr5'.out.drew
        go_wp2_with fail
        refine ft5.mono ?_
        rintro e w6 ⟨rfl, hb6⟩
        have hB6 := Lib.hid (hB5d.trans (hb6.mono hB5d.size))
        have hr6 := hr5d.below hb6 hr5d.lt
        have g6 := g5'.out.drew.below hb6 g5'.out.lt
        have hS6 := g6.cell
        clear ft5 hB5d hr5d hb6
        go_wp2_with fail
        refine ⟨fun _ => hS6, ?_⟩
        refine wpS_take (v := ?_) rfl (.inl ⟨by rfl, fun w' hS => ?_⟩) ?_
        rotate_left
        · (try dsimp only at hS); go_simp; try with_reducible rfl
        simp only [Act.put, List.setIfInBounds_toArray, List.set_cons_zero, List.set_cons_succ]
        refine wpS_take (v := ?_) rfl (.inl ⟨by rfl, fun w' hS => ?_⟩) ?_
        rotate_left
        · (try dsimp only at hS); go_simp; try with_reducible rfl
        simp only [Act.put, List.setIfInBounds_toArray, List.set_cons_zero, List.set_cons_succ]
        refine wpS_end ?_
        clear hS6
        obtain ⟨u, hu⟩ : ∃ u, V = some u := by
          cases V with
          | none => exact absurd hV'.out (by simp)
          | some u => exact ⟨u, rfl⟩
        subst hu
        have hue : u = ⟨vk, vn, vs.data.toList⟩ := hV'.out.2
        have hsame : sameV vk vn vs 1 tn ⟨#[]⟩ = decide (u = flagV till) := by rw [sameV_eq, hue, htV'.out]
        have hstep : firstV till (some u :: (ps.drop (j + 1)).map (valueC B)) = if u = flagV till then some u else firstV till ((ps.drop (j + 1)).map (valueC B)) := rfl
        rw [hstep] at hno'
        by_cases hsm : u = flagV till
        · rw [if_pos hsm] at hno'
          have hs1 : sameV vk vn vs 1 tn ⟨#[]⟩ = true := by rw [hsame]; exact decide_eq_true hsm
          have gc6 := g6.cell
          have rc6 := hr6.cell
          have rf6 := hr6.frozen
          have F := hr6.set3 (.int .i64 vk) (.int .i64 vn) (.string vs)
          have FB := Lib.hid (below_set3 hB6.out (Nat.le_refl _) (.int .i64 vk) (.int .i64 vn) (.string vs))
          have Fc := F.cell
          have hue' := Lib.hid hue
          clear hr6 g6 F hsame hstep hsm hue
          rw [hs1]
          go_wp2_with fail
          refine bodyPost_ret (v := .tuple #[.agg #[.int .i64 vk, .int .i64 vn, .string vs], .bool true]) (by simp [results, Tryz.results34, go_sem, Fc]) rfl ?_
          exact ⟨vk, vn, vs, true, rfl, FB.out, by rw [← hno'.out]; exact ⟨rfl, hue'.out⟩⟩
        · rw [if_neg hsm] at hno'
          have hs1 : sameV vk vn vs 1 tn ⟨#[]⟩ = false := by rw [hsame]; exact decide_eq_false hsm
          have hr6' := Lib.hid hr6
          clear hr6 g6 hsame hstep hsm hue
          rw [hs1]
          go_wp2_with fail
          go_roundw
          case rel => exact ⟨j + 1, by go_num, by omega, hB6.out, hr6'.out, hno'.out⟩
          case measure => simp [intOf]; omega
    · obtain rfl : j = N := by omega
      rw [List.drop_eq_nil_of_le (by rw [hN'.out]; exact Nat.le_refl _)] at hno
      have hO2 : Hid (O = some (flagV (!till))) := Lib.hid hno.symm
      have f5 := Lib.hid (ff.out wr)
      have hr' := Lib.hid hr
      have hB' := Lib.hid hB
      have hfV := Lib.hid (flagV_is (!till))
      obtain ⟨fn, hfn⟩ : ∃ fn, (flagV (!till)).n = fn := ⟨_, rfl⟩
      have f6 := f5.out
      rw [hfn] at f6 hfV
      have f7 := Lib.hid f6
      clear hno hr hB f5 f6 hfn ff
      go_wp2_with fail
      refine f7.out.mono ?_
      rintro e w6 ⟨rfl, hb6⟩
      have hr6 := hr'.out.below hb6 hr'.out.lt
      have hB6 := hB'.out.trans (hb6.mono hB'.out.size)
      have rc6 := hr6.cell
      have rf6 := hr6.frozen
      have F := hr6.set3 (.int .i64 1) (.int .i64 fn) (.string ⟨#[]⟩)
      have FB := Lib.hid (below_set3 hB6 (Nat.le_refl _) (.int .i64 1) (.int .i64 fn) (.string ⟨#[]⟩))
      have Fc := F.cell
      clear hr6 hB6 F hb6
      go_wp2_with fail
      refine bodyPost_ret (v := .tuple #[.agg #[.int .i64 1, .int .i64 fn, .string ⟨#[]⟩], .bool true]) (by simp [results, Tryz.results34, go_sem, Fc]) rfl ?_
      exact ⟨1, fn, ⟨#[]⟩, true, rfl, FB.out, by rw [hO2.out]; exact ⟨rfl, hfV.out⟩⟩
end Go.Proofs.YtdfgbkilaepolaaGreatDoor
