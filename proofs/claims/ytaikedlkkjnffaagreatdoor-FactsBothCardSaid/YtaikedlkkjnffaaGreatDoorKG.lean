/- Walk: the tape's rule. A schema in the making: what holds amid its types and amid a type's relations. Walk: the tape's Schema. -/
import Derived.Test.YtaikedlkkjnffaaGreatDoorKTs
import Derived.Deep.RegionHeld3
namespace Go.Proofs.YtaikedlkkjnffaaGreatDoor
open Go.RowKit
attribute [local go_sem ↓] dapp_op
def names4 : Array Value := #[.string ⟨#[118, 105, 101, 119, 101, 114]⟩, .string ⟨#[111, 119, 110, 101, 114]⟩, .string ⟨#[112, 97, 114, 101, 110, 116]⟩, .string ⟨#[109, 101, 109, 98, 101, 114]⟩]
theorem names4_at (k : Nat) (hk : k < 4) : ∃ s : ByteArray, names4[k]? = some (.string s) ∧ s.size ≤ 10 := by
  rcases k with _ | _ | _ | _ | k
  · exact ⟨_, rfl, by decide⟩
  · exact ⟨_, rfl, by decide⟩
  · exact ⟨_, rfl, by decide⟩
  · exact ⟨_, rfl, by decide⟩
  · omega
def ruleZ : Array Value := #[.int .i64 0, .string ⟨#[]⟩, .string ⟨#[]⟩, .slice none 0 0]
theorem put4 {V : World} {B : Nat} {T : TypeId} {z : Array Value} (hz : z.size = 4) (hr : Blk V B T z) (v0 v1 v2 v3 : Value) :
    ∃ W, ((((V.setCell ⟨B, 0, none⟩ v0).setCell ⟨B, 1, none⟩ v1).setCell ⟨B, 2, none⟩ v2).setCell ⟨B, 3, none⟩ v3) = W ∧ Blk W B T #[v0, v1, v2, v3] ∧ Keeps (fun j => j = B) V W := by
  have hk : Keeps (fun j => j = B) V ((((V.setCell ⟨B, 0, none⟩ v0).setCell ⟨B, 1, none⟩ v1).setCell ⟨B, 2, none⟩ v2).setCell ⟨B, 3, none⟩ v3) :=
    ((((Keeps.refl (fun j => j = B) V).setCell (p := ⟨B, 0, none⟩) (.inl rfl) _).setCell (p := ⟨B, 1, none⟩) (.inl rfl) _).setCell (p := ⟨B, 2, none⟩) (.inl rfl) _).setCell (p := ⟨B, 3, none⟩) (.inl rfl) _
  refine ⟨_, rfl, ?_, hk⟩
  have := (((hr.set_ 0 v0).set_ 1 v1).set_ 2 v2).set_ 3 v3
  have e : (((z.setIfInBounds 0 v0).setIfInBounds 1 v1).setIfInBounds 2 v2).setIfInBounds 3 v3 = #[v0, v1, v2, v3] := by
    obtain ⟨l⟩ := z
    match l, hz with
    | [_, _, _, _], _ => rfl
  rw [e] at this; exact this
def RuleSaid (tp : Nat) (w : World) (e : Ending) (w' : World) : Prop := ∃ (k : Int) (a b : ByteArray) (p : Option Addr) (n c : Nat) (t : RT), e = .returned (.agg #[.int .i64 k, .string a, .string b, .slice p n c]) ∧ RAt (fun j => w.heap.size ≤ j) w' [.int .i64 k, .string a, .string b, .slice p n c] t ∧ t.small 4 ∧ TapeAt w' tp ∧ OnTape tp w w'
/-- a rule of no parts -/
theorem leaf_said (k : Int) (a b : ByteArray) (P : Nat → Prop) (w : World) : RAt P w [.int .i64 k, .string a, .string b, .slice none 0 0] (.node k a.data.toList b.data.toList []) := by
  rw [strV_mk a, strV_mk b]
  exact .mk (cs := []) (.inl ⟨rfl, rfl⟩) (fun g hg => by cases hg) rfl (fun i p h => by simp at h)
theorem leaf_small (k : Int) (a b : List UInt8) : (RT.node k a b []).small 4 := .mk (by simp) (fun p hp => by simp at hp)
/-- the names of one's own relations -/
structure Names (w : World) (g m : Nat) : Prop where
  blk : Blk w g 9 names4
  two : 2 ≤ m
  four : m ≤ 4
/-- amid a group: what is gathered so far -/
structure GInv (tp g : Nat) (w : World) (b : Nat) (kd : Int) (wx : World) (j : Nat) (p : Option Addr) (c : Nat) (ps : List RT) (cs : List Value) : Prop where
  res : Blk wx w.heap.size 100 #[.int .i64 0, .string ⟨#[]⟩, .string ⟨#[]⟩, .slice none 0 0]
  names : Blk wx g 9 names4
  tape : TapeAt wx tp
  on : OnTape tp w wx
  r : Blk wx b 100 #[.int .i64 kd, .string ⟨#[]⟩, .string ⟨#[]⟩, .slice p ps.length c]
  own : Own (b + 1) wx (.slice p ps.length c) ps cs
  few : ps.length + j ≤ 3
  small : ∀ q ∈ ps, q.small 4
  low : w.heap.size < b
  tl : tp < w.heap.size
  gl : g < w.heap.size
  gt : tp < g
theorem GInv.drew {tp g : Nat} {w : World} {b : Nat} {kd : Int} {wx : World} {j : Nat} {p : Option Addr} {c : Nat} {ps : List RT} {cs : List Value} (h : GInv tp g w b kd wx j p c ps cs) : GInv tp g w b kd wx.drew j p c ps cs :=
  ⟨h.res.drew, h.names.drew, h.tape.later (Below.refl _ _).drew, h.on.drew, h.r.drew, h.own.keeps ((Keeps.refl (fun _ => False) wx).drew) fun _ _ _ => id, h.few, h.small, h.low, h.tl, h.gl, h.gt⟩
theorem grp_round {tp g : Nat} {w : World} {b : Nat} {kd : Int} {wr : World} {j : Nat} {p : Option Addr} {c : Nat} {ps : List RT} {cs : List Value} (h : GInv tp g w b kd wr (j + 1) p c ps cs)
    {w3 : World} {kk : Int} {a bb : ByteArray} {p3 : Option Addr} {n3 c3 : Nat} {t : RT} (hA : RAt (fun i => wr.heap.size ≤ i) w3 [.int .i64 kk, .string a, .string bb, .slice p3 n3 c3] t) (hs : t.small 4) (hT : TapeAt w3 tp) (hk : OnTape tp wr w3) :
    ∃ p' c' w5, (dappOp #[98, 98] 98 #[.slice p ps.length c, .slice (some ⟨w3.heap.size, 0, none⟩) 1 1]).run Tryz.prog (w3.alloc (.cells #[.int .i64 kk, .string a, .string bb, .slice p3 n3 c3] 100)) = .ok (.slice p' (ps.length + 1) c') w5 ∧ Blk w5 b 100 #[.int .i64 kd, .string ⟨#[]⟩, .string ⟨#[]⟩, .slice p ps.length c] ∧ ∃ cs', GInv tp g w b kd (w5.setCell ⟨b, 3, none⟩ (.slice p' (ps.length + 1) c')) j p' c' (ps ++ [t]) cs' := by
  have hl : (ps ++ [t]).length = ps.length + 1 := by simp
  have h1 := h.low
  have h2 := h.tl
  have h3 := h.gl
  have h4 := h.gt
  have hbl := h.r.lt
  have hz := hk.size
  have hown3 := h.own.keeps hk fun i hi _ e => by omega
  have bA := (Below.refl w3.heap.size w3).alloc (Nat.le_refl _) (.cells #[.int .i64 kk, .string a, .string bb, .slice p3 n3 c3] 100)
  have kA : Keeps (fun _ => False) w3 (w3.alloc (.cells #[.int .i64 kk, .string a, .string bb, .slice p3 n3 c3] 100)) := .of_below bA
  have hown4 := hown3.keeps kA fun _ _ _ => id
  have hvl := fun i e => h.own.row.lt i e
  have hq : PartsAt (fun i => b + 1 ≤ i ∧ (Value.slice p ps.length c).ownBlock ≠ some i) (w3.alloc (.cells #[.int .i64 kk, .string a, .string bb, .slice p3 n3 c3] 100)) [.int .i64 kk, .string a, .string bb, .slice p3 n3 c3] [t] :=
    ((hA.later bA).mono fun i hi _ => ⟨by omega, fun e => by have := (hvl i e).2; omega⟩).one
  have hrow : RowAt (w3.alloc (.cells #[.int .i64 kk, .string a, .string bb, .slice p3 n3 c3] 100)) 100 (.slice (some ⟨w3.heap.size, 0, none⟩) 1 1) [t].length [.int .i64 kk, .string a, .string bb, .slice p3 n3 c3] :=
    .inr ⟨_, _, _, rfl, Nat.le_refl _, Blk.new _ _ _, fun i u hu => by rw [← hu]; simp⟩
  obtain ⟨p', c', w5, e5, ho5, hk5⟩ := hown4.app (by simp; omega) hrow hq (by have := h.few; simp; omega)
  have hz5 := hk5.size
  rw [World.size_alloc] at hz5
  have r4 := (h.r.keeps hk (by omega)).below bA (by omega)
  have r5 := r4.keeps hk5 (fun e => by omega)
  have kS : Keeps (fun i => i = b) w5 (w5.setCell ⟨b, 3, none⟩ (.slice p' (ps ++ [t]).length c')) := (Keeps.refl (fun i => i = b) w5).setCell (p := ⟨b, 3, none⟩) (.inl rfl) _
  refine ⟨p', c', w5, by rw [List.length_append] at e5; exact e5, r5, cs ++ [.int .i64 kk, .string a, .string bb, .slice p3 n3 c3], ?_⟩
  rw [← hl]
  refine ⟨?_, ?_, ?_, ?_, ?_, ho5.keeps kS fun i hi _ e => by omega, by have := h.few; simp; omega, ?_, h1, h2, h3, h4⟩
  · exact ((((h.res.keeps hk (by omega)).below bA (by omega)).keeps hk5 (fun e => by omega)).keeps kS (by omega))
  · exact ((((h.names.keeps hk (by omega)).below bA (by omega)).keeps hk5 (fun e => by omega)).keeps kS (by omega))
  · exact ((hT.later bA).keeps hk5 (fun i hi e => by omega)).keeps kS (fun i hi e => by omega)
  · exact (((h.on.trans hk).trans (.of_below bA)).step hk5 (fun i e => .inr (by omega))).step kS (fun i e => .inr (by omega))
  · have := r5.set_ 3 (.slice p' (ps ++ [t]).length c'); exact this
  · intro q hq'
    rcases List.mem_append.1 hq' with hq' | hq'
    · exact h.small q hq'
    · rw [List.mem_singleton.1 hq']; exact hs
theorem grp_start {tp g : Nat} {w w1 : World} (kd : Int) (X1 : Blk w1 w.heap.size 100 #[.int .i64 0, .string ⟨#[]⟩, .string ⟨#[]⟩, .slice none 0 0]) (N1 : Blk w1 g 9 names4) (T1 : TapeAt w1 tp) (K1 : OnTape tp w w1) (h2 : tp < w.heap.size) (h3 : g < w.heap.size) (h4 : tp < g) :
    TapeAt ((w1.alloc (.cells #[.int .i64 4, .int .i64 5] 3)).alloc (.cells #[.int .i64 kd, .string ⟨#[]⟩, .string ⟨#[]⟩, .slice none 0 0] 100)) tp ∧
    ∀ w2, TapeAt w2 tp → OnTape tp ((w1.alloc (.cells #[.int .i64 4, .int .i64 5] 3)).alloc (.cells #[.int .i64 kd, .string ⟨#[]⟩, .string ⟨#[]⟩, .slice none 0 0] 100)) w2 → GInv tp g w (w1.heap.size + 1) kd w2 3 none 0 [] [] := by
  have bA := (Below.refl w1.heap.size w1).alloc (Nat.le_refl _) (.cells #[.int .i64 4, .int .i64 5] 3)
  have bB := bA.alloc (by simp) (.cells #[.int .i64 kd, .string ⟨#[]⟩, .string ⟨#[]⟩, .slice none 0 0] 100)
  have R := Blk.new (w1.alloc (.cells #[.int .i64 4, .int .i64 5] 3)) 100 #[.int .i64 kd, .string ⟨#[]⟩, .string ⟨#[]⟩, .slice none 0 0]
  rw [World.size_alloc] at R
  have hxl := X1.lt
  have hz := K1.size
  refine ⟨T1.later bB, fun w2 T2 hk => ?_⟩
  exact ⟨(X1.below bB X1.lt).keeps hk (by omega), (N1.below bB N1.lt).keeps hk (by omega), T2, (K1.trans (.of_below bB)).trans hk, R.keeps hk (by omega), Own.nil _ _, by simp, fun q hq => by simp at hq, by omega, h2, h3, h4⟩
theorem node_small {kd : Int} {ps : List RT} (hl : ps.length ≤ 4) (h : ∀ q ∈ ps, q.small 4) : (RT.node kd [] [] ps).small 4 := .mk hl h
set_option maxHeartbeats 4000000 in
set_option maxRecDepth 100000 in
theorem rule_step (d : Nat) (hd : d ≤ 2) (hrec : ∀ d', d' < d → ∀ (nt : Int) (tp g m : Nat) (w : World), (nt = 0 ∨ nt = 4 ∨ nt = 5) → TapeAt w tp → tp < g → Names w g m → Calls Tryz.prog 39 #[.pointer (some ⟨tp, 0, none⟩), .slice (some ⟨g, 0, none⟩) m 4, .int .i64 d', .int .i64 nt] w (RuleSaid tp w))
    (nt : Int) (tp g m : Nat) (w : World) (_ : nt = 0 ∨ nt = 4 ∨ nt = 5) (hT : TapeAt w tp) (hg : tp < g) (hN : Names w g m) :
    Calls Tryz.prog 39 #[.pointer (some ⟨tp, 0, none⟩), .slice (some ⟨g, 0, none⟩) m 4, .int .i64 d, .int .i64 nt] w (RuleSaid tp w) := by
  have hm2 := hN.two
  have hm4 := hN.four
  have hgl := hN.blk.lt
  have htl := hT.lt
  -- the result's place
  have X0 := Blk.new w 100 ruleZ
  have bA := (Below.refl w.heap.size w).alloc (Nat.le_refl _) (.cells ruleZ 100)
  have K0 : OnTape tp w (w.alloc (.cells ruleZ 100)) := .of_below bA
  have T0 := hT.later bA
  have N0 := hN.blk.below bA hgl
  have hNx := Lib.hid (fun (n : Nat) (W : World) (hn : n ≤ 10) (h : TapeAt W tp) => next_calls n tp W (by omega) h)
  have hN2 := Lib.hid (show ∀ W, TapeAt W tp → Calls Tryz.prog 37 #[.pointer (some ⟨tp, 0, none⟩), .int .i64 2] W (NextSaid 2 tp W) from fun W h => hNx.out 2 W (by omega) h)
  have C1 := Lib.hid (hNx.out 8 _ (by omega) T0)
  have X0' := Lib.hid X0
  have K0' := Lib.hid K0
  have N0' := Lib.hid N0
  have hrec' := Lib.hid hrec
  unfold ruleZ at C1 X0' K0' N0'
  clear X0 bA K0 T0 N0 hT hN hrec
  go_enter Tryz.func39, Tryz.ntmps39
  go_wp2_with fail
  refine C1.out.mono ?_
  rintro e w1 ⟨k, rfl, hk, hT1, hk1⟩
  have X1 := Lib.hid (X0'.out.keeps hk1 (by omega))
  have N1 := Lib.hid (N0'.out.keeps hk1 (by omega))
  have K1 := Lib.hid (K0'.out.trans hk1)
  have T1 := Lib.hid hT1
  have hk8 : k < 8 := by omega
  clear hk1 hT1 C1 X0' K0' N0' hk
  by_cases hgr : 5 < k ∧ 0 < d
  · obtain ⟨d', rfl⟩ : ∃ d', d = d' + 1 := ⟨d - 1, by omega⟩
    have hk67 : k = 6 ∨ k = 7 := by omega
    clear hgr
    have hwd : IntKind.i64.wrap (d' : Int) = (d' : Int) := IntWalk.i64_in _ (by omega)
    rcases hk67 with rfl | rfl
    · cases e4 : ((4 : Int) == nt)
      · have G := Lib.hid (grp_start (tp := tp) (g := g) (w := w) 4 X1.out N1.out T1.out K1.out htl hgl hg)
        have hRec := Lib.hid (show ∀ W, TapeAt W tp → Blk W g 9 names4 → Calls Tryz.prog 39 #[.pointer (some ⟨tp, 0, none⟩), .slice (some ⟨g, 0, none⟩) m 4, .int .i64 d', .int .i64 4] W (RuleSaid tp W) from fun W h1 h2 => hrec'.out d' (by omega) 4 tp g m W (by omega) h1 hg ⟨h2, hm2, hm4⟩)
        clear X1 N1 T1 K1 hrec'
        go_wp2_with fail
        refine (hN2.out _ G.out.1).mono ?_
        rintro e w2 ⟨k3, rfl, hk3, hT2, hk⟩
        have hk32 : k3 < 2 := by omega
        have I2 := Lib.hid (G.out.2 w2 hT2 hk)
        obtain ⟨b, hb⟩ : ∃ b, w1.heap.size + 1 = b := ⟨_, rfl⟩
        rw [hb] at I2 ⊢
        have hb' := Lib.hid hb
        clear hk3 hT2 hk G hb
        go_wp2_with fail
        go_loopw [12] (fun i wx => ∃ (j : Nat) (p : Option Addr) (c : Nat) (ps : List RT) (cs : List Value), i = .int .i64 j ∧ j ≤ 3 ∧ GInv tp g w b 4 wx j p c ps cs) (fun i _ => (intOf i).toNat)
        case atStart => exact ⟨2 + k3, _, _, _, _, by go_num, by omega, { I2.out with few := by simp; omega }⟩
        case round =>
          obtain ⟨j, p, c, ps, cs, rfl, hj, hI⟩ := hrel
          have hI' := Lib.hid hI
          have rc := hI.r.cell
          have rf := hI.r.frozen
          have rl := hI.r.lt
          clear hI
          cases j with
          | zero =>
            obtain ⟨W, eW, hBW, hKW⟩ := put4 rfl hI'.out.res (.int .i64 4) (.string ⟨#[]⟩) (.string ⟨#[]⟩) (.slice p ps.length c)
            have xc := hI'.out.res.cell
            have xf := hI'.out.res.frozen
            have xl := hI'.out.res.lt
            have hW' := Lib.hid (And.intro hBW hKW)
            clear hBW hKW
            go_wp2_with fail
            have c5 := hW'.out.1.cell
            refine bodyPost_ret (v := .agg #[.int .i64 4, .string ⟨#[]⟩, .string ⟨#[]⟩, .slice p ps.length c]) (by simp [results, Tryz.results39, go_sem, c5]) rfl ?_
            have h1 := hI'.out.low
            have hO := hI'.out.own.keeps hW'.out.2 fun i hi _ e => by omega
            exact ⟨_, _, _, _, _, _, .node 4 [] [] ps, rfl, .mk (RowAt.of_own hO.row) (fun i hi => by have := (hO.row.lt i hi).1; omega) hO.parts.len (fun i q hi => (hO.parts.part i q hi).mono fun i hi _ => by omega), node_small (by have := hI'.out.few; omega) hI'.out.small, hI'.out.tape.keeps hW'.out.2 (fun i hi e => by omega), hI'.out.on.step hW'.out.2 (fun i e => .inr (by omega))⟩
          | succ j =>
            go_wp2_with fail
            go_region_with (first | (go_at_call 39; (with_reducible refine (hRec.out _ (hI'.out.tape.later (Below.refl _ _).drew) hI'.out.names.drew).mono ?_); rintro e w3 ⟨kk, a, bb, p3, n3, c3, t, rfl, hA, hs, hT3, hk3⟩; (obtain ⟨p', c', w5, e5, r5b, cs', hI6⟩ := grp_round hI'.out.drew hA hs hT3 hk3); (have r3 := (hI'.out.r.drew.keeps hk3 (by have := hI'.out.low; have := hI'.out.tl; omega)).cell); (have r4 := ((hI'.out.r.drew.keeps hk3 (by have := hI'.out.low; have := hI'.out.tl; omega)).below ((Below.refl _ _).alloc (Nat.le_refl _) (.cells #[.int .i64 kk, .string a, .string bb, .slice p3 n3 c3] 100)) (by have := hk3.size; have : b < wr.drew.heap.size := rl; omega)).cell); (have r5 := r5b.cell); (have f5 := r5b.frozen); (have l5 := r5b.lt); (have hI7 := Lib.hid hI6); clear hA hs hT3 hk3 hI6 r5b))
            all_goals
              go_wp2_with fail
              go_roundw
              case rel => exact ⟨j, p', c', ps ++ [t], cs', by go_num, by omega, hI7.out⟩
              case measure => simp [intOf] <;> omega
      · have G := Lib.hid (grp_start (tp := tp) (g := g) (w := w) 5 X1.out N1.out T1.out K1.out htl hgl hg)
        have hRec := Lib.hid (show ∀ W, TapeAt W tp → Blk W g 9 names4 → Calls Tryz.prog 39 #[.pointer (some ⟨tp, 0, none⟩), .slice (some ⟨g, 0, none⟩) m 4, .int .i64 d', .int .i64 5] W (RuleSaid tp W) from fun W h1 h2 => hrec'.out d' (by omega) 5 tp g m W (by omega) h1 hg ⟨h2, hm2, hm4⟩)
        clear X1 N1 T1 K1 hrec'
        go_wp2_with fail
        refine (hN2.out _ G.out.1).mono ?_
        rintro e w2 ⟨k3, rfl, hk3, hT2, hk⟩
        have hk32 : k3 < 2 := by omega
        have I2 := Lib.hid (G.out.2 w2 hT2 hk)
        obtain ⟨b, hb⟩ : ∃ b, w1.heap.size + 1 = b := ⟨_, rfl⟩
        rw [hb] at I2 ⊢
        have hb' := Lib.hid hb
        clear hk3 hT2 hk G hb
        go_wp2_with fail
        go_loopw [12] (fun i wx => ∃ (j : Nat) (p : Option Addr) (c : Nat) (ps : List RT) (cs : List Value), i = .int .i64 j ∧ j ≤ 3 ∧ GInv tp g w b 5 wx j p c ps cs) (fun i _ => (intOf i).toNat)
        case atStart => exact ⟨2 + k3, _, _, _, _, by go_num, by omega, { I2.out with few := by simp; omega }⟩
        case round =>
          obtain ⟨j, p, c, ps, cs, rfl, hj, hI⟩ := hrel
          have hI' := Lib.hid hI
          have rc := hI.r.cell
          have rf := hI.r.frozen
          have rl := hI.r.lt
          clear hI
          cases j with
          | zero =>
            obtain ⟨W, eW, hBW, hKW⟩ := put4 rfl hI'.out.res (.int .i64 5) (.string ⟨#[]⟩) (.string ⟨#[]⟩) (.slice p ps.length c)
            have xc := hI'.out.res.cell
            have xf := hI'.out.res.frozen
            have xl := hI'.out.res.lt
            have hW' := Lib.hid (And.intro hBW hKW)
            clear hBW hKW
            go_wp2_with fail
            have c5 := hW'.out.1.cell
            refine bodyPost_ret (v := .agg #[.int .i64 5, .string ⟨#[]⟩, .string ⟨#[]⟩, .slice p ps.length c]) (by simp [results, Tryz.results39, go_sem, c5]) rfl ?_
            have h1 := hI'.out.low
            have hO := hI'.out.own.keeps hW'.out.2 fun i hi _ e => by omega
            exact ⟨_, _, _, _, _, _, .node 5 [] [] ps, rfl, .mk (RowAt.of_own hO.row) (fun i hi => by have := (hO.row.lt i hi).1; omega) hO.parts.len (fun i q hi => (hO.parts.part i q hi).mono fun i hi _ => by omega), node_small (by have := hI'.out.few; omega) hI'.out.small, hI'.out.tape.keeps hW'.out.2 (fun i hi e => by omega), hI'.out.on.step hW'.out.2 (fun i e => .inr (by omega))⟩
          | succ j =>
            go_wp2_with fail
            go_region_with (first | (go_at_call 39; (with_reducible refine (hRec.out _ (hI'.out.tape.later (Below.refl _ _).drew) hI'.out.names.drew).mono ?_); rintro e w3 ⟨kk, a, bb, p3, n3, c3, t, rfl, hA, hs, hT3, hk3⟩; (obtain ⟨p', c', w5, e5, r5b, cs', hI6⟩ := grp_round hI'.out.drew hA hs hT3 hk3); (have r3 := (hI'.out.r.drew.keeps hk3 (by have := hI'.out.low; have := hI'.out.tl; omega)).cell); (have r4 := ((hI'.out.r.drew.keeps hk3 (by have := hI'.out.low; have := hI'.out.tl; omega)).below ((Below.refl _ _).alloc (Nat.le_refl _) (.cells #[.int .i64 kk, .string a, .string bb, .slice p3 n3 c3] 100)) (by have := hk3.size; have : b < wr.drew.heap.size := rl; omega)).cell); (have r5 := r5b.cell); (have f5 := r5b.frozen); (have l5 := r5b.lt); (have hI7 := Lib.hid hI6); clear hA hs hT3 hk3 hI6 r5b))
            all_goals
              go_wp2_with fail
              go_roundw
              case rel => exact ⟨j, p', c', ps ++ [t], cs', by go_num, by omega, hI7.out⟩
              case measure => simp [intOf] <;> omega
    · cases e4 : ((5 : Int) == nt)
      · have G := Lib.hid (grp_start (tp := tp) (g := g) (w := w) 5 X1.out N1.out T1.out K1.out htl hgl hg)
        have hRec := Lib.hid (show ∀ W, TapeAt W tp → Blk W g 9 names4 → Calls Tryz.prog 39 #[.pointer (some ⟨tp, 0, none⟩), .slice (some ⟨g, 0, none⟩) m 4, .int .i64 d', .int .i64 5] W (RuleSaid tp W) from fun W h1 h2 => hrec'.out d' (by omega) 5 tp g m W (by omega) h1 hg ⟨h2, hm2, hm4⟩)
        clear X1 N1 T1 K1 hrec'
        go_wp2_with fail
        refine (hN2.out _ G.out.1).mono ?_
        rintro e w2 ⟨k3, rfl, hk3, hT2, hk⟩
        have hk32 : k3 < 2 := by omega
        have I2 := Lib.hid (G.out.2 w2 hT2 hk)
        obtain ⟨b, hb⟩ : ∃ b, w1.heap.size + 1 = b := ⟨_, rfl⟩
        rw [hb] at I2 ⊢
        have hb' := Lib.hid hb
        clear hk3 hT2 hk G hb
        go_wp2_with fail
        go_loopw [12] (fun i wx => ∃ (j : Nat) (p : Option Addr) (c : Nat) (ps : List RT) (cs : List Value), i = .int .i64 j ∧ j ≤ 3 ∧ GInv tp g w b 5 wx j p c ps cs) (fun i _ => (intOf i).toNat)
        case atStart => exact ⟨2 + k3, _, _, _, _, by go_num, by omega, { I2.out with few := by simp; omega }⟩
        case round =>
          obtain ⟨j, p, c, ps, cs, rfl, hj, hI⟩ := hrel
          have hI' := Lib.hid hI
          have rc := hI.r.cell
          have rf := hI.r.frozen
          have rl := hI.r.lt
          clear hI
          cases j with
          | zero =>
            obtain ⟨W, eW, hBW, hKW⟩ := put4 rfl hI'.out.res (.int .i64 5) (.string ⟨#[]⟩) (.string ⟨#[]⟩) (.slice p ps.length c)
            have xc := hI'.out.res.cell
            have xf := hI'.out.res.frozen
            have xl := hI'.out.res.lt
            have hW' := Lib.hid (And.intro hBW hKW)
            clear hBW hKW
            go_wp2_with fail
            have c5 := hW'.out.1.cell
            refine bodyPost_ret (v := .agg #[.int .i64 5, .string ⟨#[]⟩, .string ⟨#[]⟩, .slice p ps.length c]) (by simp [results, Tryz.results39, go_sem, c5]) rfl ?_
            have h1 := hI'.out.low
            have hO := hI'.out.own.keeps hW'.out.2 fun i hi _ e => by omega
            exact ⟨_, _, _, _, _, _, .node 5 [] [] ps, rfl, .mk (RowAt.of_own hO.row) (fun i hi => by have := (hO.row.lt i hi).1; omega) hO.parts.len (fun i q hi => (hO.parts.part i q hi).mono fun i hi _ => by omega), node_small (by have := hI'.out.few; omega) hI'.out.small, hI'.out.tape.keeps hW'.out.2 (fun i hi e => by omega), hI'.out.on.step hW'.out.2 (fun i e => .inr (by omega))⟩
          | succ j =>
            go_wp2_with fail
            go_region_with (first | (go_at_call 39; (with_reducible refine (hRec.out _ (hI'.out.tape.later (Below.refl _ _).drew) hI'.out.names.drew).mono ?_); rintro e w3 ⟨kk, a, bb, p3, n3, c3, t, rfl, hA, hs, hT3, hk3⟩; (obtain ⟨p', c', w5, e5, r5b, cs', hI6⟩ := grp_round hI'.out.drew hA hs hT3 hk3); (have r3 := (hI'.out.r.drew.keeps hk3 (by have := hI'.out.low; have := hI'.out.tl; omega)).cell); (have r4 := ((hI'.out.r.drew.keeps hk3 (by have := hI'.out.low; have := hI'.out.tl; omega)).below ((Below.refl _ _).alloc (Nat.le_refl _) (.cells #[.int .i64 kk, .string a, .string bb, .slice p3 n3 c3] 100)) (by have := hk3.size; have : b < wr.drew.heap.size := rl; omega)).cell); (have r5 := r5b.cell); (have f5 := r5b.frozen); (have l5 := r5b.lt); (have hI7 := Lib.hid hI6); clear hA hs hT3 hk3 hI6 r5b))
            all_goals
              go_wp2_with fail
              go_roundw
              case rel => exact ⟨j, p', c', ps ++ [t], cs', by go_num, by omega, hI7.out⟩
              case measure => simp [intOf] <;> omega
      · have G := Lib.hid (grp_start (tp := tp) (g := g) (w := w) 4 X1.out N1.out T1.out K1.out htl hgl hg)
        have hRec := Lib.hid (show ∀ W, TapeAt W tp → Blk W g 9 names4 → Calls Tryz.prog 39 #[.pointer (some ⟨tp, 0, none⟩), .slice (some ⟨g, 0, none⟩) m 4, .int .i64 d', .int .i64 4] W (RuleSaid tp W) from fun W h1 h2 => hrec'.out d' (by omega) 4 tp g m W (by omega) h1 hg ⟨h2, hm2, hm4⟩)
        clear X1 N1 T1 K1 hrec'
        go_wp2_with fail
        refine (hN2.out _ G.out.1).mono ?_
        rintro e w2 ⟨k3, rfl, hk3, hT2, hk⟩
        have hk32 : k3 < 2 := by omega
        have I2 := Lib.hid (G.out.2 w2 hT2 hk)
        obtain ⟨b, hb⟩ : ∃ b, w1.heap.size + 1 = b := ⟨_, rfl⟩
        rw [hb] at I2 ⊢
        have hb' := Lib.hid hb
        clear hk3 hT2 hk G hb
        go_wp2_with fail
        go_loopw [12] (fun i wx => ∃ (j : Nat) (p : Option Addr) (c : Nat) (ps : List RT) (cs : List Value), i = .int .i64 j ∧ j ≤ 3 ∧ GInv tp g w b 4 wx j p c ps cs) (fun i _ => (intOf i).toNat)
        case atStart => exact ⟨2 + k3, _, _, _, _, by go_num, by omega, { I2.out with few := by simp; omega }⟩
        case round =>
          obtain ⟨j, p, c, ps, cs, rfl, hj, hI⟩ := hrel
          have hI' := Lib.hid hI
          have rc := hI.r.cell
          have rf := hI.r.frozen
          have rl := hI.r.lt
          clear hI
          cases j with
          | zero =>
            obtain ⟨W, eW, hBW, hKW⟩ := put4 rfl hI'.out.res (.int .i64 4) (.string ⟨#[]⟩) (.string ⟨#[]⟩) (.slice p ps.length c)
            have xc := hI'.out.res.cell
            have xf := hI'.out.res.frozen
            have xl := hI'.out.res.lt
            have hW' := Lib.hid (And.intro hBW hKW)
            clear hBW hKW
            go_wp2_with fail
            have c5 := hW'.out.1.cell
            refine bodyPost_ret (v := .agg #[.int .i64 4, .string ⟨#[]⟩, .string ⟨#[]⟩, .slice p ps.length c]) (by simp [results, Tryz.results39, go_sem, c5]) rfl ?_
            have h1 := hI'.out.low
            have hO := hI'.out.own.keeps hW'.out.2 fun i hi _ e => by omega
            exact ⟨_, _, _, _, _, _, .node 4 [] [] ps, rfl, .mk (RowAt.of_own hO.row) (fun i hi => by have := (hO.row.lt i hi).1; omega) hO.parts.len (fun i q hi => (hO.parts.part i q hi).mono fun i hi _ => by omega), node_small (by have := hI'.out.few; omega) hI'.out.small, hI'.out.tape.keeps hW'.out.2 (fun i hi e => by omega), hI'.out.on.step hW'.out.2 (fun i e => .inr (by omega))⟩
          | succ j =>
            go_wp2_with fail
            go_region_with (first | (go_at_call 39; (with_reducible refine (hRec.out _ (hI'.out.tape.later (Below.refl _ _).drew) hI'.out.names.drew).mono ?_); rintro e w3 ⟨kk, a, bb, p3, n3, c3, t, rfl, hA, hs, hT3, hk3⟩; (obtain ⟨p', c', w5, e5, r5b, cs', hI6⟩ := grp_round hI'.out.drew hA hs hT3 hk3); (have r3 := (hI'.out.r.drew.keeps hk3 (by have := hI'.out.low; have := hI'.out.tl; omega)).cell); (have r4 := ((hI'.out.r.drew.keeps hk3 (by have := hI'.out.low; have := hI'.out.tl; omega)).below ((Below.refl _ _).alloc (Nat.le_refl _) (.cells #[.int .i64 kk, .string a, .string bb, .slice p3 n3 c3] 100)) (by have := hk3.size; have : b < wr.drew.heap.size := rl; omega)).cell); (have r5 := r5b.cell); (have f5 := r5b.frozen); (have l5 := r5b.lt); (have hI7 := Lib.hid hI6); clear hA hs hT3 hk3 hI6 r5b))
            all_goals
              go_wp2_with fail
              go_roundw
              case rel => exact ⟨j, p', c', ps ++ [t], cs', by go_num, by omega, hI7.out⟩
              case measure => simp [intOf] <;> omega
  · have hg1 : (decide ((k : Int) > 5) && decide ((d : Int) > 0)) = false := by
      simp; omega
    by_cases h45 : k = 4 ∨ k = 5
    · have C2 := Lib.hid (hNx.out m _ (by omega) T1.out)
      have hR := Lib.hid (fun W => rels_calls W)
      have hs0 := Lib.hid (show ∀ i, w1.drew.cell? ⟨g, i, none⟩ = names4[i]? from N1.out.cell)
      rcases h45 with rfl | rfl
      all_goals
        go_wp2_with fail
        go_region_with (first
          | (go_at_call 37; (have gate := q2.out); (with_reducible refine (hN2.out _ q2.out.2.2.1).mono ?_); rintro e w4 ⟨k3, rfl, hk3, hT4, hk⟩; (have hk32 : k3 < 2 := by omega); (obtain ⟨s3, hs3, hs31⟩ := names4_at k3 (by omega)); (have q3 := Lib.hid (q2.out.1.keeps hk (by omega))); (have c4 := (q2.out.2.2.2.1.keeps hk (by omega)).cell); (have n4 := (q2.out.1.keeps hk (by omega)).cell); (have hk34 : (k3 : Int) < 4 := by omega); (have X4 := q2.out.2.1.keeps hk (by omega)); (have xc := X4.cell); (have xf := X4.frozen); (have xl := X4.lt); (have gl4 := (q2.out.2.2.2.1.keeps hk (by omega)).lt); (obtain ⟨W, eW, hBW, hKW⟩ := put4 rfl X4 (.int .i64 3) (.string s2) (.string s3) (.slice none 0 0)); (have q4 := Lib.hid (And.intro hBW (And.intro hKW (And.intro hT4 (q2.out.2.2.2.2.trans hk))))); clear gate hk hT4 X4 hBW hKW hk3)
          | (go_at_call 38; (have gate := q1.out); (with_reducible refine (hR.out _).mono ?_); rintro e w3 ⟨g3, rfl, hg3, hz3, hb⟩; (have q2 := Lib.hid (And.intro (q1.out.1.below hb q1.out.1.lt) (And.intro (q1.out.2.1.below hb q1.out.2.1.lt) (And.intro (q1.out.2.2.1.later hb) (And.intro (show Blk w3 g3 9 names4 from hg3) (q1.out.2.2.2.trans (.of_below hb))))))); (have n3 := (q1.out.1.below hb q1.out.1.lt).cell); (have hz3' : tp < g3 := by have := q1.out.2.1.lt; omega); clear gate hg3 hb hz3)
          | ((have gate := C2.out); go_at_call 37; (with_reducible refine (hNx.out m _ (by omega) (T1.out.later (Below.refl _ _).drew)).mono ?_); rintro e w2 ⟨k2, rfl, hk2, hT2, hk⟩; (have hk2m : k2 < m := by omega); (have n2 := (N1.out.drew.keeps hk (by omega)).cell); (obtain ⟨s2, hs2, hs21⟩ := names4_at k2 (by omega)); (have q1 := Lib.hid (And.intro (N1.out.drew.keeps hk (by omega)) (And.intro (X1.out.drew.keeps hk (by omega)) (And.intro hT2 (K1.out.drew.trans hk))))); clear gate hk hT2 C2 hk2))
        all_goals
          have c5 := q4.out.1.cell
          have KW := q4.out.2.1
          have TW := q4.out.2.2.1
          have K4 := q4.out.2.2.2
          go_wp2_with fail
          refine bodyPost_ret (v := .agg #[.int .i64 3, .string s2, .string s3, .slice none 0 0]) (by simp [results, Tryz.results39, go_sem, c5]) rfl ?_
          exact ⟨_, _, _, _, _, _, _, rfl, leaf_said _ _ _ _ _, leaf_small _ _ _, TW.keeps KW (by omega), K4.step KW (fun j e => .inr (by omega))⟩
    · by_cases h3 : k = 3
      · subst h3
        have C2 := Lib.hid (hNx.out m _ (by omega) T1.out)
        go_wp2_with fail
        refine C2.out.mono ?_
        rintro e w2 ⟨k2, rfl, hk2, hT2, hk⟩
        have hk2m : k2 < m := by omega
        obtain ⟨s, hs, hs10⟩ := names4_at k2 (by omega)
        have X2 := X1.out.keeps hk (by omega)
        have N2 := N1.out.keeps hk (by omega)
        have K2 := Lib.hid (K1.out.trans hk)
        have T2 := Lib.hid hT2
        have c2 := (N2.cell k2).trans hs
        obtain ⟨W, eW, hBW, hKW⟩ := put4 rfl X2 (.int .i64 2) (.string s) (.string ⟨#[]⟩) (.slice none 0 0)
        have xl := X2.lt
        have xc := X2.cell
        have xf := X2.frozen
        have hW' := Lib.hid (And.intro hBW hKW)
        clear hk hT2 C2 X1 N1 K1 T1 N2 hk2 hBW hKW hs
        go_wp2_with fail
        have c5 := hW'.out.1.cell
        refine bodyPost_ret (v := .agg #[.int .i64 2, .string s, .string ⟨#[]⟩, .slice none 0 0]) (by simp [results, Tryz.results39, go_sem, c5]) rfl ?_
        exact ⟨_, _, _, _, _, _, _, rfl, leaf_said _ _ _ _ _, leaf_small _ _ _, T2.out.keeps hW'.out.2 (by omega), K2.out.step hW'.out.2 (fun j e => .inr (by omega))⟩
      · have n3 : ((k : Int) == 3) = false := by rw [beq_eq_false_iff_ne]; omega
        have n4 : ((k : Int) == 4) = false := by rw [beq_eq_false_iff_ne]; omega
        have n5 : ((k : Int) == 5) = false := by rw [beq_eq_false_iff_ne]; omega
        rcases Nat.lt_or_ge 5 k with h6 | h6
        · obtain rfl : d = 0 := by omega
          obtain ⟨W, eW, hBW, hKW⟩ := put4 rfl X1.out (.int .i64 1) (.string ⟨#[]⟩) (.string ⟨#[]⟩) (.slice none 0 0)
          have hW' := Lib.hid (And.intro hBW hKW)
          have xl := X1.out.lt
          have xc := X1.out.cell
          have xf := X1.out.frozen
          clear hBW hKW h45 h3
          go_wp2_with fail
          have c5 := hW'.out.1.cell
          refine bodyPost_ret (v := .agg #[.int .i64 1, .string ⟨#[]⟩, .string ⟨#[]⟩, .slice none 0 0]) (by simp [results, Tryz.results39, go_sem, c5]) rfl ?_
          exact ⟨_, _, _, _, _, _, _, rfl, leaf_said _ _ _ _ _, leaf_small _ _ _, T1.out.keeps hW'.out.2 (by omega), K1.out.step hW'.out.2 (fun j e => .inr (by omega))⟩
        · have h6' : decide (5 < k) = false := decide_eq_false (by omega)
          obtain ⟨W, eW, hBW, hKW⟩ := put4 rfl X1.out (.int .i64 1) (.string ⟨#[]⟩) (.string ⟨#[]⟩) (.slice none 0 0)
          have hW' := Lib.hid (And.intro hBW hKW)
          have xl := X1.out.lt
          have xc := X1.out.cell
          have xf := X1.out.frozen
          clear hBW hKW h45 h3
          go_wp2_with fail
          have c5 := hW'.out.1.cell
          refine bodyPost_ret (v := .agg #[.int .i64 1, .string ⟨#[]⟩, .string ⟨#[]⟩, .slice none 0 0]) (by simp [results, Tryz.results39, go_sem, c5]) rfl ?_
          exact ⟨_, _, _, _, _, _, _, rfl, leaf_said _ _ _ _ _, leaf_small _ _ _, T1.out.keeps hW'.out.2 (by omega), K1.out.step hW'.out.2 (fun j e => .inr (by omega))⟩
theorem rule_calls : ∀ (d : Nat), d ≤ 2 → ∀ (nt : Int) (tp g m : Nat) (w : World), (nt = 0 ∨ nt = 4 ∨ nt = 5) → TapeAt w tp → tp < g → Names w g m → Calls Tryz.prog 39 #[.pointer (some ⟨tp, 0, none⟩), .slice (some ⟨g, 0, none⟩) m 4, .int .i64 d, .int .i64 nt] w (RuleSaid tp w)
  | d, hd, nt, tp, g, m, w, h1, h2, h3, h4 => rule_step d hd (fun d' hd' nt tp g m w h1 h2 h3 h4 => rule_calls d' (by omega) nt tp g m w h1 h2 h3 h4) nt tp g m w h1 h2 h3 h4
end Go.Proofs.YtaikedlkkjnffaaGreatDoor
namespace Go.Proofs.YtaikedlkkjnffaaGreatDoor
open Go.RowKit
def names3 : Array Value := #[.string ⟨#[100, 111, 99]⟩, .string ⟨#[103, 114, 111, 117, 112]⟩, .string ⟨#[117, 115, 101, 114]⟩]
theorem names3_at (k : Nat) (hk : k < 3) : ∃ s : ByteArray, names3[k]? = some (.string s) ∧ s.size ≤ 10 := by
  rcases k with _ | _ | _ | k
  · exact ⟨_, rfl, by decide⟩
  · exact ⟨_, rfl, by decide⟩
  · exact ⟨_, rfl, by decide⟩
  · omega
/-- amid the types -/
structure SInv (tp : Nat) (w wx : World) (p : Option Addr) (c : Nat) (us : List Value) (ts : List TyD) (j : Nat) : Prop where
  res : Blk wx w.heap.size 56 #[.slice none 0 0]
  sb : Blk wx (w.heap.size + 1) 56 #[.slice p ts.length c]
  nm : Blk wx (w.heap.size + 2) 9 names3
  own : OwnY (w.heap.size + 3) wx (.slice p ts.length c) us ts
  tape : TapeAt wx tp
  on : OnTape tp w wx
  len : ts.length = j
  ok : TsOk ts
  tl : tp < w.heap.size
theorem SInv.step {tp : Nat} {w wx wy : World} {p : Option Addr} {c : Nat} {us : List Value} {ts : List TyD} {j : Nat} (h : SInv tp w wx p c us ts j) (hk : OnTape tp wx wy) (hT : TapeAt wy tp) : SInv tp w wy p c us ts j := by
  have := h.tl
  exact ⟨h.res.keeps hk (by omega), h.sb.keeps hk (by omega), h.nm.keeps hk (by omega), h.own.keeps hk fun i hi e => by omega, hT, h.on.trans hk, h.len, h.ok, h.tl⟩
/-- amid a type's relations; w0: the world ahead of that type -/
structure XInv (tp : Nat) (w0 wx : World) (bx g : Nat) (s : ByteArray) (p : Option Addr) (c : Nat) (rels : List RelD) (rcs : List Value) (j : Nat) : Prop where
  x : Blk wx bx 96 #[.string s, .slice p rels.length c]
  names : Blk wx g 9 names4
  own : OwnR (g + 1) wx (.slice p rels.length c) rels rcs
  tape : TapeAt wx tp
  on : OnTape tp w0 wx
  len : rels.length = j
  ok : RelsOk rels
  tl : tp < w0.heap.size
  bl : w0.heap.size ≤ bx
  gl : bx < g
theorem XInv.step {tp : Nat} {w0 wx wy : World} {bx g : Nat} {s : ByteArray} {p : Option Addr} {c : Nat} {rels : List RelD} {rcs : List Value} {j : Nat} (h : XInv tp w0 wx bx g s p c rels rcs j) (hk : OnTape tp wx wy) (hT : TapeAt wy tp) : XInv tp w0 wy bx g s p c rels rcs j := by
  have h1 := h.tl
  have h2 := h.bl
  have h3 := h.gl
  exact ⟨h.x.keeps hk (by omega), h.names.keeps hk (by omega), h.own.keeps hk fun i hi _ e => by omega, hT, h.on.trans hk, h.len, h.ok, h.tl, h.bl, h.gl⟩
theorem XInv.later {tp : Nat} {w0 wx wy : World} {bx g : Nat} {s : ByteArray} {p : Option Addr} {c : Nat} {rels : List RelD} {rcs : List Value} {j : Nat} (h : XInv tp w0 wx bx g s p c rels rcs j) (hb : Below wx.heap.size wx wy) : XInv tp w0 wy bx g s p c rels rcs j := h.step (.of_below hb) (h.tape.later hb)
theorem xrel_round {tp : Nat} {w0 w5 : World} {bx g : Nat} {s : ByteArray} {p : Option Addr} {c : Nat} {rels : List RelD} {rcs : List Value} {j : Nat} (h : XInv tp w0 w5 bx g s p c rels rcs j) (hj : j < 10) {wr : Nat} (hw : ∀ i, (Value.slice p rels.length c).ownBlock = some i → i < wr) (hg : g < wr) {nm a b : ByteArray} {k : Int} {p3 : Option Addr} {n3 c3 : Nat} {t : RT} (hA : RAt (fun i => wr ≤ i) w5 [.int .i64 k, .string a, .string b, .slice p3 n3 c3] t) (hs : t.small 4) (hn : nm.size ≤ 10) :
    ∃ p' c' w6, (dappOp #[94, 94] 94 #[.slice p rels.length c, .slice (some ⟨w5.heap.size, 0, none⟩) 1 1]).run Tryz.prog (w5.alloc (.cells #[.string nm, .int .i64 k, .string a, .string b, .slice p3 n3 c3] 103)) = .ok (.slice p' (rels.length + 1) c') w6 ∧ Blk w6 bx 96 #[.string s, .slice p rels.length c] ∧ ∃ rcs', XInv tp w0 (w6.setCell ⟨bx, 1, none⟩ (.slice p' (rels.length + 1) c')) bx g s p' c' (rels ++ [(nm.data.toList, t)]) rcs' (j + 1) := by
  have h1 := h.tl
  have h2 := h.bl
  have h3 := h.gl
  have hgl := h.names.lt
  have bA := (Below.refl w5.heap.size w5).alloc (Nat.le_refl _) (.cells #[.string nm, .int .i64 k, .string a, .string b, .slice p3 n3 c3] 103)
  have X := h.later bA
  have Ro := Blk.new w5 103 #[.string nm, .int .i64 k, .string a, .string b, .slice p3 n3 c3]
  have hr : RAt (fun i => g + 1 ≤ i ∧ (Value.slice p rels.length c).ownBlock ≠ some i) (w5.alloc (.cells #[.string nm, .int .i64 k, .string a, .string b, .slice p3 n3 c3] 103)) [.int .i64 k, .string a, .string b, .slice p3 n3 c3] t :=
    (hA.later bA).mono fun i hi _ => ⟨by omega, fun e => by have := hw i e; omega⟩
  have hlen := h.len
  obtain ⟨p', c', w6, e6, ho6, hk6⟩ := X.own.app (by simp; omega) (by omega) Ro hr
  have hz6 := hk6.size
  have x6 := X.x.keeps hk6 (fun e => by omega)
  have kS : Keeps (fun i => i = bx) w6 (w6.setCell ⟨bx, 1, none⟩ (.slice p' (rels.length + 1) c')) := (Keeps.refl (fun i => i = bx) w6).setCell (p := ⟨bx, 1, none⟩) (.inl rfl) _
  refine ⟨p', c', w6, e6, x6, rcs ++ [.string nm, .int .i64 k, .string a, .string b, .slice p3 n3 c3], ?_⟩
  have hl : (rels ++ [(nm.data.toList, t)]).length = rels.length + 1 := by simp
  refine ⟨?_, ?_, ?_, ?_, ?_, by rw [hl, hlen], h.ok.app (by show nm.data.toList.length ≤ 10; rw [size_data]; exact hn) hs, h1, h2, h3⟩
  · rw [hl]; exact x6.set_ 1 (.slice p' (rels.length + 1) c')
  · exact ((X.names.keeps hk6 (fun e => by omega)).keeps kS (by omega))
  · rw [hl]; exact ho6.keeps kS fun i hi _ e => by omega
  · exact (X.tape.keeps hk6 (fun i hi e => by omega)).keeps kS (fun i hi e => by omega)
  · exact (X.on.step hk6 (fun i e => .inr (by omega))).step kS (fun i e => .inr (by omega))
/-- a rule of two: what is told oneself, and that one -/
theorem union_said {w4 : World} {P : Nat → Prop} {k : Int} {a b : ByteArray} {p3 : Option Addr} {n3 c3 : Nat} {t : RT} (hA : RAt P w4 [.int .i64 k, .string a, .string b, .slice p3 n3 c3] t) (hq : P w4.heap.size) :
    RAt P (w4.alloc (.cells #[.int .i64 1, .string ⟨#[]⟩, .string ⟨#[]⟩, .slice none 0 0, .int .i64 k, .string a, .string b, .slice p3 n3 c3] 100)) [.int .i64 4, .string ⟨#[]⟩, .string ⟨#[]⟩, .slice (some ⟨w4.heap.size, 0, none⟩) 2 2] (.node 4 [] [] [.node 1 [] [] [], t]) := by
  have bA := (Below.refl w4.heap.size w4).alloc (Nat.le_refl _) (.cells #[.int .i64 1, .string ⟨#[]⟩, .string ⟨#[]⟩, .slice none 0 0, .int .i64 k, .string a, .string b, .slice p3 n3 c3] 100)
  refine .mk (cs := [.int .i64 1, .string ⟨#[]⟩, .string ⟨#[]⟩, .slice none 0 0, .int .i64 k, .string a, .string b, .slice p3 n3 c3]) (.inr ⟨_, _, _, rfl, Nat.le_refl _, Blk.new _ _ _, fun i u hu => by rw [← hu]; simp⟩) (fun g hg => by obtain rfl := Option.some.inj hg; exact hq) rfl fun i p hi => ?_
  rcases i with _ | _ | i
  · obtain rfl : RT.node 1 [] [] [] = p := by simpa using hi
    exact leaf_said 1 ⟨#[]⟩ ⟨#[]⟩ _ _
  · obtain rfl : t = p := by simpa using hi
    exact hA.later bA
  · simp at hi
theorem union_small {t : RT} (h : t.small 4) : (RT.node 4 [] [] [.node 1 [] [] [], t]).small 4 := .mk (by simp) fun p hp => by
  simp at hp
  rcases hp with rfl | rfl
  · exact leaf_small _ _ _
  · exact h
theorem sty_round {tp : Nat} {w w0 wx : World} {p0 : Option Addr} {c0 : Nat} {us : List Value} {ts : List TyD} {j : Nat} (h : SInv tp w w0 p0 c0 us ts j) (hj : j < 3) {bx g : Nat} {s : ByteArray} {p : Option Addr} {c : Nat} {rels : List RelD} {rcs : List Value} {j2 : Nat} (hx : XInv tp w0 wx bx g s p c rels rcs j2) (hj2 : j2 ≤ 4) (hs : s.size ≤ 10) :
    ∃ p' c' w6, (dappOp #[54, 54] 54 #[.slice p0 ts.length c0, .slice (some ⟨wx.heap.size, 0, none⟩) 1 1]).run Tryz.prog (wx.alloc (.cells #[.string s, .slice p rels.length c] 96)) = .ok (.slice p' (ts.length + 1) c') w6 ∧ Blk w6 (w.heap.size + 1) 56 #[.slice p0 ts.length c0] ∧ ∃ us', SInv tp w (w6.setCell ⟨w.heap.size + 1, 0, none⟩ (.slice p' (ts.length + 1) c')) p' c' us' (ts ++ [(s.data.toList, rels)]) (j + 1) := by
  have h1 := hx.tl
  have h2 := hx.bl
  have h3 := hx.gl
  have h4 := h.tl
  have hgl := hx.names.lt
  have hsl := h.nm.lt
  have S := h.step hx.on hx.tape
  have bA := (Below.refl wx.heap.size wx).alloc (Nat.le_refl _) (.cells #[.string s, .slice p rels.length c] 96)
  have S2 := S.step (.of_below bA) (S.tape.later bA)
  have Ro := Blk.new wx 96 #[.string s, .slice p rels.length c]
  have X := hx.later bA
  have hvl : ∀ i, (Value.slice p0 ts.length c0).ownBlock = some i → i < w0.heap.size := fun i e => (h.own.row.lt i e).2
  have hlen := h.len
  obtain ⟨p', c', w6, e6, ho6, hk6⟩ := S2.own.app (by simp; omega) (by omega) Ro (.of_own X.own.row) (fun i e => by have := (X.own.row.lt i e).1; omega) (X.own.parts.mono fun i hi _ => ⟨by omega, fun e => by have := hvl i e; omega⟩)
  have hz6 := hk6.size
  have s6 := S2.sb.keeps hk6 (fun e => by omega)
  have kS : Keeps (fun i => i = w.heap.size + 1) w6 (w6.setCell ⟨w.heap.size + 1, 0, none⟩ (.slice p' (ts.length + 1) c')) := (Keeps.refl (fun i => i = w.heap.size + 1) w6).setCell (p := ⟨w.heap.size + 1, 0, none⟩) (.inl rfl) _
  refine ⟨p', c', w6, e6, s6, us ++ [.slice p rels.length c], ?_⟩
  have hl : (ts ++ [(s.data.toList, rels)]).length = ts.length + 1 := by simp
  refine ⟨?_, ?_, ?_, ?_, ?_, ?_, by rw [hl, hlen], h.ok.app (by show s.data.toList.length ≤ 10; rw [size_data]; exact hs) (by show rels.length ≤ 4; rw [hx.len]; exact hj2) hx.ok, h4⟩
  · exact ((S2.res.keeps hk6 (fun e => by omega)).keeps kS (by omega))
  · rw [hl]; exact s6.set_ 0 (.slice p' (ts.length + 1) c')
  · exact ((S2.nm.keeps hk6 (fun e => by omega)).keeps kS (by omega))
  · rw [hl]; exact ho6.keeps kS fun i hi e => by omega
  · exact (S2.tape.keeps hk6 (fun i hi e => by omega)).keeps kS (fun i hi e => by omega)
  · exact (S2.on.step hk6 (fun i e => .inr (by omega))).step kS (fun i e => .inr (by omega))
end Go.Proofs.YtaikedlkkjnffaaGreatDoor
namespace Go.Proofs.YtaikedlkkjnffaaGreatDoor
open Go.RowKit
attribute [local go_sem ↓] dapp_op
def SchemaSaid (tp : Nat) (w : World) (e : Ending) (w' : World) : Prop := ∃ (p : Option Addr) (c : Nat) (us : List Value) (ts : List TyD), e = .returned (.agg #[.slice p ts.length c]) ∧ Made w.heap.size w' (.slice p ts.length c) us ts ∧ TsOk ts ∧ 2 ≤ ts.length ∧ ts.length ≤ 3 ∧ TapeAt w' tp ∧ OnTape tp w w'
theorem Made.lower {B B' : Nat} {w : World} {v : Value} {us : List Value} {ts : List TyD} (h : Made B w v us ts) (hB : B' ≤ B) : Made B' w v us ts :=
  ⟨h.row, fun g hg => Nat.le_trans hB (h.low g hg), h.len, fun i t u ht hu => by
    obtain ⟨cs, h1, h2, h3⟩ := h.rels i t u ht hu
    exact ⟨cs, h1, fun g hg => Nat.le_trans hB (h2 g hg), h3.mono fun j hj _ => Nat.le_trans hB hj⟩⟩
set_option maxHeartbeats 8000000 in
set_option maxRecDepth 100000 in
theorem schema_calls (tp : Nat) (w : World) (hT : TapeAt w tp) :
    Calls Tryz.prog 18 #[.pointer (some ⟨tp, 0, none⟩)] w (SchemaSaid tp w) := by
  have htl := hT.lt
  have hN2 := Lib.hid (show ∀ W, TapeAt W tp → Calls Tryz.prog 37 #[.pointer (some ⟨tp, 0, none⟩), .int .i64 2] W (NextSaid 2 tp W) from fun W h => next_calls 2 tp W (by omega) h)
  have hN3 := Lib.hid (show ∀ W, TapeAt W tp → Calls Tryz.prog 37 #[.pointer (some ⟨tp, 0, none⟩), .int .i64 3] W (NextSaid 3 tp W) from fun W h => next_calls 3 tp W (by omega) h)
  have hRl := Lib.hid (fun W => rels_calls W)
  have b1 := (Below.refl w.heap.size w).alloc (Nat.le_refl _) (.cells #[.slice none 0 0] 56)
  have b2 := b1.alloc (by simp) (.cells #[.slice none 0 0] 56)
  have b3 := b2.alloc (by simp; omega) (.cells #[.string ⟨#[100, 111, 99]⟩, .string ⟨#[103, 114, 111, 117, 112]⟩, .string ⟨#[117, 115, 101, 114]⟩] 9)
  have X1 := ((Blk.new w 56 #[.slice none 0 0]).alloc (.cells #[.slice none 0 0] 56)).alloc (.cells #[.string ⟨#[100, 111, 99]⟩, .string ⟨#[103, 114, 111, 117, 112]⟩, .string ⟨#[117, 115, 101, 114]⟩] 9)
  have X2 := (Blk.new (w.alloc (.cells #[.slice none 0 0] 56)) 56 #[.slice none 0 0]).alloc (.cells #[.string ⟨#[100, 111, 99]⟩, .string ⟨#[103, 114, 111, 117, 112]⟩, .string ⟨#[117, 115, 101, 114]⟩] 9)
  have X3 := Blk.new ((w.alloc (.cells #[.slice none 0 0] 56)).alloc (.cells #[.slice none 0 0] 56)) 9 #[.string ⟨#[100, 111, 99]⟩, .string ⟨#[103, 114, 111, 117, 112]⟩, .string ⟨#[117, 115, 101, 114]⟩]
  simp only [World.size_alloc] at X2 X3
  have S0 := Lib.hid (show SInv tp w _ none 0 [] [] 0 from ⟨X1, X2, X3, OwnY.nil _ _, hT.later b3, .of_below b3, rfl, fun t ht => by simp at ht, htl⟩)
  clear b1 b2 b3 X1 X2 X3 hT
  go_enter Tryz.func18, Tryz.ntmps18
  go_wp2_with fail
  go_loopw [5] (fun i wx => ∃ (j : Nat) (p : Option Addr) (c : Nat) (us : List Value) (ts : List TyD), i = .int .i64 j ∧ j ≤ 3 ∧ SInv tp w wx p c us ts j) (fun i _ => 3 - (intOf i).toNat)
  case atStart => exact ⟨0, _, _, _, _, rfl, by omega, S0.out⟩
  case round =>
    obtain ⟨j, p, c, us, ts, rfl, hj, hS⟩ := hrel
    have hS' := Lib.hid hS
    clear hS S0
    go_wp2_with fail
    refine (hN2.out _ hS'.out.tape).mono ?_
    rintro e w1 ⟨k1, rfl, hk1, hT1, hk⟩
    have S1 := Lib.hid (hS'.out.step hk hT1)
    have hk12 : k1 < 2 := by omega
    clear hk hT1 hS' hk1
    by_cases hlt : j < 2 + k1
    · have hj3 : j < 3 := by omega
      obtain ⟨s, hs, hs10⟩ := names3_at j hj3
      have n1 := (S1.out.nm.cell j).trans hs
      have nl := S1.out.nm.lt
      have Xx := Blk.new w1 96 #[.string s, .slice none 0 0]
      have bx := (Below.refl w1.heap.size w1).alloc (Nat.le_refl _) (.cells #[.string s, .slice none 0 0] 96)
      have X' := Lib.hid (And.intro Xx bx)
      clear hs Xx bx
      go_wp2_with fail
      refine (hRl.out _).mono ?_
      rintro e w2 ⟨g, rfl, hg, hgz, hb2⟩
      rw [World.size_alloc] at hgz
      have Xi := Lib.hid (show XInv tp w1 w2 w1.heap.size g s none 0 [] [] 0 from ⟨X'.out.1.below hb2 X'.out.1.lt, hg, OwnR.nil _ _, (S1.out.tape.later X'.out.2).later hb2, .of_below (X'.out.2.trans (hb2.mono (by simp))), rfl, fun t ht => by simp at ht, by have := S1.out.on.size; omega, Nat.le_refl _, by omega⟩)
      clear hg hb2 hgz X' n1
      go_wp2_with fail
      refine (hN3.out _ Xi.out.tape).mono ?_
      rintro e w3 ⟨k2, rfl, hk2, hT3, hk⟩
      have Xj := Lib.hid (Xi.out.step hk hT3)
      have hk23 : k2 < 3 := by omega
      clear hk hT3 hk2 Xi
      go_wp2_with fail
      have hRu := Lib.hid (show ∀ W, TapeAt W tp → Names W g (2 + k2) → tp < g → Calls Tryz.prog 39 #[.pointer (some ⟨tp, 0, none⟩), .slice (some ⟨g, 0, none⟩) (2 + k2) 4, .int .i64 2, .int .i64 0] W (RuleSaid tp W) from fun W h1 h2 h3 => rule_calls 2 (by omega) 0 tp g (2 + k2) W (.inl rfl) h1 h3 h2)
      obtain ⟨bx, hbx⟩ : ∃ bx, w1.heap.size = bx := ⟨_, rfl⟩
      rw [hbx] at Xj ⊢
      clear hbx nl
      obtain ⟨wo, rfl⟩ : ∃ wo : World, wo = wr := ⟨_, rfl⟩
      go_loopw [31] (fun i wx => ∃ (j2 : Nat) (p2 : Option Addr) (c2 : Nat) (rels : List RelD) (rcs : List Value), i = .int .i64 j2 ∧ j2 ≤ 2 + k2 ∧ XInv tp w1 wx bx g s p2 c2 rels rcs j2) (fun i _ => 2 + k2 - (intOf i).toNat)
      case atStart => exact ⟨0, _, _, _, _, rfl, by omega, Xj.out⟩
      case round =>
        obtain ⟨j2, p2, c2, rels, rcs, rfl, hj2, hX⟩ := hrel
        have hX' := Lib.hid hX
        have hgt : tp < g := by have := hX.tl; have := hX.bl; have := hX.gl; omega
        clear hX Xj
        by_cases hlt2 : j2 < 2 + k2
        · obtain ⟨nm, hnm, hnm10⟩ := names4_at j2 (by omega)
          have nc := (hX'.out.names.cell j2).trans hnm
          have nl := hX'.out.names.lt
          clear hnm
          have C := Lib.hid (hRu.out wr hX'.out.tape ⟨hX'.out.names, by omega, by omega⟩ hgt)
          go_wp2_with fail
          refine C.out.mono ?_
          rintro e w4 ⟨k, a, b, p3, n3, c3, t, rfl, hA, hsm, hT4, hk4⟩
          have hA' := Lib.hid (hA.mono (Q := fun i => (wr.heap.size ≤ i ∧ i ≠ w4.heap.size) ∧ i < w4.heap.size) fun i hi hl => ⟨⟨hi, by omega⟩, hl⟩)
          have hsm' := Lib.hid hsm
          have hz4 := hk4.size
          have htw : tp < wr.heap.size := by omega
          -- the place of the rule
          have R5 := Blk.new w4 100 #[.int .i64 k, .string a, .string b, .slice p3 n3 c3]
          have b5 := (Below.refl w4.heap.size w4).alloc (Nat.le_refl _) (.cells #[.int .i64 k, .string a, .string b, .slice p3 n3 c3] 100)
          have K5 := Lib.hid (hk4.trans (.of_below b5))
          have T5 := Lib.hid (hT4.later b5)
          have A5 := Lib.hid (hA'.out.later b5)
          have R5' := Lib.hid R5
          clear hA hA' hsm hT4 hk4 R5 b5 C nc
          go_wp2_with fail
          refine (hN3.out _ T5.out).mono ?_
          rintro e w5 ⟨k3, rfl, hk3, hT5, hk⟩
          have K6 := Lib.hid (K5.out.trans hk)
          have T6 := Lib.hid hT5
          have R6 := Lib.hid (R5'.out.keeps hk (by omega))
          have A6 := Lib.hid ((A5.out.keeps hk fun i hi _ e => by omega).mono (Q := fun i => wr.heap.size ≤ i ∧ i ≠ w4.heap.size) fun i hi _ => hi.1)
          have hz5 := hk.size
          rw [World.size_alloc] at hz5
          clear K5 T5 R5' A5 hk hT5
          obtain ⟨b10, hb10⟩ : ∃ b10, w4.heap.size = b10 := ⟨_, rfl⟩
          rw [hb10] at R6 A6 hz5 hz4 ⊢
          clear hb10
          have rc := R6.out.cell
          have rf := R6.out.frozen
          have rl := R6.out.lt
          by_cases hU : k3 = 1 ∧ k ≠ 4
          · obtain ⟨rfl, hk4⟩ := hU
            have hk4' : (k != 4) = true := by simpa using hk4
            have hk4'' : (k == 4) = false := by simpa using hk4
            obtain ⟨W5, eW, hBW5, hKW5⟩ := put4 rfl R6.out (.int .i64 4) (.string ⟨#[]⟩) (.string ⟨#[]⟩) (.slice (some ⟨w5.heap.size, 0, none⟩) 2 2)
            have hsz : W5.heap.size = w5.heap.size := by rw [← eW]; simp
            have bA := (Below.refl W5.heap.size W5).alloc (Nat.le_refl _) (.cells #[.int .i64 1, .string ⟨#[]⟩, .string ⟨#[]⟩, .slice none 0 0, .int .i64 k, .string a, .string b, .slice p3 n3 c3] 100)
            have AW0 := (union_said (A6.out.keeps hKW5 fun i hi _ e => hi.2 e) (show wr.heap.size ≤ W5.heap.size ∧ W5.heap.size ≠ b10 from ⟨by omega, by omega⟩)).mono (Q := fun i => wr.heap.size ≤ i) fun i hi _ => hi.1
            have KW0 := (K6.out.step hKW5 (fun i e => .inr (by omega))).trans (.of_below bA)
            have TW0 := (T6.out.keeps hKW5 (fun i hi e => by omega)).later bA
            have BW0 := hBW5.below bA hBW5.lt
            obtain ⟨W, eW2⟩ : ∃ W, W5.alloc (.cells #[.int .i64 1, .string ⟨#[]⟩, .string ⟨#[]⟩, .slice none 0 0, .int .i64 k, .string a, .string b, .slice p3 n3 c3] 100) = W := ⟨_, rfl⟩
            rw [eW2] at AW0 KW0 TW0 BW0
            rw [hsz] at AW0
            have AW := Lib.hid AW0
            have XW := Lib.hid (hX'.out.step KW0 TW0)
            have BW := Lib.hid BW0
            clear bA hBW5 hKW5 AW0 KW0 TW0 BW0 hk4 K6 T6 R6 A6 hsz
            obtain ⟨p', c', w8, e8, x8, rcs', hX8⟩ := xrel_round XW.out (by omega) (wr := wr.heap.size) (fun i e => (hX'.out.own.row.lt i e).2) nl AW.out (union_small hsm'.out) hnm10
            have x8c := x8.cell
            have x8f := x8.frozen
            have x8l := x8.lt
            have hX8' := Lib.hid hX8
            have xw := XW.out.x.cell
            have bw := BW.out.cell
            clear x8 hX8
            go_wp2_with fail
            go_roundw
            case rel => exact ⟨j2 + 1, p', c', rels ++ [(nm.data.toList, .node 4 [] [] [.node 1 [] [] [], t])], rcs', by go_num, by omega, hX8'.out⟩
            case measure => simp [intOf]; omega
          · have AW := Lib.hid (A6.out.mono (Q := fun i => wr.heap.size ≤ i) fun i hi _ => hi.1)
            have XW := Lib.hid (hX'.out.step K6.out T6.out)
            have BW := R6
            clear K6 T6 A6
            by_cases hk31 : k3 = 1
            · subst hk31
              obtain rfl : k = 4 := by
                by_cases e : k = 4
                · exact e
                · exact absurd ⟨rfl, e⟩ hU
              obtain ⟨p', c', w8, e8, x8, rcs', hX8⟩ := xrel_round XW.out (by omega) (wr := wr.heap.size) (fun i e => (hX'.out.own.row.lt i e).2) nl AW.out hsm'.out hnm10
              have x8c := x8.cell
              have x8f := x8.frozen
              have x8l := x8.lt
              have hX8' := Lib.hid hX8
              have xw := XW.out.x.cell
              have bw := BW.out.cell
              clear x8 hX8
              go_wp2_with fail
              go_roundw
              case rel => exact ⟨j2 + 1, p', c', rels ++ [(nm.data.toList, t)], rcs', by go_num, by omega, hX8'.out⟩
              case measure => simp [intOf]; omega
            · have hk31' : ((k3 : Int) == 1) = false := by rw [beq_eq_false_iff_ne]; omega
              clear hU
              obtain ⟨p', c', w8, e8, x8, rcs', hX8⟩ := xrel_round XW.out (by omega) (wr := wr.heap.size) (fun i e => (hX'.out.own.row.lt i e).2) nl AW.out hsm'.out hnm10
              have x8c := x8.cell
              have x8f := x8.frozen
              have x8l := x8.lt
              have hX8' := Lib.hid hX8
              have xw := XW.out.x.cell
              have bw := BW.out.cell
              clear x8 hX8
              go_wp2_with fail
              go_roundw
              case rel => exact ⟨j2 + 1, p', c', rels ++ [(nm.data.toList, t)], rcs', by go_num, by omega, hX8'.out⟩
              case measure => simp [intOf]; omega
        · obtain rfl : j2 = 2 + k2 := by omega
          obtain ⟨p', c', w8, e8, x8, us', hS8⟩ := sty_round S1.out hj3 hX'.out (by omega) hs10
          have x8c := x8.cell
          have x8f := x8.frozen
          have x8l := x8.lt
          have hS8' := Lib.hid hS8
          have SW := S1.out.step hX'.out.on hX'.out.tape
          have sc := SW.sb.cell
          have sl := SW.sb.lt
          have xw := hX'.out.x.cell
          have xl := hX'.out.x.lt
          clear x8 hS8 SW
          go_wp2_with fail
          go_roundw
          case rel => exact ⟨j + 1, p', c', us', _, by go_num, by omega, hS8'.out⟩
          case measure => simp [intOf]; omega
    · have sc := S1.out.sb.cell
      have rs := S1.out.res.cell
      have rf := S1.out.res.frozen
      have rl := S1.out.res.lt
      have R2 := S1.out.res.set_ 0 (.slice p ts.length c)
      have kS : Keeps (fun i => i = w.heap.size) w1 (w1.setCell ⟨w.heap.size, 0, none⟩ (.slice p ts.length c)) := (Keeps.refl (fun i => i = w.heap.size) w1).setCell (p := ⟨w.heap.size, 0, none⟩) (.inl rfl) _
      obtain ⟨W, eW⟩ : ∃ W, w1.setCell ⟨w.heap.size, 0, none⟩ (.slice p ts.length c) = W := ⟨_, rfl⟩
      rw [eW] at R2 kS
      have R2' := Lib.hid R2
      have kS' := Lib.hid kS
      clear R2 kS
      go_wp2_with fail
      have c5 : ∀ i, W.cell? ⟨w.heap.size, i, none⟩ = (#[.slice p ts.length c] : Array Value)[i]? := R2'.out.cell
      refine bodyPost_ret (v := .agg #[.slice p ts.length c]) (by simp [results, Tryz.results18, go_sem, c5]) rfl ?_
      exact ⟨_, _, us, ts, rfl, (S1.out.own.keeps kS'.out fun i hi e => by omega).made.lower (by omega), S1.out.ok, by have := S1.out.len; omega, by have := S1.out.len; omega, S1.out.tape.keeps kS'.out (fun i hi e => by omega), S1.out.on.step kS'.out (fun i e => .inr (by omega))⟩
end Go.Proofs.YtaikedlkkjnffaaGreatDoor
