/- Walks: Start. -/
import Derived.Test.YtabcdodjkfknlaaGreatDoorPL28
import Derived.Test.YtabcdodjkfknlaaGreatDoorPL11
namespace Go.Proofs.YtabcdodjkfknlaaGreatDoor
open Go.RowKit
attribute [local go_sem ↓] dapp_op dslK_op
attribute [local go_sem] Oper.semAt_some
theorem str_bytes (s : ByteArray) (w : World) : Bytes (Lib.bytesWorld w 5 s) (.slice (some ⟨w.heap.size, 0, none⟩) s.size (grownCap w s.size 0 5)) s.data.toList := by
  refine .inl (.inr ⟨w.heap.size, 0, _, by rw [Lib.size_eq], by rw [← Lib.size_eq]; exact grownCap_ge w s.size 0 _, fun i x hx => ?_⟩)
  have hlt := (List.getElem?_eq_some_iff.1 hx).1
  rw [Nat.zero_add, Lib.bytesWorld_cell w _ s i (by rw [Lib.size_eq]; exact hlt)]
  simp [List.getD, hx]
def Ver.up (v : Ver) : Ver := { v with next := v.next + 1 }
/-- what Start makes of a disk, and what it answers -/
def startR (r : RD) (v : Ver) : RD × (Ver × Int × Int) :=
  if v.ok = false ∨ fname 109 v.next.toNat = [] then (r, (Ver.zero, 0, 9)) else
  if v.up.whole.right = false then (r, (Ver.zero, 0, 9)) else
  if (startS r (fname 109 v.next.toNat) (sealL v.up.whole.bytes)).2 ≠ 0 then ((startS r (fname 109 v.next.toNat) (sealL v.up.whole.bytes)).1, (Ver.zero, 0, (startS r (fname 109 v.next.toNat) (sealL v.up.whole.bytes)).2)) else
  ((startS r (fname 109 v.next.toNat) (sealL v.up.whole.bytes)).1, (v.up, v.next, 0))
def StartPost (w : World) (B D : Nat) (O : Nat → Prop) (m : Nat) (x : RD × (Ver × Int × Int)) (e : Ending) (w' : World) : Prop :=
  ∃ v, e = .returned (.tuple #[v, .int .i64 x.2.2.1, .int .i64 x.2.2.2]) ∧ VerOwn w.heap.size w' v x.2.1 ∧ DGo w B D O x.1 m w'
theorem DGo.fin {w u5 u6 W : World} {B D m R : Nat} {O : Nat → Prop} {r : RD} (hb : Below w.heap.size w u5) (h : DGo u5 B D O r m u6) (hk : Keeps (fun j => j = R) u6 W) (hR1 : w.heap.size ≤ R) (hR2 : R < u5.heap.size) (hR3 : ¬ O R) : DGo w B D O r m W := by
  obtain ⟨O', hD, hs, hk'⟩ := h
  have hz := hb.size
  refine ⟨O', hD.keeps hk fun j hj e => ?_, fun j hj => (hs j hj).imp id fun h => by omega, ((Keeps.of_below hb).trans hk').step hk fun k e => .inr (by omega)⟩
  subst e
  rcases hs j hj with h | h
  · exact hR3 h
  · omega
theorem start_bad {w w1 : World} {B D m : Nat} {O : Nat → Prop} {r : RD} {E : Int} (h : DAt w B D O r m) (hb : Below w.heap.size w w1) : StartPost w B D O (m + 6) (r, (Ver.zero, 0, E)) (.returned (.tuple #[.agg vZero, .int .i64 0, .int .i64 E])) w1 :=
  ⟨_, rfl, VerOwn.zero _ _, O, (h.later hb).more (by omega), fun _ h => .inl h, .of_below hb⟩
set_option maxHeartbeats 4000000 in
set_option maxRecDepth 100000 in
theorem start_calls {w : World} {B D m : Nat} {O : Nat → Prop} {r : RD} {vv : Value} {v : Ver} (h : DAt w B D O r m) (hv : VerIs w vv v) (hs : StdF w) (hlen : v.tables.length ≤ 400000)
    (hby : v.up.whole.bytes.length ≤ 65528) (htx : ∀ t ∈ v.tables, t.first.size ≤ 1000000 ∧ t.last.size ≤ 1000000) (hm : m + 6 < 4000) :
    Calls Tryz.prog 18 #[dptr D, vv] w (StartPost w B D O (m + 6) (startR r v)) := by
  have hck := fun W (hb : Below w.heap.size w W) => check_calls vv v W (hv.later hb)
  obtain ⟨⟨p, c, rfl, hA⟩, hv1, hv2, n1, n2, n3, n4, n5, n6⟩ := hv
  obtain ⟨X, hX⟩ : ∃ X, startR r v = X := ⟨_, rfl⟩
  rw [hX]
  unfold startR at hX
  have hNm := fun W (hb : Below w.heap.size w W) => name_calls 109 v.next W n5 n6 (hs.next hb)
  obtain ⟨F, hF⟩ : ∃ F, (⟨(fname 109 v.next.toNat).toArray⟩ : ByteArray) = F := ⟨_, rfl⟩
  have hFl : F.data.toList = fname 109 v.next.toNat := by rw [← hF]
  simp only [hF] at hNm
  obtain ⟨N, hN⟩ : ∃ N, v.tables.length = N := ⟨_, rfl⟩
  rw [hN] at hck
  obtain ⟨W3, hW3⟩ : ∃ W3, ((w.alloc (.cells #[dptr D] 39)).alloc (.cells #[.slice p N c, .int .u64 v.floor, .int .u64 v.head, .int .i64 v.log, .int .i64 v.next] 30)).alloc (.cells vZero 30) = W3 := ⟨_, rfl⟩
  have b1 : Blk W3 w.heap.size 39 #[dptr D] := by rw [← hW3]; exact ((Blk.new w _ _).alloc _).alloc _
  have b2 : Blk W3 (w.heap.size + 1) 30 #[.slice p N c, .int .u64 v.floor, .int .u64 v.head, .int .i64 v.log, .int .i64 v.next] := by rw [← hW3]; have := Blk.new (w.alloc (.cells #[dptr D] 39)) 30 #[.slice p N c, .int .u64 v.floor, .int .u64 v.head, .int .i64 v.log, .int .i64 v.next]; rw [World.size_alloc] at this; exact this.alloc _
  have b3 : Blk W3 (w.heap.size + 2) 30 vZero := by rw [← hW3]; have := Blk.new ((w.alloc (.cells #[dptr D] 39)).alloc (.cells #[.slice p N c, .int .u64 v.floor, .int .u64 v.head, .int .i64 v.log, .int .i64 v.next] 30)) 30 vZero; rw [World.size_alloc, World.size_alloc] at this; exact this
  have hB3 : Below w.heap.size w W3 := by rw [← hW3]; exact (((Below.refl _ w).alloc (Nat.le_refl _) _).alloc (by simp) _).alloc (by simp; omega) _
  have c2 := b2.cell
  have hN3 := Lib.hid (hNm W3 hB3)
  have hck' := Lib.hid hck
  have b1' := Lib.hid b1
  have b2' := Lib.hid b2
  have b3' := Lib.hid b3
  have hB3' := Lib.hid hB3
  have hs' := Lib.hid hs
  have h' := Lib.hid h
  have hA' := Lib.hid hA
  have hv2' := Lib.hid hv2
  have htx' := Lib.hid htx
  clear hck hNm b1 b2 b3 hB3 hs h hA hv2 htx
  by_cases hok : v.ok = false
  · rw [if_pos (.inl hok)] at hX
    subst hX
    have hck2 : ∀ W, Below w.heap.size w W → Calls Tryz.prog 41 #[.agg #[.slice p N c, .int .u64 v.floor, .int .u64 v.head, .int .i64 v.log, .int .i64 v.next]] W (ErrPost W 9) := fun W hb => by have := hck'.out W hb; rw [hok] at this; exact this
    have hck3 := Lib.hid hck2
    clear hck' hck2
    rw [hN]
    go_enter Tryz.func18, Tryz.ntmps18
    go_wp2_with (first
      | (go_at_call 11; (refine hN3.out.mono ?_; rintro e w4 ⟨rfl, hb4⟩; have c24 := (b2'.out.below hb4 b2'.out.lt).cell; have b34 := Lib.hid (b3'.out.below hb4 b3'.out.lt); have hB4 := Lib.hid (hB3'.out.trans (hb4.mono hB3'.out.size)); clear hb4))
      | (go_at_call 41; (refine (hck3.out _ hB4.out).mono ?_; rintro e w5 ⟨rfl, hb5⟩; have b35 := Lib.hid (b34.out.below hb5 b34.out.lt); have c35 := b35.out.cell; have f35 := b35.out.frozen; have hB5 := Lib.hid (hB4.out.trans (hb5.mono hB4.out.size)); clear hb5; obtain ⟨W9, hW9, bW9, kW9⟩ := ver_set rfl b35.out (.slice none 0 0) (.int .u64 0) (.int .u64 0) (.int .i64 0) (.int .i64 0))))
    have cW9 := bW9.cell
    refine bodyPost_ret (v := .tuple #[.agg vZero, .int .i64 0, .int .i64 9]) (by simp [results, Tryz.results18, go_sem, cW9]) rfl (start_bad h'.out (hB5.out.trans (kW9.below (fun j _ e => by omega) hB5.out.size)))
  · have hck2 : ∀ W, Below w.heap.size w W → Calls Tryz.prog 41 #[.agg #[.slice p N c, .int .u64 v.floor, .int .u64 v.head, .int .i64 v.log, .int .i64 v.next]] W (ErrPost W 0) := fun W hb => by have := hck'.out W hb; rw [if_pos (by cases hq : v.ok with | true => rfl | false => exact absurd hq hok)] at this; exact this
    have hck3 := Lib.hid hck2
    clear hck' hck2
    by_cases hem : fname 109 v.next.toNat = []
    · rw [if_pos (.inr hem)] at hX
      subst hX
      have hFe : (F.toList == ([] : List UInt8)) = true := by rw [Lib.toList_data, hFl, hem]; rfl
      have hF0 : F = ⟨#[]⟩ := by rw [← hF, hem]
      subst hF0
      rw [hN]
      clear hF hFl hFe hem
      go_enter Tryz.func18, Tryz.ntmps18
      go_wp2_with (first
        | (go_at_call 11; (refine hN3.out.mono ?_; rintro e w4 ⟨rfl, hb4⟩; have b14 := Lib.hid (b1'.out.below hb4 b1'.out.lt); have b24 := Lib.hid (b2'.out.below hb4 b2'.out.lt); have c24 := b24.out.cell; have b34 := Lib.hid (b3'.out.below hb4 b3'.out.lt); have hB4 := Lib.hid (hB3'.out.trans (hb4.mono hB3'.out.size)); clear hb4))
        | (go_at_call 41; (refine (hck3.out _ hB4.out).mono ?_; rintro e w5 ⟨rfl, hb5⟩; have b35 := Lib.hid (b34.out.below hb5 b34.out.lt); have c35 := b35.out.cell; have f35 := b35.out.frozen; have hB5 := Lib.hid (hB4.out.trans (hb5.mono hB4.out.size)); clear hb5; obtain ⟨W9, hW9, bW9, kW9⟩ := ver_set rfl b35.out (.slice none 0 0) (.int .u64 0) (.int .u64 0) (.int .i64 0) (.int .i64 0))))
      have cW9 := bW9.cell
      refine bodyPost_ret (v := .tuple #[.agg vZero, .int .i64 0, .int .i64 9]) (by simp [results, Tryz.results18, go_sem, cW9]) rfl (start_bad h'.out (hB5.out.trans (kW9.below (fun j _ e => by omega) hB5.out.size)))
    · rw [if_neg (by rintro (h | h); exact hok h; exact hem h)] at hX
      have hne : (F.toList == ([] : List UInt8)) = false := by
        rw [beq_eq_false_iff_ne, Lib.toList_data, hFl]
        exact hem
      obtain ⟨hn1, hn2⟩ : 1 ≤ v.next ∧ v.next ≤ 999999999 := by
        have := (fname_form rfl hem).2
        omega
      have hCl := fun W (hb : Below w.heap.size w W) => cloneT_calls p c v.tables W (hA'.out.below hb) hlen
      rw [hN] at hCl
      have hCl' := Lib.hid hCl
      rw [hN]
      clear hCl
      go_enter Tryz.func18, Tryz.ntmps18
      go_wp2_with (first
        | (go_at_call 11; (refine hN3.out.mono ?_; rintro e w4 ⟨rfl, hb4⟩; have b14 := Lib.hid (b1'.out.below hb4 b1'.out.lt); have b24 := Lib.hid (b2'.out.below hb4 b2'.out.lt); have c24 := b24.out.cell; have b34 := Lib.hid (b3'.out.below hb4 b3'.out.lt); have hB4 := Lib.hid (hB3'.out.trans (hb4.mono hB3'.out.size)); clear hb4))
        | (go_at_call 41; (refine (hck3.out _ hB4.out).mono ?_; rintro e w5 ⟨rfl, hb5⟩; have b15 := Lib.hid (b14.out.below hb5 b14.out.lt); have b25 := Lib.hid (b24.out.below hb5 b24.out.lt); have c25 := b25.out.cell; have b35 := Lib.hid (b34.out.below hb5 b34.out.lt); have hB5 := Lib.hid (hB4.out.trans (hb5.mono hB4.out.size)); clear hb5 c24))
        | (go_at_call 42; (refine (hCl'.out _ hB5.out).mono ?_; rintro e w6 ⟨p6, c6, rfl, o6, hb6⟩; have b16 := Lib.hid (b15.out.below hb6 b15.out.lt); have b26 := Lib.hid (b25.out.below hb6 b25.out.lt); have c26 := b26.out.cell; have f26 := b26.out.frozen; have b36 := Lib.hid (b35.out.below hb6 b35.out.lt); have hB6 := Lib.hid (hB5.out.trans (hb6.mono hB5.out.size)); have o6' := Lib.hid (o6.mono hB5.out.size); clear hb6 o6 c25)))
      obtain ⟨W7, hW7⟩ : ∃ W7, (w6.setCell ⟨w.heap.size + 1, 0, none⟩ (.slice p6 N c6)).setCell ⟨w.heap.size + 1, 4, none⟩ (.int .i64 (v.next + 1)) = W7 := ⟨_, rfl⟩
      have k7 : Keeps (fun j => j = w.heap.size + 1) w6 W7 := by rw [← hW7]; exact ((Keeps.refl (fun j => j = w.heap.size + 1) w6).setCell (p := ⟨w.heap.size + 1, 0, none⟩) (.inl rfl) _).setCell (p := ⟨w.heap.size + 1, 4, none⟩) (.inl rfl) _
      have b27 : Blk W7 (w.heap.size + 1) 30 #[.slice p6 N c6, .int .u64 v.floor, .int .u64 v.head, .int .i64 v.log, .int .i64 (v.next + 1)] := by rw [← hW7]; exact (b26.out.set_ 0 _).set_ 4 _
      have b17 := b16.out.keeps k7 (fun e => by omega)
      have b37 := b36.out.keeps k7 (fun e => by omega)
      have o7 : rkT.Own w.heap.size W7 (.slice p6 N c6) v.tables := o6'.out.keeps k7 fun j hj e => o6'.out.blk_ne b26.out (by decide) (by rw [hj, e])
      have hB7 := hB6.out.trans (k7.below (fun j _ e => by omega) hB6.out.size)
      have hVI : VerIs W7 (.agg #[.slice p6 N c6, .int .u64 v.floor, .int .u64 v.head, .int .i64 v.log, .int .i64 (v.next + 1)]) v.up := by
        rw [← hN] at o7 ⊢
        exact ⟨⟨p6, c6, rfl, o7.at_ rkT_ok⟩, hv1, hv2'.out, n1, n2, n3, n4, by show _ ≤ v.next + 1; omega, by show v.next + 1 < _; omega⟩
      have hWh := whole_calls _ v.up W7 hVI hlen
      rw [hW7]
      have hWh' := Lib.hid hWh
      have b17' := Lib.hid b17
      have b27' := Lib.hid b27
      have b37' := Lib.hid b37
      have o7' := Lib.hid o7
      have hB7' := Lib.hid hB7
      have c27 := b27.cell
      clear hWh b17 b27 b37 o7 hB7 k7 hVI hW7 c26 f26 o6' b16 b26 b36 hB6 hB5 b35 b25 b15 hB4 b34 b24 b14 hCl' hck3 hN3 hW3 c2 b1' b2' b3' hB3' hA'
      refine hWh'.out.mono ?_
      rintro e w8 ⟨ve, rfl, hEI, hb8⟩
      have hEA : EdtAt w8 ve v.up.whole := by
        obtain ⟨av, dv, rfl, oa, od⟩ := hEI
        obtain ⟨pa, ca, rfl⟩ := oa.slice
        obtain ⟨pd, cd, rfl⟩ := od.slice
        exact ⟨⟨pa, ca, pd, cd, rfl, oa.at_ rkT_ok, od.at_ rkI_ok⟩, ⟨hv1, Nat.zero_le _⟩, hv2'.out, fun _ h => (nomatch h), n1, n2, n3, n4, by show _ ≤ v.next + 1; omega, by show v.next + 1 < _; omega⟩
      obtain ⟨av, dv, rfl, oa, od⟩ := hEI
      have hEn := Lib.hid (encode_calls _ _ w8 hEA (Nat.le_trans hby (by decide)) htx'.out)
      have b28 := Lib.hid (b27'.out.below hb8 b27'.out.lt)
      have b18 := Lib.hid (b17'.out.below hb8 b17'.out.lt)
      have b38 := Lib.hid (b37'.out.below hb8 b37'.out.lt)
      have o8 := Lib.hid (o7'.out.later hb8)
      have hB8 := Lib.hid (hB7'.out.trans (hb8.mono hB7'.out.size))
      clear hb8 oa od hEA hWh' b17' b27' b37' o7' hB7' c27
      cases hrg : v.up.whole.right with
      | false =>
        rw [if_pos hrg] at hX
        subst hX
        go_wp2_with fail
        refine hEn.out.mono ?_
        rintro e w9 ⟨hb9, ⟨_, rfl⟩ | ⟨hh, _⟩⟩
        · have b39 := b38.out.below hb9 b38.out.lt
          have c39 := b39.cell
          have f39 := b39.frozen
          have hB9 := Lib.hid (hB8.out.trans (hb9.mono hB8.out.size))
          clear hb9
          obtain ⟨W9, hW9, bW9, kW9⟩ := ver_set rfl b39 (.slice none 0 0) (.int .u64 0) (.int .u64 0) (.int .i64 0) (.int .i64 0)
          go_wp2_with fail
          have cW9 := bW9.cell
          refine bodyPost_ret (v := .tuple #[.agg vZero, .int .i64 0, .int .i64 9]) (by simp [results, Tryz.results18, go_sem, cW9]) rfl (start_bad h'.out (hB9.out.trans (kW9.below (fun j _ e => by omega) hB9.out.size)))
        · exact absurd hrg (by rw [hh]; simp)
      | true =>
        rw [if_neg (by rw [hrg]; simp)] at hX
        go_wp2_with fail
        refine hEn.out.mono ?_
        rintro e w9 ⟨hb9, ⟨hh, _⟩ | ⟨_, p9, c9, rfl, o9⟩⟩
        · exact absurd hrg (by rw [hh]; simp)
        · have b29 := b28.out.below hb9 b28.out.lt
          have b19 := b18.out.below hb9 b18.out.lt
          have b39 := b38.out.below hb9 b38.out.lt
          have o99 := o8.out.later hb9
          have hB9 := hB8.out.trans (hb9.mono hB8.out.size)
          have hBy : Bytes w9 (.slice p9 v.up.whole.bytes.length c9) v.up.whole.bytes := o9.bytes
          have hbl : ∀ g, (Value.slice p9 v.up.whole.bytes.length c9).ownBlock = some g → g < w9.heap.size := fun g hg => (o9.lt g hg).2
          obtain ⟨BL, hBL⟩ : ∃ BL, v.up.whole.bytes = BL := ⟨_, rfl⟩
          rw [hBL] at hX hBy hbl hby ⊢
          have hSeal : ∀ W, Below w9.heap.size w9 W → Calls Tryz.prog 49 #[.slice p9 BL.length c9] W (MadeB W (sealL BL)) := fun W hb => seal_calls _ BL W (hBy.later hb) (by omega)
          obtain ⟨LB, hLB⟩ : ∃ LB, BL.length = LB := ⟨_, rfl⟩
          obtain ⟨LS, hLS⟩ : ∃ LS, (sealL BL).length = LS := ⟨_, rfl⟩
          have hSeal : ∀ W, Below w9.heap.size w9 W → Calls Tryz.prog 49 #[.slice p9 LB c9] W fun e w' => ∃ p c, e = .returned (.slice p LS c) ∧ BOwn W.heap.size w' (.slice p LS c) (sealL BL) ∧ Below W.heap.size W w' := fun W hb => by have hh := hSeal W hb; unfold MadeB at hh; rw [hLB, hLS] at hh; exact hh
          rw [hLB]
          have hcv := fun W => Lib.run_convert_string_bytes (P := Tryz.prog) W 9 43 5 F Tryz.underlying9 Tryz.underlying43 Tryz.underlying5
          have hS0 : w9.cell? ⟨w.heap.size, 0, none⟩ = some (dptr D) := by rw [b19.cell]; rfl
          have b19' := Lib.hid b19
          have b29' := Lib.hid b29
          have b39' := Lib.hid b39
          have o99' := Lib.hid o99
          have hB9' := Lib.hid hB9
          have hSeal' := Lib.hid hSeal
          have hX' := Lib.hid hX
          clear b19 b29 b39 o99 hB9 hSeal hX hb9 b28 b18 b38 o8 hB8 hEn hBy hbl o9 hF
          go_wp2_with fail
          refine wp_region_w (fun w' => w'.cell? ⟨w.heap.size, 0, none⟩ = some (dptr D)) [] (.take 0 (.take 1 (.take 2 (.take 5 (.take 6 (.take 7 (.take 10 (.take 11 (.take 12 (.both 3 (.both 4 (.go 8 (.go 9 (.go 13 (.go 14 (.take 15 .done))))) 8 (.go 4 (.go 9 (.go 13 (.go 14 (.take 15 .done)))))) 8 (.go 3 (.go 4 (.go 9 (.go 13 (.go 14 (.take 15 .done))))))))))))))) ) (by kernel_rfl) (by kernel_rfl) (by kernel_rfl) (by kernel_rfl) (fun _ _ _ _ _ h => h) hS0 ?_
          repeat
            refine wpW_take (v := ?_) rfl (.inl ⟨by rfl, fun w' hS => ?_⟩) ?_
            rotate_left
            · (try dsimp only at hS); go_simp; try with_reducible rfl
            simp only [Act.put, List.setIfInBounds_toArray, List.set_cons_zero, List.set_cons_succ]
          have hFs : F.data.toList.length ≤ 100 := by
            obtain ⟨_, _, f3, f4⟩ := fname_form (n := v.next.toNat) rfl hem
            rw [hFl, f4]
            have := dec_len9 8 v.next.toNat (by omega)
            simp; omega
          have hls2 : LS ≤ 65536 := by rw [← hLS, sealL_len]; omega
          have hk0 : Hid (Below w9.heap.size w9 w9.drew) := Lib.hid (Below.refl _ _).drew
          refine wpW_both rfl rfl ?_ ?_
          · go_wp2_with fail
            refine (hSeal'.out w9.drew hk0.out).mono ?_
            rintro e u1 ⟨ps, cs_, rfl, oS, bS⟩
            have hk_u1 := Lib.hid (hk0.out.trans (bS.mono hk0.out.size))
            have hBs := Lib.hid oS.bytes
            have hOs := Lib.hid (fun g hg => oS.lt g hg)
            have bS' := Lib.hid bS
            clear bS oS
            go_wp2_with fail
            refine ⟨fun _ => by rw [(b19'.out.below hk_u1.out b19'.out.lt).cell]; rfl, ?_⟩
            refine wpW_both rfl rfl ?_ ?_
            · go_wp2_with fail
              refine (lay_calls F ps LS cs_ u1).mono ?_
              rintro e u2 ⟨rfl, x1, x2, x3, bL⟩
              have hk_u2 := Lib.hid (hk_u1.out.trans (bL.mono hk_u1.out.size))
              have x1' := Lib.hid x1
              have x2' := Lib.hid x2
              have x3' := Lib.hid x3
              have bL' := Lib.hid bL
              clear x1 x2 x3 bL
              go_wp2_with fail
              refine ⟨fun _ => by rw [(b19'.out.below hk_u2.out b19'.out.lt).cell]; rfl, ?_⟩
              refine wpW_go rfl ?_
              go_wp2_with fail
              obtain ⟨u3, h_u3⟩ : ∃ u3, Lib.bytesWorld u2 5 F = u3 := ⟨_, rfl⟩
              have bC := Lib.bytesWorld_below u2 5 F
              have hBc := str_bytes F u2
              rw [h_u3] at bC hBc ⊢
              have hk_u3 := Lib.hid (hk_u2.out.trans (bC.mono hk_u2.out.size))
              obtain ⟨cp, hcp⟩ : ∃ cp, grownCap u2 F.size 0 5 = cp := ⟨_, rfl⟩
              rw [hcp] at hBc ⊢
              have hBc' := Lib.hid hBc
              have bC' := Lib.hid bC
              have lC : u2.heap.size < u3.heap.size := by rw [← h_u3, Lib.bytesWorld_size]; omega
              clear bC hBc hcp h_u3
              refine ⟨fun _ => by rw [(b19'.out.below hk_u3.out b19'.out.lt).cell]; rfl, ?_⟩
              have y1 := x1'.out.below bC'.out x1'.out.lt
              have y2 := x2'.out.below bC'.out x2'.out.lt
              have y3 := x3'.out.below bC'.out x3'.out.lt
              have yB := (hBs.out.later bL'.out).later bC'.out
              have yC := hBc'.out
              have yO : ∀ g, (Value.slice ps LS cs_).ownBlock = some g → w9.heap.size ≤ g ∧ g < u3.heap.size := fun g hg => ⟨(hOs.out g hg).1, Nat.lt_of_lt_of_le (hOs.out g hg).2 (Nat.le_trans bL'.out.size bC'.out.size)⟩
              have yX : w9.heap.size ≤ u1.heap.size := hk_u1.out.size
              have yK : w9.heap.size ≤ u2.heap.size ∧ u2.heap.size < u3.heap.size := ⟨hk_u2.out.size, lC⟩
              obtain ⟨X1, hX1⟩ : ∃ X1, u1.heap.size = X1 := ⟨_, rfl⟩
              obtain ⟨C1, hC1⟩ : ∃ C1, u2.heap.size = C1 := ⟨_, rfl⟩
              rw [hX1] at y1 y2 y3 yX ⊢
              rw [hC1] at yC yK ⊢
              clear hX1 hC1 x1' x2' x3' hBs hBc' hOs bL' bC' lC bS' hk_u1 hk_u2
              have y1' := Lib.hid y1
              have y2' := Lib.hid y2
              have y3' := Lib.hid y3
              have yB' := Lib.hid yB
              have yC' := Lib.hid yC
              have yO' := Lib.hid yO
              clear y1 y2 y3 yB yC yO
              refine wpW_go rfl ?_
              go_wp2_with fail
              refine (lay_calls freshB (some ⟨C1, 0, none⟩) F.size cp u3).mono ?_
              rintro e u4 ⟨rfl, z1, z2, z3, bM⟩
              have hk_u4 := Lib.hid (hk_u3.out.trans (bM.mono hk_u3.out.size))
              have hYl := hk_u3.out.size
              obtain ⟨Y1, hY1⟩ : ∃ Y1, u3.heap.size = Y1 := ⟨_, rfl⟩
              have z1' := Lib.hid z1
              have z2' := Lib.hid z2
              have z3' := Lib.hid z3
              have bM' := Lib.hid bM
              clear z1 z2 z3 bM
              rw [hY1] at z1' z2' z3' hYl ⊢
              go_wp2_with fail
              refine ⟨fun _ => by rw [(b19'.out.below hk_u4.out b19'.out.lt).cell]; rfl, ?_⟩
              refine wpW_go rfl ?_
              obtain ⟨cs, hcs⟩ : ∃ cs : Array Value, #[fn0 93 #[pt X1, pt (X1 + 1), pt (X1 + 2)], fn0 45 #[pt w.heap.size], fn0 93 #[pt Y1, pt (Y1 + 1), pt (Y1 + 2)], fn0 50 #[pt w.heap.size], .func (.func 52) #[dptr D] #[]] = cs := ⟨_, rfl⟩
              obtain ⟨u5, hu5⟩ : ∃ u5, u4.alloc (.cells cs 88) = u5 := ⟨_, rfl⟩
              have bG := Blk.new u4 88 cs
              have bA := (Below.refl u4.heap.size u4).alloc (Nat.le_refl _) (.cells cs 88)
              rw [hu5] at bG bA
              have hk_u5 := Lib.hid (hk_u4.out.trans (bA.mono hk_u4.out.size))
              have hw5 := Lib.hid (hB9'.out.trans (hk_u5.out.mono hB9'.out.size))
              have b35 := bM'.out.trans (bA.mono bM'.out.size)
              have hOl : ∀ j, O j → j < w.heap.size := fun j hj => (h'.out.lt j hj).2
              have hw9 := hB9'.out.size
              have n43 := bM'.out.size
              have n54 := bA.size
              have hD5 : DAt u5 B D O r m := h'.out.later hw5.out
              have hx : LayAt u5 D O X1 (X1 + 1) (X1 + 2) F (.slice ps LS cs_) (sealL BL) :=
                ⟨y1'.out.below b35 y1'.out.lt, y2'.out.below b35 y2'.out.lt, y3'.out.below b35 y3'.out.lt, ⟨fun e => by have := hOl _ e; omega, fun e => by have := hOl _ e; omega, fun e => by have := hOl _ e; omega⟩, yB'.out.later b35, fun g hg _ => ⟨fun e => by have := hOl _ e; have := (yO'.out g hg).1; omega, by have := (yO'.out g hg).2; omega⟩, by rw [Lib.size_eq]; unfold maxLen; omega, by rw [hLS]; exact hls2⟩
              have hy : LayAt u5 D O Y1 (Y1 + 1) (Y1 + 2) freshB (.slice (some ⟨C1, 0, none⟩) F.size cp) F.data.toList :=
                ⟨z1'.out.below bA z1'.out.lt, z2'.out.below bA z2'.out.lt, z3'.out.below bA z3'.out.lt, ⟨fun e => by have := hOl _ e; omega, fun e => by have := hOl _ e; omega, fun e => by have := hOl _ e; omega⟩, yC'.out.later b35, fun g hg _ => by
                  obtain rfl : C1 = g := Option.some.inj hg
                  exact ⟨fun e => by have := hOl _ e; omega, by omega⟩, by decide, by omega⟩
              have hSt := start_steps (g := u4.heap.size) hD5 (b19'.out.below hk_u5.out b19'.out.lt) (fun e => Nat.lt_irrefl _ (hOl _ e)) hx hy (by rw [hcs]; exact bG) (fun e => by have := hOl _ e; omega) hm
              rw [hFl] at hSt
              obtain ⟨ZZ, hZZ⟩ : ∃ ZZ, startS r (fname 109 v.next.toNat) (sealL BL) = ZZ := ⟨_, rfl⟩
              rw [hZZ] at hSt
              have hX6 := hX'.out
              rw [hZZ] at hX6
              have hX6' := Lib.hid hX6
              have hSt' := Lib.hid hSt
              have n52 : w.heap.size + 2 < u5.heap.size := by have := b39'.out.lt; have := hk_u5.out.size; omega
              have hOR : ¬ O (w.heap.size + 2) := fun e => by have := hOl _ e; omega
              have hOV : ¬ O (w.heap.size + 1) := fun e => by have := hOl _ e; omega
              have b15 := Lib.hid (b19'.out.below hk_u5.out b19'.out.lt)
              have b25 := Lib.hid (b29'.out.below hk_u5.out b29'.out.lt)
              have b35_ := Lib.hid (b39'.out.below hk_u5.out b39'.out.lt)
              have o5 := Lib.hid (o99'.out.later hk_u5.out)
              have hOl' := Lib.hid hOl
              clear hX6 hSt hD5 hx hy bG bA b35 hOl n43 n54 hX' b19' b29' b39' o99' hk_u4 hk_u5 y1' y2' y3' z1' z2' z3' yB' yC' yO' bM' hk_u3 hZZ
              subst hcs
              go_wp2_with fail
              refine ⟨fun _ => by rw [b15.out.cell]; rfl, ?_⟩
              refine wpW_go rfl ?_
              go_wp2_with fail
              refine hSt'.out.mono ?_
              rintro e u6 ⟨E, rfl, hE0_, hG⟩
              have hE' := Lib.hid hE0_
              clear hE0_
              have hG' := Lib.hid hG
              have hS6 : u6.cell? ⟨w.heap.size, 0, none⟩ = some (dptr D) := by rw [(hG.blk b15.out (fun e => Nat.lt_irrefl _ (hOl'.out _ e))).cell]; rfl
              have b26 := Lib.hid (hG.blk b25.out hOV)
              have b36 := Lib.hid (hG.blk b35_.out hOR)
              have o6 : rkT.Own w.heap.size u6 (.slice p6 N c6) v.tables := by
                obtain ⟨_, _, _, hk⟩ := hG
                exact o5.out.keeps hk fun j hj e => by have h1 := (o5.out.lt j hj).1; have := hOl'.out _ e; omega
              have o6' := Lib.hid o6
              clear hG o6 hSt' b15 b25 b35_ o5
              go_wp2_with fail
              refine ⟨fun _ => hS6, ?_⟩
              refine wpW_take (v := ?_) rfl (.inl ⟨by rfl, fun w' hS => ?_⟩) ?_
              rotate_left
              · (try dsimp only at hS); go_simp; try with_reducible rfl
              simp only [Act.put, List.setIfInBounds_toArray, List.set_cons_zero, List.set_cons_succ]
              refine wpW_done ?_
              have b366 : Blk u6 (w.heap.size + 1 + 1) 30 vZero := b36.out
              have c26 := b26.out.cell
              have c36 := b36.out.cell
              have f36 := b36.out.frozen
              by_cases hE0 : E = 0
              · subst hE0
                have hX7 := hX6'.out
                rw [if_neg (by rw [← hE'.out]; simp)] at hX7
                subst hX7
                obtain ⟨W9, hW9, bW9, kW9⟩ := ver_set rfl b366 (.slice p6 N c6) (.int .u64 v.floor) (.int .u64 v.head) (.int .i64 v.log) (.int .i64 (v.next + 1))
                have hDG := Lib.hid (DGo.fin hw5.out hG'.out kW9 (by omega) n52 hOR)
                have oW : VerOwn w.heap.size W9 (.agg #[.slice p6 N c6, .int .u64 v.floor, .int .u64 v.head, .int .i64 v.log, .int .i64 (v.next + 1)]) v.up := ⟨_, rfl, o6'.out.keeps kW9 fun j hj e => o6'.out.blk_ne b36.out (by decide) (by rw [hj, e])⟩
                have oW' := Lib.hid oW
                clear oW hE' hX6' hG'
                go_wp2_with fail
                have cW9 := bW9.cell
                refine bodyPost_ret (v := .tuple #[.agg #[.slice p6 N c6, .int .u64 v.floor, .int .u64 v.head, .int .i64 v.log, .int .i64 (v.next + 1)], .int .i64 v.next, .int .i64 0]) (by simp [results, Tryz.results18, go_sem, cW9]) rfl ⟨_, rfl, oW'.out, hDG.out⟩
              · have hX7 := hX6'.out
                rw [if_pos (by rw [← hE'.out]; exact hE0)] at hX7
                rw [← hE'.out] at hX7
                subst hX7
                have tE : (E == 0) = false := by simpa using hE0
                obtain ⟨W9, hW9, bW9, kW9⟩ := ver_set rfl b366 (.slice none 0 0) (.int .u64 0) (.int .u64 0) (.int .i64 0) (.int .i64 0)
                have hDG := Lib.hid (DGo.fin hw5.out hG'.out kW9 (by omega) n52 hOR)
                clear hE' hX6' hG'
                go_wp2_with fail
                have cW9 := bW9.cell
                refine bodyPost_ret (v := .tuple #[.agg vZero, .int .i64 0, .int .i64 E]) (by simp [results, Tryz.results18, go_sem, cW9]) rfl ⟨_, rfl, VerOwn.zero _ _, hDG.out⟩
            · go_wp2_with fail
              obtain ⟨u2, h_u2⟩ : ∃ u3, Lib.bytesWorld u1 5 F = u3 := ⟨_, rfl⟩
              have bC := Lib.bytesWorld_below u1 5 F
              have hBc := str_bytes F u1
              rw [h_u2] at bC hBc ⊢
              have hk_u2 := Lib.hid (hk_u1.out.trans (bC.mono hk_u1.out.size))
              obtain ⟨cp, hcp⟩ : ∃ cp, grownCap u1 F.size 0 5 = cp := ⟨_, rfl⟩
              rw [hcp] at hBc ⊢
              have hBc' := Lib.hid hBc
              have bC' := Lib.hid bC
              have lC : u1.heap.size < u2.heap.size := by rw [← h_u2, Lib.bytesWorld_size]; omega
              clear bC hBc hcp h_u2
              refine ⟨fun _ => by rw [(b19'.out.below hk_u2.out b19'.out.lt).cell]; rfl, ?_⟩
              refine wpW_go rfl ?_
              go_wp2_with fail
              refine (lay_calls F ps LS cs_ u2).mono ?_
              rintro e u3 ⟨rfl, x1, x2, x3, bL⟩
              have hk_u3 := Lib.hid (hk_u2.out.trans (bL.mono hk_u2.out.size))
              have x1' := Lib.hid x1
              have x2' := Lib.hid x2
              have x3' := Lib.hid x3
              have bL' := Lib.hid bL
              clear x1 x2 x3 bL
              go_wp2_with fail
              refine ⟨fun _ => by rw [(b19'.out.below hk_u3.out b19'.out.lt).cell]; rfl, ?_⟩
              have y1 := x1'.out
              have y2 := x2'.out
              have y3 := x3'.out
              have yB := (hBs.out.later bC'.out).later bL'.out
              have yC := hBc'.out.later bL'.out
              have yO : ∀ g, (Value.slice ps LS cs_).ownBlock = some g → w9.heap.size ≤ g ∧ g < u3.heap.size := fun g hg => ⟨(hOs.out g hg).1, Nat.lt_of_lt_of_le (hOs.out g hg).2 (Nat.le_trans bC'.out.size bL'.out.size)⟩
              have yX : w9.heap.size ≤ u2.heap.size := hk_u2.out.size
              have yK : w9.heap.size ≤ u1.heap.size ∧ u1.heap.size < u3.heap.size := ⟨hk_u1.out.size, Nat.lt_of_lt_of_le lC bL'.out.size⟩
              obtain ⟨X1, hX1⟩ : ∃ X1, u2.heap.size = X1 := ⟨_, rfl⟩
              obtain ⟨C1, hC1⟩ : ∃ C1, u1.heap.size = C1 := ⟨_, rfl⟩
              rw [hX1] at y1 y2 y3 yX ⊢
              rw [hC1] at yC yK ⊢
              clear hX1 hC1 x1' x2' x3' hBs hBc' hOs bL' bC' lC bS' hk_u1 hk_u2
              have y1' := Lib.hid y1
              have y2' := Lib.hid y2
              have y3' := Lib.hid y3
              have yB' := Lib.hid yB
              have yC' := Lib.hid yC
              have yO' := Lib.hid yO
              clear y1 y2 y3 yB yC yO
              refine wpW_go rfl ?_
              go_wp2_with fail
              refine (lay_calls freshB (some ⟨C1, 0, none⟩) F.size cp u3).mono ?_
              rintro e u4 ⟨rfl, z1, z2, z3, bM⟩
              have hk_u4 := Lib.hid (hk_u3.out.trans (bM.mono hk_u3.out.size))
              have hYl := hk_u3.out.size
              obtain ⟨Y1, hY1⟩ : ∃ Y1, u3.heap.size = Y1 := ⟨_, rfl⟩
              have z1' := Lib.hid z1
              have z2' := Lib.hid z2
              have z3' := Lib.hid z3
              have bM' := Lib.hid bM
              clear z1 z2 z3 bM
              rw [hY1] at z1' z2' z3' hYl ⊢
              go_wp2_with fail
              refine ⟨fun _ => by rw [(b19'.out.below hk_u4.out b19'.out.lt).cell]; rfl, ?_⟩
              refine wpW_go rfl ?_
              obtain ⟨cs, hcs⟩ : ∃ cs : Array Value, #[fn0 93 #[pt X1, pt (X1 + 1), pt (X1 + 2)], fn0 45 #[pt w.heap.size], fn0 93 #[pt Y1, pt (Y1 + 1), pt (Y1 + 2)], fn0 50 #[pt w.heap.size], .func (.func 52) #[dptr D] #[]] = cs := ⟨_, rfl⟩
              obtain ⟨u5, hu5⟩ : ∃ u5, u4.alloc (.cells cs 88) = u5 := ⟨_, rfl⟩
              have bG := Blk.new u4 88 cs
              have bA := (Below.refl u4.heap.size u4).alloc (Nat.le_refl _) (.cells cs 88)
              rw [hu5] at bG bA
              have hk_u5 := Lib.hid (hk_u4.out.trans (bA.mono hk_u4.out.size))
              have hw5 := Lib.hid (hB9'.out.trans (hk_u5.out.mono hB9'.out.size))
              have b35 := bM'.out.trans (bA.mono bM'.out.size)
              have hOl : ∀ j, O j → j < w.heap.size := fun j hj => (h'.out.lt j hj).2
              have hw9 := hB9'.out.size
              have n43 := bM'.out.size
              have n54 := bA.size
              have hD5 : DAt u5 B D O r m := h'.out.later hw5.out
              have hx : LayAt u5 D O X1 (X1 + 1) (X1 + 2) F (.slice ps LS cs_) (sealL BL) :=
                ⟨y1'.out.below b35 y1'.out.lt, y2'.out.below b35 y2'.out.lt, y3'.out.below b35 y3'.out.lt, ⟨fun e => by have := hOl _ e; omega, fun e => by have := hOl _ e; omega, fun e => by have := hOl _ e; omega⟩, yB'.out.later b35, fun g hg _ => ⟨fun e => by have := hOl _ e; have := (yO'.out g hg).1; omega, by have := (yO'.out g hg).2; omega⟩, by rw [Lib.size_eq]; unfold maxLen; omega, by rw [hLS]; exact hls2⟩
              have hy : LayAt u5 D O Y1 (Y1 + 1) (Y1 + 2) freshB (.slice (some ⟨C1, 0, none⟩) F.size cp) F.data.toList :=
                ⟨z1'.out.below bA z1'.out.lt, z2'.out.below bA z2'.out.lt, z3'.out.below bA z3'.out.lt, ⟨fun e => by have := hOl _ e; omega, fun e => by have := hOl _ e; omega, fun e => by have := hOl _ e; omega⟩, yC'.out.later b35, fun g hg _ => by
                  obtain rfl : C1 = g := Option.some.inj hg
                  exact ⟨fun e => by have := hOl _ e; omega, by omega⟩, by decide, by omega⟩
              have hSt := start_steps (g := u4.heap.size) hD5 (b19'.out.below hk_u5.out b19'.out.lt) (fun e => Nat.lt_irrefl _ (hOl _ e)) hx hy (by rw [hcs]; exact bG) (fun e => by have := hOl _ e; omega) hm
              rw [hFl] at hSt
              obtain ⟨ZZ, hZZ⟩ : ∃ ZZ, startS r (fname 109 v.next.toNat) (sealL BL) = ZZ := ⟨_, rfl⟩
              rw [hZZ] at hSt
              have hX6 := hX'.out
              rw [hZZ] at hX6
              have hX6' := Lib.hid hX6
              have hSt' := Lib.hid hSt
              have n52 : w.heap.size + 2 < u5.heap.size := by have := b39'.out.lt; have := hk_u5.out.size; omega
              have hOR : ¬ O (w.heap.size + 2) := fun e => by have := hOl _ e; omega
              have hOV : ¬ O (w.heap.size + 1) := fun e => by have := hOl _ e; omega
              have b15 := Lib.hid (b19'.out.below hk_u5.out b19'.out.lt)
              have b25 := Lib.hid (b29'.out.below hk_u5.out b29'.out.lt)
              have b35_ := Lib.hid (b39'.out.below hk_u5.out b39'.out.lt)
              have o5 := Lib.hid (o99'.out.later hk_u5.out)
              have hOl' := Lib.hid hOl
              clear hX6 hSt hD5 hx hy bG bA b35 hOl n43 n54 hX' b19' b29' b39' o99' hk_u4 hk_u5 y1' y2' y3' z1' z2' z3' yB' yC' yO' bM' hk_u3 hZZ
              subst hcs
              go_wp2_with fail
              refine ⟨fun _ => by rw [b15.out.cell]; rfl, ?_⟩
              refine wpW_go rfl ?_
              go_wp2_with fail
              refine hSt'.out.mono ?_
              rintro e u6 ⟨E, rfl, hE0_, hG⟩
              have hE' := Lib.hid hE0_
              clear hE0_
              have hG' := Lib.hid hG
              have hS6 : u6.cell? ⟨w.heap.size, 0, none⟩ = some (dptr D) := by rw [(hG.blk b15.out (fun e => Nat.lt_irrefl _ (hOl'.out _ e))).cell]; rfl
              have b26 := Lib.hid (hG.blk b25.out hOV)
              have b36 := Lib.hid (hG.blk b35_.out hOR)
              have o6 : rkT.Own w.heap.size u6 (.slice p6 N c6) v.tables := by
                obtain ⟨_, _, _, hk⟩ := hG
                exact o5.out.keeps hk fun j hj e => by have h1 := (o5.out.lt j hj).1; have := hOl'.out _ e; omega
              have o6' := Lib.hid o6
              clear hG o6 hSt' b15 b25 b35_ o5
              go_wp2_with fail
              refine ⟨fun _ => hS6, ?_⟩
              refine wpW_take (v := ?_) rfl (.inl ⟨by rfl, fun w' hS => ?_⟩) ?_
              rotate_left
              · (try dsimp only at hS); go_simp; try with_reducible rfl
              simp only [Act.put, List.setIfInBounds_toArray, List.set_cons_zero, List.set_cons_succ]
              refine wpW_done ?_
              have b366 : Blk u6 (w.heap.size + 1 + 1) 30 vZero := b36.out
              have c26 := b26.out.cell
              have c36 := b36.out.cell
              have f36 := b36.out.frozen
              by_cases hE0 : E = 0
              · subst hE0
                have hX7 := hX6'.out
                rw [if_neg (by rw [← hE'.out]; simp)] at hX7
                subst hX7
                obtain ⟨W9, hW9, bW9, kW9⟩ := ver_set rfl b366 (.slice p6 N c6) (.int .u64 v.floor) (.int .u64 v.head) (.int .i64 v.log) (.int .i64 (v.next + 1))
                have hDG := Lib.hid (DGo.fin hw5.out hG'.out kW9 (by omega) n52 hOR)
                have oW : VerOwn w.heap.size W9 (.agg #[.slice p6 N c6, .int .u64 v.floor, .int .u64 v.head, .int .i64 v.log, .int .i64 (v.next + 1)]) v.up := ⟨_, rfl, o6'.out.keeps kW9 fun j hj e => o6'.out.blk_ne b36.out (by decide) (by rw [hj, e])⟩
                have oW' := Lib.hid oW
                clear oW hE' hX6' hG'
                go_wp2_with fail
                have cW9 := bW9.cell
                refine bodyPost_ret (v := .tuple #[.agg #[.slice p6 N c6, .int .u64 v.floor, .int .u64 v.head, .int .i64 v.log, .int .i64 (v.next + 1)], .int .i64 v.next, .int .i64 0]) (by simp [results, Tryz.results18, go_sem, cW9]) rfl ⟨_, rfl, oW'.out, hDG.out⟩
              · have hX7 := hX6'.out
                rw [if_pos (by rw [← hE'.out]; exact hE0)] at hX7
                rw [← hE'.out] at hX7
                subst hX7
                have tE : (E == 0) = false := by simpa using hE0
                obtain ⟨W9, hW9, bW9, kW9⟩ := ver_set rfl b366 (.slice none 0 0) (.int .u64 0) (.int .u64 0) (.int .i64 0) (.int .i64 0)
                have hDG := Lib.hid (DGo.fin hw5.out hG'.out kW9 (by omega) n52 hOR)
                clear hE' hX6' hG'
                go_wp2_with fail
                have cW9 := bW9.cell
                refine bodyPost_ret (v := .tuple #[.agg vZero, .int .i64 0, .int .i64 E]) (by simp [results, Tryz.results18, go_sem, cW9]) rfl ⟨_, rfl, VerOwn.zero _ _, hDG.out⟩
          · go_wp2_with fail
            obtain ⟨u1, h_u1⟩ : ∃ u3, Lib.bytesWorld w9.drew 5 F = u3 := ⟨_, rfl⟩
            have bC := Lib.bytesWorld_below w9.drew 5 F
            have hBc := str_bytes F w9.drew
            rw [h_u1] at bC hBc ⊢
            have hk_u1 := Lib.hid (hk0.out.trans (bC.mono hk0.out.size))
            obtain ⟨cp, hcp⟩ : ∃ cp, grownCap w9.drew F.size 0 5 = cp := ⟨_, rfl⟩
            rw [hcp] at hBc ⊢
            have hBc' := Lib.hid hBc
            have bC' := Lib.hid bC
            have lC : w9.drew.heap.size < u1.heap.size := by rw [← h_u1, Lib.bytesWorld_size]; omega
            clear bC hBc hcp h_u1
            refine ⟨fun _ => by rw [(b19'.out.below hk_u1.out b19'.out.lt).cell]; rfl, ?_⟩
            refine wpW_go rfl ?_
            go_wp2_with fail
            refine (hSeal'.out u1 hk_u1.out).mono ?_
            rintro e u2 ⟨ps, cs_, rfl, oS, bS⟩
            have hk_u2 := Lib.hid (hk_u1.out.trans (bS.mono hk_u1.out.size))
            have hBs := Lib.hid oS.bytes
            have hOs := Lib.hid (fun g hg => oS.lt g hg)
            have bS' := Lib.hid bS
            clear bS oS
            go_wp2_with fail
            refine ⟨fun _ => by rw [(b19'.out.below hk_u2.out b19'.out.lt).cell]; rfl, ?_⟩
            refine wpW_go rfl ?_
            go_wp2_with fail
            refine (lay_calls F ps LS cs_ u2).mono ?_
            rintro e u3 ⟨rfl, x1, x2, x3, bL⟩
            have hk_u3 := Lib.hid (hk_u2.out.trans (bL.mono hk_u2.out.size))
            have x1' := Lib.hid x1
            have x2' := Lib.hid x2
            have x3' := Lib.hid x3
            have bL' := Lib.hid bL
            clear x1 x2 x3 bL
            go_wp2_with fail
            refine ⟨fun _ => by rw [(b19'.out.below hk_u3.out b19'.out.lt).cell]; rfl, ?_⟩
            have y1 := x1'.out
            have y2 := x2'.out
            have y3 := x3'.out
            have yB := hBs.out.later bL'.out
            have yC := (hBc'.out.later bS'.out).later bL'.out
            have yO : ∀ g, (Value.slice ps LS cs_).ownBlock = some g → w9.heap.size ≤ g ∧ g < u3.heap.size := fun g hg => ⟨Nat.le_trans hk_u1.out.size (hOs.out g hg).1, Nat.lt_of_lt_of_le (hOs.out g hg).2 bL'.out.size⟩
            have yX : w9.heap.size ≤ u2.heap.size := hk_u2.out.size
            have yK : w9.heap.size ≤ w9.drew.heap.size ∧ w9.drew.heap.size < u3.heap.size := ⟨Nat.le_refl _, Nat.lt_of_lt_of_le lC (Nat.le_trans bS'.out.size bL'.out.size)⟩
            obtain ⟨X1, hX1⟩ : ∃ X1, u2.heap.size = X1 := ⟨_, rfl⟩
            obtain ⟨C1, hC1⟩ : ∃ C1, w9.drew.heap.size = C1 := ⟨_, rfl⟩
            rw [hX1] at y1 y2 y3 yX ⊢
            rw [hC1] at yC yK
            have hC1' : w9.heap.size = C1 := hC1
            clear hX1 hC1 x1' x2' x3' hBs hBc' hOs bL' bC' lC bS' hk_u1 hk_u2
            have y1' := Lib.hid y1
            have y2' := Lib.hid y2
            have y3' := Lib.hid y3
            have yB' := Lib.hid yB
            have yC' := Lib.hid yC
            have yO' := Lib.hid yO
            clear y1 y2 y3 yB yC yO
            refine wpW_go rfl ?_
            go_wp2_with fail
            refine (lay_calls freshB (some ⟨C1, 0, none⟩) F.size cp u3).mono ?_
            rintro e u4 ⟨rfl, z1, z2, z3, bM⟩
            have hk_u4 := Lib.hid (hk_u3.out.trans (bM.mono hk_u3.out.size))
            have hYl := hk_u3.out.size
            obtain ⟨Y1, hY1⟩ : ∃ Y1, u3.heap.size = Y1 := ⟨_, rfl⟩
            have z1' := Lib.hid z1
            have z2' := Lib.hid z2
            have z3' := Lib.hid z3
            have bM' := Lib.hid bM
            clear z1 z2 z3 bM
            rw [hY1] at z1' z2' z3' hYl ⊢
            go_wp2_with fail
            refine ⟨fun _ => by rw [(b19'.out.below hk_u4.out b19'.out.lt).cell]; rfl, ?_⟩
            refine wpW_go rfl ?_
            obtain ⟨cs, hcs⟩ : ∃ cs : Array Value, #[fn0 93 #[pt X1, pt (X1 + 1), pt (X1 + 2)], fn0 45 #[pt w.heap.size], fn0 93 #[pt Y1, pt (Y1 + 1), pt (Y1 + 2)], fn0 50 #[pt w.heap.size], .func (.func 52) #[dptr D] #[]] = cs := ⟨_, rfl⟩
            obtain ⟨u5, hu5⟩ : ∃ u5, u4.alloc (.cells cs 88) = u5 := ⟨_, rfl⟩
            have bG := Blk.new u4 88 cs
            have bA := (Below.refl u4.heap.size u4).alloc (Nat.le_refl _) (.cells cs 88)
            rw [hu5] at bG bA
            have hk_u5 := Lib.hid (hk_u4.out.trans (bA.mono hk_u4.out.size))
            have hw5 := Lib.hid (hB9'.out.trans (hk_u5.out.mono hB9'.out.size))
            have b35 := bM'.out.trans (bA.mono bM'.out.size)
            have hOl : ∀ j, O j → j < w.heap.size := fun j hj => (h'.out.lt j hj).2
            have hw9 := hB9'.out.size
            have n43 := bM'.out.size
            have n54 := bA.size
            have hD5 : DAt u5 B D O r m := h'.out.later hw5.out
            have hx : LayAt u5 D O X1 (X1 + 1) (X1 + 2) F (.slice ps LS cs_) (sealL BL) :=
              ⟨y1'.out.below b35 y1'.out.lt, y2'.out.below b35 y2'.out.lt, y3'.out.below b35 y3'.out.lt, ⟨fun e => by have := hOl _ e; omega, fun e => by have := hOl _ e; omega, fun e => by have := hOl _ e; omega⟩, yB'.out.later b35, fun g hg _ => ⟨fun e => by have := hOl _ e; have := (yO'.out g hg).1; omega, by have := (yO'.out g hg).2; omega⟩, by rw [Lib.size_eq]; unfold maxLen; omega, by rw [hLS]; exact hls2⟩
            have hy : LayAt u5 D O Y1 (Y1 + 1) (Y1 + 2) freshB (.slice (some ⟨C1, 0, none⟩) F.size cp) F.data.toList :=
              ⟨z1'.out.below bA z1'.out.lt, z2'.out.below bA z2'.out.lt, z3'.out.below bA z3'.out.lt, ⟨fun e => by have := hOl _ e; omega, fun e => by have := hOl _ e; omega, fun e => by have := hOl _ e; omega⟩, yC'.out.later b35, fun g hg _ => by
                obtain rfl : C1 = g := Option.some.inj hg
                exact ⟨fun e => by have := hOl _ e; omega, by omega⟩, by decide, by omega⟩
            have hSt := start_steps (g := u4.heap.size) hD5 (b19'.out.below hk_u5.out b19'.out.lt) (fun e => Nat.lt_irrefl _ (hOl _ e)) hx hy (by rw [hcs]; exact bG) (fun e => by have := hOl _ e; omega) hm
            rw [hFl] at hSt
            obtain ⟨ZZ, hZZ⟩ : ∃ ZZ, startS r (fname 109 v.next.toNat) (sealL BL) = ZZ := ⟨_, rfl⟩
            rw [hZZ] at hSt
            have hX6 := hX'.out
            rw [hZZ] at hX6
            have hX6' := Lib.hid hX6
            have hSt' := Lib.hid hSt
            have n52 : w.heap.size + 2 < u5.heap.size := by have := b39'.out.lt; have := hk_u5.out.size; omega
            have hOR : ¬ O (w.heap.size + 2) := fun e => by have := hOl _ e; omega
            have hOV : ¬ O (w.heap.size + 1) := fun e => by have := hOl _ e; omega
            have b15 := Lib.hid (b19'.out.below hk_u5.out b19'.out.lt)
            have b25 := Lib.hid (b29'.out.below hk_u5.out b29'.out.lt)
            have b35_ := Lib.hid (b39'.out.below hk_u5.out b39'.out.lt)
            have o5 := Lib.hid (o99'.out.later hk_u5.out)
            have hOl' := Lib.hid hOl
            clear hX6 hSt hD5 hx hy bG bA b35 hOl n43 n54 hX' b19' b29' b39' o99' hk_u4 hk_u5 y1' y2' y3' z1' z2' z3' yB' yC' yO' bM' hk_u3 hZZ
            subst hcs
            go_wp2_with fail
            refine ⟨fun _ => by rw [b15.out.cell]; rfl, ?_⟩
            refine wpW_go rfl ?_
            go_wp2_with fail
            refine hSt'.out.mono ?_
            rintro e u6 ⟨E, rfl, hE0_, hG⟩
            have hE' := Lib.hid hE0_
            clear hE0_
            have hG' := Lib.hid hG
            have hS6 : u6.cell? ⟨w.heap.size, 0, none⟩ = some (dptr D) := by rw [(hG.blk b15.out (fun e => Nat.lt_irrefl _ (hOl'.out _ e))).cell]; rfl
            have b26 := Lib.hid (hG.blk b25.out hOV)
            have b36 := Lib.hid (hG.blk b35_.out hOR)
            have o6 : rkT.Own w.heap.size u6 (.slice p6 N c6) v.tables := by
              obtain ⟨_, _, _, hk⟩ := hG
              exact o5.out.keeps hk fun j hj e => by have h1 := (o5.out.lt j hj).1; have := hOl'.out _ e; omega
            have o6' := Lib.hid o6
            clear hG o6 hSt' b15 b25 b35_ o5
            go_wp2_with fail
            refine ⟨fun _ => hS6, ?_⟩
            refine wpW_take (v := ?_) rfl (.inl ⟨by rfl, fun w' hS => ?_⟩) ?_
            rotate_left
            · (try dsimp only at hS); go_simp; try with_reducible rfl
            simp only [Act.put, List.setIfInBounds_toArray, List.set_cons_zero, List.set_cons_succ]
            refine wpW_done ?_
            have b366 : Blk u6 (w.heap.size + 1 + 1) 30 vZero := b36.out
            have c26 := b26.out.cell
            have c36 := b36.out.cell
            have f36 := b36.out.frozen
            by_cases hE0 : E = 0
            · subst hE0
              have hX7 := hX6'.out
              rw [if_neg (by rw [← hE'.out]; simp)] at hX7
              subst hX7
              obtain ⟨W9, hW9, bW9, kW9⟩ := ver_set rfl b366 (.slice p6 N c6) (.int .u64 v.floor) (.int .u64 v.head) (.int .i64 v.log) (.int .i64 (v.next + 1))
              have hDG := Lib.hid (DGo.fin hw5.out hG'.out kW9 (by omega) n52 hOR)
              have oW : VerOwn w.heap.size W9 (.agg #[.slice p6 N c6, .int .u64 v.floor, .int .u64 v.head, .int .i64 v.log, .int .i64 (v.next + 1)]) v.up := ⟨_, rfl, o6'.out.keeps kW9 fun j hj e => o6'.out.blk_ne b36.out (by decide) (by rw [hj, e])⟩
              have oW' := Lib.hid oW
              clear oW hE' hX6' hG'
              go_wp2_with fail
              have cW9 := bW9.cell
              refine bodyPost_ret (v := .tuple #[.agg #[.slice p6 N c6, .int .u64 v.floor, .int .u64 v.head, .int .i64 v.log, .int .i64 (v.next + 1)], .int .i64 v.next, .int .i64 0]) (by simp [results, Tryz.results18, go_sem, cW9]) rfl ⟨_, rfl, oW'.out, hDG.out⟩
            · have hX7 := hX6'.out
              rw [if_pos (by rw [← hE'.out]; exact hE0)] at hX7
              rw [← hE'.out] at hX7
              subst hX7
              have tE : (E == 0) = false := by simpa using hE0
              obtain ⟨W9, hW9, bW9, kW9⟩ := ver_set rfl b366 (.slice none 0 0) (.int .u64 0) (.int .u64 0) (.int .i64 0) (.int .i64 0)
              have hDG := Lib.hid (DGo.fin hw5.out hG'.out kW9 (by omega) n52 hOR)
              clear hE' hX6' hG'
              go_wp2_with fail
              have cW9 := bW9.cell
              refine bodyPost_ret (v := .tuple #[.agg vZero, .int .i64 0, .int .i64 E]) (by simp [results, Tryz.results18, go_sem, cW9]) rfl ⟨_, rfl, VerOwn.zero _ _, hDG.out⟩
end Go.Proofs.YtabcdodjkfknlaaGreatDoor
