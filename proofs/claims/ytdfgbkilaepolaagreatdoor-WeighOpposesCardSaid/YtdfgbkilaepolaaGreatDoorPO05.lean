/- Walks: the document's reader of conditions: is, take. Walks: the document's names and numbers of conditions; its reader's take; two. Walks: the document's reader of conditions: take; a pair. Walks: conditions: products. -/
import Derived.Test.YtdfgbkilaepolaaGreatDoorPO02
import Derived.Test.YtdfgbkilaepolaaGreatDoorPO04
import Derived.Test.YtdfgbkilaepolaaGreatDoorPO03
import Derived.Deep.LoopGhost
import Derived.Deep.RegionWith
namespace Go.Proofs.YtdfgbkilaepolaaGreatDoor
open Go.RowKit
/-- signs as they come out of a text -/
def WfS (L : Toks) : Prop := ∀ k t, L[k]? = some t → t.sort ≤ 5 ∧ (t.sort ≤ 1 → t.text = []) ∧ (2 ≤ t.sort → k + 1 < L.length)
/-- the document's reader in block g, its signs in block gs; it stands at p -/
structure Rg (w : World) (g gs : Nat) (L : Toks) (p : Nat) : Prop where
  ex : ∃ cap, Blk w g 47 #[.slice (some ⟨gs, 0, none⟩) L.length cap, .int .i64 p, .bool false, .int .i64 0] ∧ L.length ≤ cap ∧ cap ≤ maxLen
  ne : gs ≠ g
  lt : gs < w.heap.size
  sg : ∀ k t, L[k]? = some t → ∀ j u, (rkG.en t)[j]? = some u → w.cell? ⟨gs, k * 4 + j, none⟩ = some u
  wf : WfS L
  at_ : p < L.length
theorem Rg.glt {w : World} {g gs : Nat} {L : Toks} {p : Nat} (h : Rg w g gs L p) : g < w.heap.size := by obtain ⟨_, h, _⟩ := h.ex; exact h.lt
theorem Rg.keeps {S : Nat → Prop} {w w' : World} {g gs : Nat} {L : Toks} {p : Nat} (h : Rg w g gs L p) (hk : Keeps S w w') (hg : ¬ S g) (hs : ¬ S gs) : Rg w' g gs L p := by
  obtain ⟨⟨cap, h1, h2⟩, h3, h4, h5, h6, h7⟩ := h
  exact ⟨⟨cap, h1.keeps hk hg, h2⟩, h3, Nat.lt_of_lt_of_le h4 hk.size, fun k t ht j u hu => by
    have h := h5 k t ht j u hu
    unfold World.cell? at h ⊢
    simp only at h ⊢
    rw [hk.block gs h4 hs]; exact h, h6, h7⟩
theorem Rg.later {w w' : World} {g gs : Nat} {L : Toks} {p : Nat} (h : Rg w g gs L p) (hb : Below w.heap.size w w') : Rg w' g gs L p := h.keeps (S := fun _ => False) (.of_below hb) id id
theorem Rg.cells {w : World} {g gs : Nat} {L : Toks} {p : Nat} (h : Rg w g gs L p) : ∃ (t : Tok) (x : ByteArray) (cap : Nat), L[p]? = some t ∧ x.data.toList = t.text ∧ L.length ≤ cap ∧ cap ≤ maxLen ∧
    w.cell? ⟨gs, p * 4, none⟩ = some (.string x) ∧ w.cell? ⟨gs, p * 4 + 1, none⟩ = some (.int .i64 t.pos) ∧ w.cell? ⟨gs, p * 4 + 2, none⟩ = some (.bool (t.sort == 4)) ∧ w.cell? ⟨gs, p * 4 + 3, none⟩ = some (.bool (t.sort == 5)) ∧
    Blk w g 47 #[.slice (some ⟨gs, 0, none⟩) L.length cap, .int .i64 p, .bool false, .int .i64 0] := by
  obtain ⟨cap, h1, h2, h3⟩ := h.ex
  have ht := List.getElem?_eq_getElem h.at_
  have hc := h.sg p _ ht
  exact ⟨_, ⟨(L[p]'h.at_).text.toArray⟩, cap, ht, rfl, h2, h3, hc 0 _ rfl, hc 1 _ rfl, hc 2 _ rfl, hc 3 _ rfl, h1⟩
theorem Rg.drop {w : World} {g gs : Nat} {L : Toks} {p : Nat} (_ : Rg w g gs L p) {t : Tok} (ht : L[p]? = some t) : L.drop p = t :: L.drop (p + 1) := by
  obtain ⟨h1, h2⟩ := List.getElem?_eq_some_iff.1 ht
  rw [List.drop_eq_getElem_cons h1, h2]
set_option maxHeartbeats 8000000 in
set_option maxRecDepth 100000 in
theorem ris_calls {w : World} {g gs : Nat} {L : Toks} {p : Nat} (h : Rg w g gs L p) (x : ByteArray) (hx : x.data.toList ≠ []) :
    Calls Tryz.prog 47 #[.pointer (some ⟨g, 0, none⟩), .string x] w fun e w' => e = .returned (.bool (isT (L.drop p) x.data.toList)) ∧ Below w.heap.size w w' := by
  obtain ⟨t, y, cap, ht, hy, hc1, hc2, y0, y1, y2, y3, hB⟩ := h.cells
  have hwf := h.wf p t ht
  rw [h.drop ht, isT_cons]
  obtain ⟨R, hR⟩ : ∃ R, ((t.sort == 2 || t.sort == 3) && t.text == x.data.toList) = R := ⟨_, rfl⟩
  rw [hR]
  have hR' := Lib.hid hR
  have bc := hB.cell
  have lg := hB.lt
  have lgs := h.lt
  have hat := h.at_
  have hB' := Lib.hid hB
  have ati : (p : Int) < (L.length : Int) := by omega
  have at0 : (0 : Int) ≤ (p : Int) := by omega
  unfold maxLen at hc2
  have hx0 : x.toList.isEmpty = false := by
    rw [Lib.toList_data]
    cases hd : x.data.toList with
    | nil => exact absurd hd hx
    | cons a l => rfl
  have hxn : ¬ x.toList = [] := by rw [Lib.toList_data]; exact hx
  have hRv : Hid (R = (!(t.sort == 5) && (!(t.sort == 4) && (y.toList == x.toList)))) := Lib.hid (by
    rw [← hR'.out, Lib.toList_data, Lib.toList_data, hy]
    by_cases e : t.text = x.data.toList
    · have h2 : 2 ≤ t.sort := by
        refine Nat.le_of_not_lt fun hl => ?_
        rw [hwf.2.1 (by omega)] at e
        exact hx e.symm
      have h5 := hwf.1
      have h6 : t.sort = 2 ∨ t.sort = 3 ∨ t.sort = 4 ∨ t.sort = 5 := by omega
      rw [e]
      rcases h6 with h | h | h | h <;> rw [h] <;> simp
    · have e1 : (t.text == x.data.toList) = false := beq_false_of_ne e
      rw [e1]; simp)
  clear h hR hB hR' hwf hx ht hy
  generalize (t.sort == 4) = b4 at *
  generalize (t.sort == 5) = b5 at *
  cases b5
  · cases b4
    · by_cases he : y.toList = x.toList
      · have he2 : (y.toList == x.toList) = true := beq_iff_eq.2 he
        have hf : Hid (R = true) := Lib.hid (by rw [hRv.out, he2]; rfl)
        clear hRv
        have nb := (Blk.new w 50 #[.string y, .int .i64 t.pos, .bool false, .bool false]).drew
        have rb := (hB'.out.alloc (.cells #[.string y, .int .i64 t.pos, .bool false, .bool false] 50)).drew
        have eb := Lib.hid (((Below.refl w.heap.size w).alloc (Nat.le_refl _) (.cells #[.string y, .int .i64 t.pos, .bool false, .bool false] 50)).drew)
        go_enter Tryz.func47, Tryz.ntmps47
        go_wp2
        go_region
        generalize (w.alloc (Obj.cells #[.string y, .int .i64 t.pos, .bool false, .bool false] 50)).drew = W1 at *
        have nc := nb.cell
        have rc := rb.cell
        clear bc y0 y1 y2 y3 nb rb
        go_wp2_with fail
        go_ret
        exact ⟨by rw [hf.out]; rfl, eb.out⟩
      · have he2 : (y.toList == x.toList) = false := beq_false_of_ne he
        have hf : Hid (R = false) := Lib.hid (by rw [hRv.out, he2]; rfl)
        clear hRv
        have nb := (Blk.new w 50 #[.string y, .int .i64 t.pos, .bool false, .bool false]).drew
        have rb := (hB'.out.alloc (.cells #[.string y, .int .i64 t.pos, .bool false, .bool false] 50)).drew
        have eb := Lib.hid (((Below.refl w.heap.size w).alloc (Nat.le_refl _) (.cells #[.string y, .int .i64 t.pos, .bool false, .bool false] 50)).drew)
        go_enter Tryz.func47, Tryz.ntmps47
        go_wp2
        go_region
        generalize (w.alloc (Obj.cells #[.string y, .int .i64 t.pos, .bool false, .bool false] 50)).drew = W1 at *
        have nc := nb.cell
        have rc := rb.cell
        clear bc y0 y1 y2 y3 nb rb
        go_wp2_with fail
        go_ret
        exact ⟨by rw [hf.out]; rfl, eb.out⟩
    · have hf : Hid (R = false) := Lib.hid (by rw [hRv.out]; rfl)
      clear hRv
      have nb := (Blk.new w 50 #[.string y, .int .i64 t.pos, .bool true, .bool false]).drew
      have rb := (hB'.out.alloc (.cells #[.string y, .int .i64 t.pos, .bool true, .bool false] 50)).drew
      have eb := Lib.hid (((Below.refl w.heap.size w).alloc (Nat.le_refl _) (.cells #[.string y, .int .i64 t.pos, .bool true, .bool false] 50)).drew)
      go_enter Tryz.func47, Tryz.ntmps47
      go_wp2
      go_region
      generalize (w.alloc (Obj.cells #[.string y, .int .i64 t.pos, .bool true, .bool false] 50)).drew = W1 at *
      have nc := nb.cell
      have rc := rb.cell
      clear bc y0 y1 y2 y3 nb rb
      go_wp2_with fail
      go_ret
      exact ⟨by rw [hf.out]; rfl, eb.out⟩
  · have hf : Hid (R = false) := Lib.hid (by rw [hRv.out]; rfl)
    clear hRv
    have nb := (Blk.new w 50 #[.string y, .int .i64 t.pos, .bool b4, .bool true]).drew
    have rb := (hB'.out.alloc (.cells #[.string y, .int .i64 t.pos, .bool b4, .bool true] 50)).drew
    have eb := Lib.hid (((Below.refl w.heap.size w).alloc (Nat.le_refl _) (.cells #[.string y, .int .i64 t.pos, .bool b4, .bool true] 50)).drew)
    go_enter Tryz.func47, Tryz.ntmps47
    go_wp2
    go_region
    generalize (w.alloc (Obj.cells #[.string y, .int .i64 t.pos, .bool b4, .bool true] 50)).drew = W1 at *
    have nc := nb.cell
    have rc := rb.cell
    clear bc y0 y1 y2 y3 nb rb
    go_wp2_with fail
    go_ret
    exact ⟨by rw [hf.out]; rfl, eb.out⟩
end Go.Proofs.YtdfgbkilaepolaaGreatDoor
namespace Go.Proofs.YtdfgbkilaepolaaGreatDoor
open Go.RowKit
theorem isName_len (s : ByteArray) (h : s.data.toList.all nameByte = true) : isName s.data.toList = (decide (1 ≤ (s.size : Int)) && decide ((s.size : Int) ≤ 32)) := by
  unfold isName
  rw [h, Lib.size_eq]
  rw [Bool.eq_iff_iff]
  simp
  omega
set_option maxHeartbeats 400000 in
theorem refIsName_calls (s : ByteArray) (w : World) (hs : s.size ≤ maxLen) :
    Calls Tryz.prog 83 #[.string s] w fun e w' => e = .returned (.bool (isName s.data.toList)) ∧ w = w' := by
  unfold maxLen at hs
  go_enter Tryz.func83, Tryz.ntmps83
  go_wp2
  go_loop [3] (fun i => ∃ k : Nat, k ≤ s.size ∧ i = .int .i64 k ∧ (s.data.toList.take k).all nameByte = true) (fun i => s.size - (intOf i).toNat)
  case atStart => exact ⟨0, Nat.zero_le _, rfl, by simp⟩
  case round =>
    obtain ⟨k, hk, rfl, hall⟩ := hrel
    have hall' := Lib.hid hall
    clear hall
    by_cases hlt : k < s.size
    · go_wp2
      all_goals first
        | (go_round
           case rel => exact ⟨k + 1, by omega, by go_num, all_step s k hlt hall'.out (by rw [nameByte_int]; grind)⟩
           case measure => simp [intOf]; omega)
        | (go_ret
           exact ⟨ret_bool (not_all s k hlt (by rw [nameByte_int]; grind)).symm, rfl⟩)
    · have hn := isName_len s (by have h := hall'.out; rwa [List.take_of_length_le (by rw [← Lib.size_eq]; omega)] at h)
      have hn' := Lib.hid hn
      clear hn
      go_wp2
      all_goals (go_ret; refine ⟨ret_bool ?_, rfl⟩; rw [hn'.out]; grind)
set_option maxHeartbeats 2000000 in
set_option maxRecDepth 100000 in
theorem rword_calls (s : ByteArray) (w : World) (hn : wordsL.contains s.data.toList = false) :
    Calls Tryz.prog 84 #[.string s] w fun e w' => e = .returned (.bool false) ∧ Below w.heap.size w w' := by
  have hb := Blk.new w 9 #[.string ⟨#[97, 110, 100]⟩, .string ⟨#[111, 114]⟩, .string ⟨#[110, 111, 116]⟩, .string ⟨#[105, 110]⟩, .string ⟨#[116, 114, 117, 101]⟩, .string ⟨#[102, 97, 108, 115, 101]⟩]
  have hB := Lib.hid ((Below.refl w.heap.size w).alloc (Nat.le_refl _) wordsO)
  unfold wordsO at hB
  obtain ⟨W, hW⟩ : ∃ W, w.alloc (.cells #[.string ⟨#[97, 110, 100]⟩, .string ⟨#[111, 114]⟩, .string ⟨#[110, 111, 116]⟩, .string ⟨#[105, 110]⟩, .string ⟨#[116, 114, 117, 101]⟩, .string ⟨#[102, 97, 108, 115, 101]⟩] 9) = W := ⟨_, rfl⟩
  rw [hW] at hb hB
  have hne : ∀ x : List UInt8, x ∈ wordsL → (s.toList == x) = false := fun x hx => by
    apply beq_false_of_ne
    intro e
    rw [Lib.toList_data] at e
    have : wordsL.contains s.data.toList = true := by rw [e]; exact List.contains_iff_mem.2 hx
    rw [hn] at this; cases this
  have hc := hb.cell
  have lt := hb.lt
  have c0 : W.cell? ⟨w.heap.size, 0, none⟩ = some (.string ⟨#[97, 110, 100]⟩) := hc 0
  have c1 : W.cell? ⟨w.heap.size, 1, none⟩ = some (.string ⟨#[111, 114]⟩) := hc 1
  have c2 : W.cell? ⟨w.heap.size, 2, none⟩ = some (.string ⟨#[110, 111, 116]⟩) := hc 2
  have c3 : W.cell? ⟨w.heap.size, 3, none⟩ = some (.string ⟨#[105, 110]⟩) := hc 3
  have c4 : W.cell? ⟨w.heap.size, 4, none⟩ = some (.string ⟨#[116, 114, 117, 101]⟩) := hc 4
  have c5 : W.cell? ⟨w.heap.size, 5, none⟩ = some (.string ⟨#[102, 97, 108, 115, 101]⟩) := hc 5
  have n0 : (s.toList == [97, 110, 100]) = false := hne _ (by decide)
  have n1 : (s.toList == [111, 114]) = false := hne _ (by decide)
  have n2 : (s.toList == [110, 111, 116]) = false := hne _ (by decide)
  have n3 : (s.toList == [105, 110]) = false := hne _ (by decide)
  have n4 : (s.toList == [116, 114, 117, 101]) = false := hne _ (by decide)
  have n5 : (s.toList == [102, 97, 108, 115, 101]) = false := hne _ (by decide)
  clear hc hb hne hn
  go_enter Tryz.func84, Tryz.ntmps84
  go_wp2_with fail
  go_loopw [7] (fun i wr => ∃ k : Nat, i = .int .i64 k ∧ k ≤ 6 ∧ wr = W) (fun i _ => 6 - (intOf i).toNat)
  case atStart => exact ⟨0, rfl, by omega, rfl⟩
  case round =>
    obtain ⟨k, rfl, hk, rfl⟩ := hrel
    clear hW
    have hk7 : k = 0 ∨ k = 1 ∨ k = 2 ∨ k = 3 ∨ k = 4 ∨ k = 5 ∨ k = 6 := by omega
    rcases hk7 with rfl | rfl | rfl | rfl | rfl | rfl | rfl
    · go_wp2_with fail
      go_roundw
      case rel => exact ⟨1, rfl, by omega, trivial⟩
      case measure => simp [intOf]
    · go_wp2_with fail
      go_roundw
      case rel => exact ⟨2, rfl, by omega, trivial⟩
      case measure => simp [intOf]
    · go_wp2_with fail
      go_roundw
      case rel => exact ⟨3, rfl, by omega, trivial⟩
      case measure => simp [intOf]
    · go_wp2_with fail
      go_roundw
      case rel => exact ⟨4, rfl, by omega, trivial⟩
      case measure => simp [intOf]
    · go_wp2_with fail
      go_roundw
      case rel => exact ⟨5, rfl, by omega, trivial⟩
      case measure => simp [intOf]
    · go_wp2_with fail
      go_roundw
      case rel => exact ⟨6, rfl, by omega, trivial⟩
      case measure => simp [intOf]
    · go_wp2_with fail
      go_ret
      exact ⟨rfl, hB.out⟩
set_option maxHeartbeats 2000000 in
set_option maxRecDepth 100000 in
theorem rname_calls (s : ByteArray) (w : World) (hs : s.size ≤ 4096) (hn : isNameC s.data.toList = true) :
    Calls Tryz.prog 67 #[.string s] w fun e w' => e = .returned (.bool true) ∧ Below w.heap.size w w' := by
  unfold isNameC at hn
  simp only [Bool.and_eq_true, Bool.not_eq_true'] at hn
  obtain ⟨⟨⟨h1, h2⟩, h3⟩, h4⟩ := hn
  have D1 := refIsName_calls s w (by unfold maxLen; omega)
  rw [h1] at D1
  have hn1 : 1 ≤ s.size := by
    unfold isName at h1
    simp at h1
    rw [Lib.size_eq]
    have := h1.1.2
    simpa using this
  have hc0 : s.data.toList = s[0] :: s.data.toList.drop 1 := drop_at s 0 (by omega)
  have hd : isDig s[0] = false := by rw [hc0] at h2; exact h2
  have D2 := rdigit_calls s[0] w
  unfold byteV at D2
  rw [hd] at D2
  have D3 := rword_calls s w h4
  have h45 : Hid (∀ k, (h : k < s.size) → ((s[k].toNat : Int) == 45) = false) := Lib.hid fun k h => by
    apply beq_false_of_ne
    intro e
    have e2 : s[k] = 45 := by
      apply UInt8.toNat_inj.1
      show s[k].toNat = 45
      omega
    have : s.data.toList.contains 45 = true := by
      have hg : s.data.toList[k]? = some s[k] := by rw [ByteArray.getElem_eq_getElem_data]; simp
      rw [List.contains_iff_mem, ← e2]
      exact List.mem_of_getElem? hg
    rw [h3] at this; cases this
  have D1' := Lib.hid D1
  have D2' := Lib.hid D2
  have D3' := Lib.hid D3
  clear D1 D2 D3 h1 h2 h3 h4 hd hc0
  go_enter Tryz.func67, Tryz.ntmps67
  go_wp2_with fail
  refine D1'.out.mono ?_
  rintro e w' ⟨rfl, rfl⟩
  go_wp2_with fail
  refine D2'.out.mono ?_
  rintro e w' ⟨rfl, rfl⟩
  go_wp2_with fail
  refine D3'.out.mono ?_
  rintro e w3 ⟨rfl, hb3⟩
  have hb3' := Lib.hid hb3
  clear hb3 D1' D2' D3'
  go_wp2_with fail
  go_loopw [3] (fun i wr => ∃ k : Nat, i = .int .i64 k ∧ k ≤ s.size ∧ wr = w3) (fun i _ => s.size - (intOf i).toNat)
  case atStart => exact ⟨0, rfl, Nat.zero_le _, rfl⟩
  case round =>
    obtain ⟨k, rfl, hk, rfl⟩ := hrel
    by_cases hlt : k < s.size
    · have e45 := h45.out k hlt
      have hi : (k : Int) < (s.size : Int) := by omega
      go_wp2_with fail
      go_roundw
      case rel => exact ⟨k + 1, by go_num, by omega, trivial⟩
      case measure => simp [intOf]; omega
    · go_wp2_with fail
      go_ret
      exact ⟨rfl, hb3'.out⟩
set_option maxHeartbeats 2000000 in
set_option maxRecDepth 100000 in
theorem rnumber_calls (s : ByteArray) (d : UInt8) (w : World) (hs : s.data.toList = [d]) (hd : isDig d = true) :
    Calls Tryz.prog 150 #[.string s] w fun e w' => e = .returned (.tuple #[.int .i64 ((d.toNat : Int) - 48), .bool true]) ∧ w = w' := by
  have hz : s.size = 1 := by rw [Lib.size_eq, hs]; rfl
  have h0 : s[0]'(by omega) = d := by
    have h : s.data.toList[0]? = some (s[0]'(by omega)) := by rw [ByteArray.getElem_eq_getElem_data]; simp
    rw [hs] at h
    exact (Option.some.inj h).symm
  obtain ⟨a1, a2⟩ := (isDig_nat d).1 hd
  go_enter Tryz.func150, Tryz.ntmps150
  go_wp2_with fail
  go_loopw [4, 5] (fun nv iv wr => wr = w ∧ ((nv = .int .i64 0 ∧ iv = .int .i64 0) ∨ (nv = .int .i64 ((d.toNat : Int) - 48) ∧ iv = .int .i64 1))) (fun _ iv _ => 1 - (intOf iv).toNat)
  case atStart => exact ⟨rfl, .inl ⟨rfl, rfl⟩⟩
  case round =>
    obtain ⟨rfl, ⟨rfl, rfl⟩ | ⟨rfl, rfl⟩⟩ := hrel
    · go_wp2_with fail
      go_roundw
      case rel => exact ⟨trivial, .inr ⟨by go_num, rfl⟩⟩
      case measure => simp [intOf]
    · go_wp2_with fail
      go_ret2
      refine ⟨?_, rfl⟩
      show Ending.returned (.tuple #[.int .i64 ((d.toNat : Int) - 48), .bool (decide ((d.toNat : Int) - 48 ≤ 1000000000000000))]) = _
      rw [decide_eq_true (show (d.toNat : Int) - 48 ≤ 1000000000000000 by omega)]
end Go.Proofs.YtdfgbkilaepolaaGreatDoor
namespace Go.Proofs.YtdfgbkilaepolaaGreatDoor
open Go.RowKit
/-- the document's reader, and what is left -/
def RgL (w : World) (g gs : Nat) (L l : Toks) : Prop := ∃ p, l = L.drop p ∧ Rg w g gs L p
theorem RgL.keeps {S : Nat → Prop} {w w' : World} {g gs : Nat} {L l : Toks} (h : RgL w g gs L l) (hk : Keeps S w w') (hg : ¬ S g) (hs : ¬ S gs) : RgL w' g gs L l := by
  obtain ⟨p, e, h⟩ := h; exact ⟨p, e, h.keeps hk hg hs⟩
theorem RgL.later {w w' : World} {g gs : Nat} {L l : Toks} (h : RgL w g gs L l) (hb : Below w.heap.size w w') : RgL w' g gs L l := by
  obtain ⟨p, e, h⟩ := h; exact ⟨p, e, h.later hb⟩
theorem RgL.lt {w : World} {g gs : Nat} {L l : Toks} (h : RgL w g gs L l) : g < w.heap.size := by obtain ⟨p, e, h⟩ := h; exact h.glt
theorem RgL.slt {w : World} {g gs : Nat} {L l : Toks} (h : RgL w g gs L l) : gs < w.heap.size := by obtain ⟨p, e, h⟩ := h; exact h.lt
theorem RgL.ne {w : World} {g gs : Nat} {L l : Toks} (h : RgL w g gs L l) : gs ≠ g := by obtain ⟨p, e, h⟩ := h; exact h.ne
set_option maxHeartbeats 2000000 in
theorem rtake_no {w : World} {g gs : Nat} {L l : Toks} (x : ByteArray) (h : RgL w g gs L l) (hx : x.data.toList ≠ []) (hn : isT l x.data.toList = false) :
    Calls Tryz.prog 24 #[.pointer (some ⟨g, 0, none⟩), .string x] w fun e w' => e = .returned (.bool false) ∧ Below w.heap.size w w' := by
  obtain ⟨p, rfl, h⟩ := h
  have D := ris_calls h x hx
  rw [hn] at D
  have D' := Lib.hid D
  clear D h hn hx
  go_enter Tryz.func24, Tryz.ntmps24
  go_wp2_with fail
  refine D'.out.mono ?_
  rintro e w1 ⟨rfl, hb⟩
  have hb' := Lib.hid hb
  clear hb
  go_wp2_with fail
  go_ret
  exact ⟨rfl, hb'.out⟩
set_option maxHeartbeats 2000000 in
theorem rtake_yes {w : World} {g gs : Nat} {L l : Toks} (x : ByteArray) (h : RgL w g gs L l) (hx : x.data.toList ≠ []) (hn : isT l x.data.toList = true) :
    Calls Tryz.prog 24 #[.pointer (some ⟨g, 0, none⟩), .string x] w fun e w' => e = .returned (.bool true) ∧ RgL w' g gs L l.tail ∧ Keeps (fun j => j = g) w w' := by
  obtain ⟨p, rfl, h⟩ := h
  have D := ris_calls h x hx
  rw [hn] at D
  have D' := Lib.hid D
  obtain ⟨t, y, cap, ht, hy, hc1, hc2, -, -, -, -, hB⟩ := h.cells
  have h2 : 2 ≤ t.sort := by
    rw [h.drop ht, isT_cons] at hn
    simp only [Bool.and_eq_true, Bool.or_eq_true, beq_iff_eq] at hn
    rcases hn.1 with h | h <;> omega
  have hn1 := (h.wf p t ht).2.2 h2
  have htl : (L.drop p).tail = L.drop (p + 1) := by rw [h.drop ht]; rfl
  have h' := Lib.hid h
  have hB' := Lib.hid hB
  have hlen : (p : Int) + 1 < 9223372036854775808 := by unfold maxLen at hc2; omega
  rw [htl]
  clear D h hn hx hB ht hy h2 htl hc1 hc2
  go_enter Tryz.func24, Tryz.ntmps24
  go_wp2_with fail
  refine D'.out.mono ?_
  rintro e w1 ⟨rfl, hb⟩
  have hb' := Lib.hid hb
  have hB1 := hB'.out.below hb hB'.out.lt
  have h1 := Lib.hid (h'.out.later hb)
  have bc := hB1.cell
  have bf := hB1.frozen
  have hs := Lib.hid (hB1.set_ 1 (.int .i64 ((p : Int) + 1)))
  clear hb D'
  go_wp2_with fail
  go_ret
  have k1 : Keeps (fun j => j = g) w1 (w1.setCell ⟨g, 1, none⟩ (.int .i64 ((p : Int) + 1))) := (Keeps.refl (fun j => j = g) w1).setCell (p := ⟨g, 1, none⟩) (.inl rfl) _
  refine ⟨rfl, ⟨p + 1, rfl, ?_⟩, (Keeps.of_below hb'.out).trans k1⟩
  obtain ⟨⟨cap2, g1, g2⟩, g3, g4, g5, g6, g7⟩ := h1.out
  refine ⟨⟨cap, hs.out, ?_⟩, g3, Nat.lt_of_lt_of_le g4 k1.size, fun k t ht j u hu => ?_, g6, hn1⟩
  · obtain ⟨cap3, q1, q2, q3⟩ := h'.out.ex
    have : cap3 = cap := by
      have a1 := q1.cell 0
      have a2 := hB'.out.cell 0
      rw [a1] at a2
      have := Option.some.inj a2
      injection this
    rw [← this]; exact ⟨q2, q3⟩
  · have hh := g5 k t ht j u hu
    unfold World.cell? at hh ⊢
    simp only at hh ⊢
    rw [k1.block gs g4 g3]; exact hh
set_option maxHeartbeats 2000000 in
theorem rtwo_calls (P : Nat → Prop) (k : Int) (a b : CT) (ca cb : List Value) (w : World) (ha : CAt P w ca a) (hb : CAt P w cb b) :
    Calls Tryz.prog 90 #[.int .i64 k, .agg ca.toArray, .agg cb.toArray] w fun e w' => ∃ cs, e = .returned (.agg cs.toArray) ∧ CAt (fun j => P j ∨ w.heap.size ≤ j) w' cs (pairC k a b) ∧ Below w.heap.size w w' := by
  have hps : PartsAt P w (ca ++ cb) [a, b] := PartsAt.app ha.one hb.one
  have hps' := Lib.hid hps
  clear hps
  obtain ⟨pa, na, xa, rfl, hna⟩ := ha.form
  obtain ⟨pb, nb, xb, rfl, hnb⟩ := hb.form
  clear ha hb
  unfold strV at *
  go_enter Tryz.func90, Tryz.ntmps90
  go_wp2_with fail
  subst hna hnb
  generalize hA : Obj.cells #[Value.int .i64 a.kind, .int .i64 a.num, .string ⟨a.str.toArray⟩, .slice pa a.parts.length xa] 28 = A
  generalize hB : Obj.cells #[Value.int .i64 b.kind, .int .i64 b.num, .string ⟨b.str.toArray⟩, .slice pb b.parts.length xb] 28 = B
  have hk : Keeps (fun _ => False) w ((w.alloc A).alloc B) := ((Keeps.refl _ w).alloc A).alloc B
  have hsz : ((w.alloc A).alloc B).heap.size = w.heap.size + 1 + 1 := by rw [alloc_size, alloc_size]
  generalize (w.alloc A).alloc B = W2 at *
  have hr := Blk.new W2 28 #[.int .i64 k, .int .i64 0, .string ⟨#[]⟩, .slice (some ⟨w.heap.size + 1 + 1 + 1, 0, none⟩) 2 2]
  have hk3 := hk.alloc (.cells #[.int .i64 k, .int .i64 0, .string ⟨#[]⟩, .slice (some ⟨w.heap.size + 1 + 1 + 1, 0, none⟩) 2 2] 28)
  have hsz3 := alloc_size W2 (.cells #[.int .i64 k, .int .i64 0, .string ⟨#[]⟩, .slice (some ⟨w.heap.size + 1 + 1 + 1, 0, none⟩) 2 2] 28)
  rw [hsz] at hr hsz3
  generalize W2.alloc (.cells #[.int .i64 k, .int .i64 0, .string ⟨#[]⟩, .slice (some ⟨w.heap.size + 1 + 1 + 1, 0, none⟩) 2 2] 28) = W3 at *
  have hD := Blk.new W3 28 #[Value.int .i64 a.kind, .int .i64 a.num, .string ⟨a.str.toArray⟩, .slice pa a.parts.length xa, .int .i64 b.kind, .int .i64 b.num, .string ⟨b.str.toArray⟩, .slice pb b.parts.length xb]
  have hr4 := hr.alloc (.cells #[Value.int .i64 a.kind, .int .i64 a.num, .string ⟨a.str.toArray⟩, .slice pa a.parts.length xa, .int .i64 b.kind, .int .i64 b.num, .string ⟨b.str.toArray⟩, .slice pb b.parts.length xb] 28)
  have hk4 := hk3.alloc (.cells #[Value.int .i64 a.kind, .int .i64 a.num, .string ⟨a.str.toArray⟩, .slice pa a.parts.length xa, .int .i64 b.kind, .int .i64 b.num, .string ⟨b.str.toArray⟩, .slice pb b.parts.length xb] 28)
  rw [hsz3] at hD
  generalize W3.alloc (.cells #[Value.int .i64 a.kind, .int .i64 a.num, .string ⟨a.str.toArray⟩, .slice pa a.parts.length xa, .int .i64 b.kind, .int .i64 b.num, .string ⟨b.str.toArray⟩, .slice pb b.parts.length xb] 28) = W4 at *
  have c5 := hr4.cell
  refine bodyPost_ret (v := .agg #[.int .i64 k, .int .i64 0, .string ⟨#[]⟩, .slice (some ⟨w.heap.size + 1 + 1 + 1, 0, none⟩) 2 2]) (by simp [results, Tryz.results90, go_sem, c5]) rfl ?_
  exact ⟨_, rfl, CAt.row (ps := [a, b]) hD (by omega) hps'.out hk4 k 0 [], hk4.below (fun _ _ e => e.elim) (Nat.le_refl _)⟩
end Go.Proofs.YtdfgbkilaepolaaGreatDoor
namespace Go.Proofs.YtdfgbkilaepolaaGreatDoor
open Go.RowKit
/-- a condition that a variable holds: its cells lie in block A, its parts elsewhere -/
structure Var (w0 : World) (A : Nat) (w : World) (a : CT) : Prop where
  blk : ∃ ca : List Value, Blk w A 28 ca.toArray ∧ CAt (fun j => w0.heap.size < j ∧ j ≠ A) w ca a
  lt : w0.heap.size < A
theorem Var.new {w0 w2 : World} {c : CT} {cs : List Value} (hC : CAt (fun j => w0.heap.size < j) w2 cs c) (h : w0.heap.size < w2.heap.size) : Var w0 w2.heap.size (w2.alloc (.cells cs.toArray 28)) c :=
  ⟨⟨cs, Blk.new _ _ _, (hC.mono (Q := fun j => w0.heap.size < j ∧ j ≠ w2.heap.size) fun j hj hl => ⟨hj, by omega⟩).later ((Below.refl w2.heap.size w2).alloc (Nat.le_refl _) _)⟩, h⟩
theorem Var.keeps {w0 w w' : World} {A : Nat} {a : CT} {S : Nat → Prop} (h : Var w0 A w a) (hk : Keeps S w w') (hs : ∀ j, w0.heap.size < j → ¬ S j) : Var w0 A w' a := by
  obtain ⟨ca, h1, h2⟩ := h.blk
  exact ⟨⟨ca, h1.keeps hk (hs A h.lt), h2.keeps hk fun j hj _ => hs j hj.1⟩, h.lt⟩
theorem Var.open_ {w0 w : World} {A : Nat} {a : CT} (h : Var w0 A w a) : ∃ (Q : ByteArray) (p : Option Addr) (n c : Nat), Blk w A 28 #[.int .i64 a.kind, .int .i64 a.num, .string Q, .slice p n c] ∧ CAt (fun j => w0.heap.size < j ∧ j ≠ A) w [.int .i64 a.kind, .int .i64 a.num, .string Q, .slice p n c] a := by
  obtain ⟨ca, h1, h2⟩ := h.blk
  obtain ⟨p, n, c, rfl, _⟩ := h2.form
  exact ⟨⟨a.str.toArray⟩, p, n, c, h1, h2⟩
theorem CAt.open_ {P : Nat → Prop} {w : World} {cs : List Value} {r : CT} (h : CAt P w cs r) : ∃ (Q : ByteArray) (p : Option Addr) (n c : Nat), cs = [.int .i64 r.kind, .int .i64 r.num, .string Q, .slice p n c] := by
  obtain ⟨p, n, c, rfl, _⟩ := h.form
  exact ⟨⟨r.str.toArray⟩, p, n, c, rfl⟩
/-- what stands at the head of a round of products -/
def TimesI (U : Toks → Res) (w : World) (g A : Nat) (s : ByteArray) (l : Toks) (deep : Int) (k : Nat) (wr : World) : Prop :=
  ∃ a m d b, Var w A wr a ∧ Rd wr g s m d b ∧ Keeps (fun j => j = g) w wr ∧ Blk wr w.heap.size 28 condZ ∧ m.length ≤ k ∧ m.length ≤ l.length ∧ a.parts.length + m.length ≤ l.length + 1 ∧
    ((b = false ∧ d = deep ∧ ∃ n, m.length < n ∧ timesL U n a m = gTimes U l) ∨ (b = true ∧ gTimes U l = .error (posT m)))
theorem timesL_no {U : Toks → Res} {n : Nat} {a : CT} {m : Toks} (hn : m.length < n) (h : isT m [42] = false) : timesL U n a m = .ok (a, m) := by
  obtain ⟨n, rfl⟩ : ∃ k, n = k + 1 := ⟨n - 1, by omega⟩
  unfold timesL
  rw [if_neg (by rw [h]; decide)]
theorem timesL_yes {U : Toks → Res} {n : Nat} {a : CT} {m : Toks} (h : isT m [42] = true) : timesL U (n + 1) a m = match U m.tail with
      | .error e => .error e
      | .ok (b, m) => timesL U n (pairC 14 a b) m := by
  conv => lhs; unfold timesL
  rw [if_pos h]
  cases U m.tail <;> rfl
theorem isT_len {m : Toks} {x : List UInt8} (h : isT m x = true) : m.tail.length < m.length := by
  obtain ⟨t, r, rfl, _⟩ := isT_text h
  simp
set_option maxHeartbeats 4000000 in
set_option maxRecDepth 100000 in
theorem times_calls {w : World} {g : Nat} {s : ByteArray} {l : Toks} {deep : Int} (U : Toks → Res) (h : Rd w g s l deep false)
    (hU : ∀ m w, Rd w g s m deep false → Calls Tryz.prog 171 #[.pointer (some ⟨g, 0, none⟩)] w (Told U w g s m deep)) :
    Calls Tryz.prog 167 #[.pointer (some ⟨g, 0, none⟩)] w (Told (gTimes U) w g s l deep) := by
  have hgl := h.lt
  have h5 := h.b5
  have hB := Lib.hid (Blk.new w 28 condZ)
  have hz0 := alloc_size w (.cells condZ 28)
  have h1 := Lib.hid (h.alloc (.cells condZ 28))
  have k1 := Lib.hid ((Keeps.refl (fun j => j = g) w).alloc (.cells condZ 28))
  have hU' := Lib.hid hU
  have hz0' := Lib.hid hz0
  clear hU h hz0
  go_enter Tryz.func167, Tryz.ntmps167
  go_wp2_with fail
  refine (hU'.out l _ h1.out).mono ?_
  rintro e w2 ⟨cs, c, m, d, b, rfl, hC, hR2, k2, hm1, hm2, hcase⟩
  have hB2 := Lib.hid (hB.out.keeps k2 (Nat.ne_of_gt hgl))
  have hK2 := Lib.hid (k1.out.trans k2)
  have hC2 := Lib.hid (hC.mono (Q := fun j => w.heap.size < j) fun j hj _ => by rw [hz0'.out] at hj; exact hj)
  have hR2' := Lib.hid hR2
  have hcase' := Lib.hid hcase
  clear hC k2 hR2 hcase
  obtain ⟨Q, pp, nn, cc, rfl⟩ := hC2.out.open_
  have hA : w.heap.size < w2.heap.size := hB2.out.lt
  have hV := Lib.hid (Var.new hC2.out hA)
  have hR3 := Lib.hid (hR2'.out.alloc (.cells #[.int .i64 c.kind, .int .i64 c.num, .string Q, .slice pp nn cc] 28))
  have hB3 := Lib.hid (hB2.out.alloc (.cells #[.int .i64 c.kind, .int .i64 c.num, .string Q, .slice pp nn cc] 28))
  have hK3 := Lib.hid (hK2.out.alloc (.cells #[.int .i64 c.kind, .int .i64 c.num, .string Q, .slice pp nn cc] 28))
  obtain ⟨w3, e3⟩ : ∃ w3, w2.alloc (.cells #[.int .i64 c.kind, .int .i64 c.num, .string Q, .slice pp nn cc] 28) = w3 := ⟨_, rfl⟩
  obtain ⟨A, eA⟩ : ∃ A, w2.heap.size = A := ⟨_, rfl⟩
  have hA2 : w.heap.size < A := by omega
  have hV : Hid (Var w A w3 c) := by
    rw [← e3, ← eA]; exact hV
  rw [e3] at hR3 hB3 hK3
  clear hB2 hK2 hC2 hR2' hB h1 k1 hA
  go_wp2_with fail
  clear e3 eA
  go_loopg [6] (m.length) (fun k _ wr => TimesI U w g A s l deep k wr)
  case atStart =>
    refine ⟨c, m, d, b, hV.out, hR3.out, hK3.out, hB3.out, Nat.le_refl _, hm1, hm2, ?_⟩
    rcases hcase'.out with ⟨h1, h2, h3⟩ | ⟨h1, h2⟩
    · refine .inl ⟨h1, h2, m.length + 1, Nat.lt_succ_self _, ?_⟩
      show _ = (match U l with | .error e => _ | .ok (a, m) => _)
      rw [h3]
    · refine .inr ⟨h1, ?_⟩
      show (match U l with | .error e => _ | .ok (a, m) => _) = _
      rw [h2]
  case round =>
    clear hm1 hm2 hcase' hV hR3 hB3 hK3
    obtain ⟨a, m, d, b, hV, hR, hK, hB, hk, hml, hmp, hcase⟩ := hrel
    obtain ⟨Q, pp, nn, cc, hV1, hV2⟩ := hV.open_
    have hV' := Lib.hid hV
    have hR' := Lib.hid hR
    have hK' := Lib.hid hK
    have hB' := Lib.hid hB
    have hV2' := Lib.hid hV2
    have hV1' := Lib.hid hV1
    have a0 := Blk.cell hV1
    have af := Blk.frozen hV1
    have b0 := Blk.cell hB
    have bf := Blk.frozen hB
    unfold condZ at b0
    clear hV hR hK hV1 hV2 hB
    by_cases ht : b = false ∧ isT m [42] = true
    · obtain ⟨rfl, ht⟩ := ht
      obtain ⟨rfl, n, hn, hG⟩ : d = deep ∧ ∃ n, m.length < n ∧ timesL U n a m = gTimes U l := by
        rcases hcase with ⟨_, e, h⟩ | ⟨e, _⟩
        · exact ⟨e, h⟩
        · cases e
      have hG' := Lib.hid hG
      have D := Lib.hid (take_yes ⟨#[42]⟩ hR'.out ht)
      have ht' := Lib.hid ht
      clear hG hcase ht
      go_wp2_with fail
      refine D.out.mono ?_
      rintro e w5 ⟨rfl, hR5, k5⟩
      have hV5 := Lib.hid (hV2'.out.keeps k5 fun j hj _ e => by omega)
      have hA5 := hV1'.out.keeps k5 (by omega)
      have a5 := Blk.cell hA5
      have af5 := Blk.frozen hA5
      have hK5 := Lib.hid (hK'.out.trans k5)
      have hB5 := Lib.hid (hB'.out.keeps k5 (Nat.ne_of_gt hgl))
      have hR5' := Lib.hid hR5
      clear a0 af b0 bf D hR5 k5
      have hR6 : Hid (Rd w5.drew g s m.tail d false) := Lib.hid (hR5'.out.same ((Keeps.refl _ w5).drew))
      have hA6 := Lib.hid hA5.drew
      have hV6 := Lib.hid (hV5.out.keeps (S := fun _ => False) ((Keeps.refl _ w5).drew) fun _ _ _ => id)
      have hB6 := Lib.hid hB5.out.drew
      have hK6 := Lib.hid hK5.out.drew
      clear hR5' hA5 hV5 hB5 hK5
      go_wp2_with fail
      go_region_with (first | ((go_at_call 171); (with_reducible refine (hU'.out m.tail _ hR6.out).mono ?_); (rintro e w7 ⟨cs, c7, m', d', b', rfl, hC, hR7, k7, hm1, hm2, hcase⟩); (obtain ⟨Q2, p2, n2, c2, rfl⟩ := hC.open_); (have hA7 := hA6.out.keeps k7 (by omega)); (have hV7 := Lib.hid (hV6.out.keeps k7 fun j hj _ e => by omega)); (have hB7 := Lib.hid (hB6.out.keeps k7 (Nat.ne_of_gt hgl))); (have hK7 := Lib.hid (hK6.out.trans k7)); (have hC7 := Lib.hid (hC.mono (Q := fun j => w.heap.size < j ∧ j ≠ A) fun j hj _ => ⟨by have := hA6.out.lt; omega, by have := hA6.out.lt; omega⟩)); (have hR7' := Lib.hid hR7); (have hcase' := Lib.hid hcase); (have a7 := Blk.cell hA7); (have af7 := Blk.frozen hA7); (clear hC hR7 k7 hcase)) | ((go_at_call 162); (with_reducible refine (pair_calls (fun j => w.heap.size < j ∧ j ≠ A) 14 a c7 _ _ w7 hV7.out hC7.out).mono ?_); (rintro e w8 ⟨cs8, rfl, hC8, hb8⟩); (obtain ⟨Q8, p8, n8, c8, rfl⟩ := hC8.open_); (have hA8 := hA7.below hb8 hA7.lt); (have a8 := Blk.cell hA8); (have af8 := Blk.frozen hA8)))
      all_goals
        have hA7l := hA7.lt
        have k8 := Keeps.of_below (S := fun _ => False) hb8
        have hm3 := isT_len ht'.out
        obtain ⟨W, eW, hBW, hRW, hKW⟩ := put_cond rfl hA8 (hR7'.out.same k8) (Nat.ne_of_lt (by omega)) (Nat.ne_of_lt (by omega)) (.int .i64 (pairC 14 a c7).kind) (.int .i64 (pairC 14 a c7).num) (.string Q8) (.slice p8 n8 c8)
        have hVW : Hid (Var w A W (pairC 14 a c7)) := Lib.hid ⟨⟨_, hBW, (hC8.mono (Q := fun j => w.heap.size < j ∧ j ≠ A) fun j hj _ => by rcases hj with h | h <;> omega).keeps hKW fun j hj _ e => hj.2 e⟩, hA2⟩
        have hBW2 := Lib.hid ((hB7.out.keeps k8 id).keeps hKW (by omega))
        have hKW2 := Lib.hid ((hK7.out.step k8 fun _ e => e.elim).step hKW (fun j e => .inr (by omega)))
        have hRW' := Lib.hid hRW
        rw [eW]
        clear hKW hBW eW hC8 hb8 hA8 a8 af8 hRW a7 af7 hA7 k8
        go_wp2_with fail
        go_roundg (m'.length)
        case measure => omega
        case rel =>
          refine ⟨pairC 14 a c7, m', d', b', hVW.out, hRW'.out, hKW2.out, hBW2.out, Nat.le_refl _, by omega, ?_, ?_⟩
          · show 2 + m'.length ≤ _
            omega
          · obtain ⟨n, rfl⟩ : ∃ k, n = k + 1 := ⟨n - 1, by omega⟩
            have hG2 := hG'.out
            rw [timesL_yes ht'.out] at hG2
            rcases hcase'.out with ⟨h1, h2, h3⟩ | ⟨h1, h2⟩
            · rw [h3] at hG2
              exact .inl ⟨h1, h2, n, by omega, hG2⟩
            · rw [h2] at hG2
              exact .inr ⟨h1, hG2.symm⟩
    · have D := Lib.hid (take_no (bad := b) ⟨#[42]⟩ hR'.out (by
        cases b with
        | true => exact .inl rfl
        | false => exact .inr (Bool.eq_false_iff.2 fun e => ht ⟨rfl, e⟩)))
      have hcase' := Lib.hid hcase
      have ht' := Lib.hid ht
      clear hcase ht
      go_wp2_with fail
      refine D.out.mono ?_
      rintro e w' ⟨rfl, rfl⟩
      go_wp2_with fail
      obtain ⟨W, eW, hBW, hRW, hKW⟩ := put_cond rfl hB'.out hR'.out (Nat.ne_of_lt hgl) (Nat.ne_of_lt h5) (.int .i64 a.kind) (.int .i64 a.num) (.string Q) (.slice pp nn cc)
      rw [eW]
      have c5 := hBW.cell
      refine bodyPost_ret (v := .agg #[.int .i64 a.kind, .int .i64 a.num, .string Q, .slice pp nn cc]) (by simp [results, Tryz.results167, go_sem, c5]) rfl ?_
      refine ⟨_, a, m, d, b, rfl, (hV2'.out.keeps hKW fun j hj _ e => by omega).mono fun j hj _ => Nat.le_of_lt hj.1, hRW, hK'.out.step hKW (fun j e => .inr (by omega)), hml, hmp, ?_⟩
      rcases hcase'.out with ⟨h1, h2, n, hn, hG⟩ | h
      · refine .inl ⟨h1, h2, ?_⟩
        rw [← hG]
        exact timesL_no hn (Bool.eq_false_iff.2 fun e => ht'.out ⟨h1, e⟩)
      · exact .inr h
end Go.Proofs.YtdfgbkilaepolaaGreatDoor
