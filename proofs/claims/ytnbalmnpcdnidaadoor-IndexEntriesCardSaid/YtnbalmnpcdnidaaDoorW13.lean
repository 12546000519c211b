/- Walks: the reference's Unkey; tuple.Unkey. -/
import Derived.Test.YtnbalmnpcdnidaaDoorW12
import Derived.Test.YtnbalmnpcdnidaaDoorW9
namespace Go.Proofs.YtnbalmnpcdnidaaDoor
open Go.RowKit
/-- the list of parts behind k cuts -/
def uC (s : ByteArray) (k : Nat) : Array Value := ((List.range 6).map fun j => if j < k then Value.string (uP s j) else Value.string ⟨#[]⟩).toArray
theorem uC_at (s : ByteArray) (k : Nat) (h : k < 6) : (uC s k)[k]? = some (.string ⟨#[]⟩) := by
  simp [uC, h]
theorem uC_set (s : ByteArray) (k : Nat) (h : k < 6) : (uC s k).setIfInBounds k (.string (uP s k)) = uC s (k + 1) := by
  rcases k with _ | _ | _ | _ | _ | _ | k <;> first | omega | rfl
theorem uC_6 (s : ByteArray) : uC s 6 = (uT s).cells := rfl
structure UkF (s : ByteArray) (w : World) (k : Nat) (wr : World) : Prop where
  res : Blk wr w.heap.size 28 #[.string ⟨#[]⟩, .string ⟨#[]⟩, .string ⟨#[]⟩, .string ⟨#[]⟩, .string ⟨#[]⟩, .string ⟨#[]⟩]
  list : Blk wr (w.heap.size + 1) 9 (uC s k)
  below : Below w.heap.size w wr
  size : w.heap.size + 1 < wr.heap.size
theorem UkF.step {s : ByteArray} {w wr w3 : World} {k : Nat} (hF : UkF s w k wr) (hb : Below wr.heap.size wr w3) (h : k < 6) : UkF s w (k + 1) (w3.setCell ⟨w.heap.size + 1, k, none⟩ (.string (uP s k))) := by
  have hz := hF.size
  refine ⟨(hF.res.below hb (by omega)).far (p := ⟨w.heap.size + 1, k, none⟩) (by simp) _, ?_, (hF.below.trans (hb.mono (by omega))).setCell (p := ⟨w.heap.size + 1, k, none⟩) (by simp) _, ?_⟩
  · rw [← uC_set s k h]; exact (hF.list.below hb (by omega)).set_ k _
  · have := hb.size; simp [World.setCell]; omega
set_option maxHeartbeats 2000000 in
set_option maxRecDepth 100000 in
theorem refUnkey_calls (s : ByteArray) (w : World) (hs : s.size ≤ maxLen) :
    Calls Tryd.prog 13 #[.string s] w fun e w' => e = .returned (uV s) ∧ Below w.heap.size w w' := by
  have start : UkF s w 0 ((w.alloc (.cells #[.string ⟨#[]⟩, .string ⟨#[]⟩, .string ⟨#[]⟩, .string ⟨#[]⟩, .string ⟨#[]⟩, .string ⟨#[]⟩] 28)).alloc (.cells #[.string ⟨#[]⟩, .string ⟨#[]⟩, .string ⟨#[]⟩, .string ⟨#[]⟩, .string ⟨#[]⟩, .string ⟨#[]⟩] 9)) := by
    refine ⟨(Blk.new w _ _).alloc _, ?_, ((Below.refl _ _).alloc (Nat.le_refl _) _).alloc (by simp) _, by simp⟩
    have h := Blk.new (w.alloc (.cells #[.string ⟨#[]⟩, .string ⟨#[]⟩, .string ⟨#[]⟩, .string ⟨#[]⟩, .string ⟨#[]⟩, .string ⟨#[]⟩] 28)) 9 #[.string ⟨#[]⟩, .string ⟨#[]⟩, .string ⟨#[]⟩, .string ⟨#[]⟩, .string ⟨#[]⟩, .string ⟨#[]⟩]
    simp only [World.size_alloc] at h
    exact h
  have hmk : ∀ w, (Instr.makeSlice 41 (.int .i64 6) (.int .i64 6)).run Tryd.prog w = .ok (.slice (some ⟨w.heap.size, 0, none⟩) 6 6) (w.alloc (.cells #[.string ⟨#[]⟩, .string ⟨#[]⟩, .string ⟨#[]⟩, .string ⟨#[]⟩, .string ⟨#[]⟩, .string ⟨#[]⟩] 9)) := fun _ => by kernel_rfl
  go_enter Tryd.func13, Tryd.ntmps13
  go_wp2_with fail
  go_loopw [5, 12] (fun r i wr => ∃ k : Nat, k ≤ 6 ∧ i = .int .i64 k ∧ r = .string (uS s k) ∧ UkF s w k wr) (fun _ i _ => 6 - (intOf i).toNat)
  case atStart => exact ⟨0, by omega, rfl, rfl, start⟩
  case round =>
    obtain ⟨k, hk, rfl, rfl, hF⟩ := hrel
    have hz := hF.size
    have hsz := Nat.le_trans (uS_le s k) hs
    by_cases hlt : k < 6
    · go_wp2_with fail
      refine (upTo_c (uS s k) 0 _ (by decide) _ hsz).mono ?_
      rintro e w3 ⟨rfl, hb3⟩
      have hL := hF.list.below hb3 (by omega)
      have h2 : w3.cell? ⟨w.heap.size + 1, k, none⟩ = some (.string ⟨#[]⟩) := (hL.cell k).trans (uC_at s k hlt)
      have h3 := hL.frozen
      have hS := hF.step hb3 hlt
      clear hL hb3 hF
      go_wp2_with fail
      go_roundw
      case rel => exact ⟨k + 1, by omega, by go_num, rfl, hS⟩
      case measure => simp [intOf]; omega
    · obtain rfl : k = 6 := by omega
      have hT := uT_fits s hs
      have hL := hF.list
      have hR := hF.res
      have B3 := hF.below
      rw [uC_6] at hL
      clear hF
      go_wp2_with fail
      refine (of_ref_calls (uT s) (w.heap.size + 1) _ hL.lt hL).mono ?_
      rintro e w4 ⟨rfl, hb4⟩
      have hz4 : w.heap.size + 1 < w4.heap.size := by have := hb4.size; omega
      have hR4 := hR.below hb4 (by omega)
      have B4 := B3.trans (hb4.mono (by omega))
      clear hb4 hR B3 hL
      go_wp2_with fail
      have hRa := hR4.alloc (.cells #[.string (uT s).a, .string (uT s).b, .string (uT s).c, .string (uT s).d, .string (uT s).e, .string (uT s).f] 28)
      have hTa := Blk.new w4 28 #[.string (uT s).a, .string (uT s).b, .string (uT s).c, .string (uT s).d, .string (uT s).e, .string (uT s).f]
      refine (refCheck_calls (uT s) _ hT).mono ?_
      rintro e w5 ⟨rfl, hb5⟩
      have hR5 := hRa.below hb5 (by simp; omega)
      have hT5 := hTa.below hb5 (by simp)
      have B5 := (B4.alloc (by omega) _).trans (hb5.mono (by simp; omega))
      have hz5 : w.heap.size + 1 < w5.heap.size := by have := hb5.size; simp at this; omega
      clear hRa hTa hb5 hR4 B4 hz4
      cases hok : (uT s).ok
      · have e : uV s = .tuple #[Tup.zero.v, .int .i64 9] := by simp [uV, uOk, hok]
        have ec : (uT s).check = 2 := by simp [Tup.check, hok]
        have r1 : ∀ i, w5.cell? ⟨w.heap.size, i, none⟩ = (#[.string ⟨#[]⟩, .string ⟨#[]⟩, .string ⟨#[]⟩, .string ⟨#[]⟩, .string ⟨#[]⟩, .string ⟨#[]⟩] : Array Value)[i]? := hR5.cell
        have r2 := hR5.frozen
        clear hR5 hT5
        go_wp2
        refine bodyPost_ret (v := .tuple #[Tup.zero.v, .int .i64 9]) (by simp [results, Tryd.results13, go_sem, r1, Tup.zero]) rfl ⟨by rw [e], ?_⟩
        exact ((((((B5.setCell (p := ⟨w.heap.size, 0, none⟩) (by simp) _).setCell (p := ⟨w.heap.size, 1, none⟩) (by simp) _).setCell (p := ⟨w.heap.size, 2, none⟩) (by simp) _).setCell (p := ⟨w.heap.size, 3, none⟩) (by simp) _).setCell (p := ⟨w.heap.size, 4, none⟩) (by simp) _).setCell (p := ⟨w.heap.size, 5, none⟩) (by simp) _)
      have ec : (uT s).check = 0 := by simp [Tup.check, hok]
      have r1 : ∀ i, w5.cell? ⟨w.heap.size, i, none⟩ = (#[.string ⟨#[]⟩, .string ⟨#[]⟩, .string ⟨#[]⟩, .string ⟨#[]⟩, .string ⟨#[]⟩, .string ⟨#[]⟩] : Array Value)[i]? := hR5.cell
      have q1 : ∀ i, w5.cell? ⟨w4.heap.size, i, none⟩ = (#[.string (uT s).a, .string (uT s).b, .string (uT s).c, .string (uT s).d, .string (uT s).e, .string (uT s).f] : Array Value)[i]? := hT5.cell
      go_wp2_with fail
      refine (refKey_calls (uT s) _ hok).mono ?_
      rintro e w6 ⟨rfl, hb6⟩
      have hR6 := hR5.below hb6 (by omega)
      have hT6 := hT5.below hb6 hT5.lt
      have B6 := B5.trans (hb6.mono (by omega))
      clear r1 q1 hb6 hR5 hT5 B5
      have r1 : ∀ i, w6.cell? ⟨w.heap.size, i, none⟩ = (#[.string ⟨#[]⟩, .string ⟨#[]⟩, .string ⟨#[]⟩, .string ⟨#[]⟩, .string ⟨#[]⟩, .string ⟨#[]⟩] : Array Value)[i]? := hR6.cell
      have r2 := hR6.frozen
      have q1 : ∀ i, w6.cell? ⟨w4.heap.size, i, none⟩ = (#[.string (uT s).a, .string (uT s).b, .string (uT s).c, .string (uT s).d, .string (uT s).e, .string (uT s).f] : Array Value)[i]? := hT6.cell
      clear hR6 hT6
      cases hp : (uT s).key.toList == s.toList
      · have e : uV s = .tuple #[Tup.zero.v, .int .i64 9] := by simp only [uV, uOk, hp]; simp
        go_wp2
        refine bodyPost_ret (v := .tuple #[Tup.zero.v, .int .i64 9]) (by simp [results, Tryd.results13, go_sem, r1, Tup.zero]) rfl ⟨by rw [e], ?_⟩
        exact ((((((B6.setCell (p := ⟨w.heap.size, 0, none⟩) (by simp) _).setCell (p := ⟨w.heap.size, 1, none⟩) (by simp) _).setCell (p := ⟨w.heap.size, 2, none⟩) (by simp) _).setCell (p := ⟨w.heap.size, 3, none⟩) (by simp) _).setCell (p := ⟨w.heap.size, 4, none⟩) (by simp) _).setCell (p := ⟨w.heap.size, 5, none⟩) (by simp) _)
      · have e : uV s = .tuple #[(uT s).v, .int .i64 0] := by simp only [uV, uOk, hp, hok]; simp
        go_wp2
        refine bodyPost_ret (v := .tuple #[(uT s).v, .int .i64 0]) (by simp [results, Tryd.results13, go_sem, r1]) rfl ⟨by rw [e], ?_⟩
        exact ((((((B6.setCell (p := ⟨w.heap.size, 0, none⟩) (by simp) _).setCell (p := ⟨w.heap.size, 1, none⟩) (by simp) _).setCell (p := ⟨w.heap.size, 2, none⟩) (by simp) _).setCell (p := ⟨w.heap.size, 3, none⟩) (by simp) _).setCell (p := ⟨w.heap.size, 4, none⟩) (by simp) _).setCell (p := ⟨w.heap.size, 5, none⟩) (by simp) _)
theorem split_calls (s : ByteArray) (c : UInt8) (m : Int) (w : World) (hs : s.size ≤ 500) (hm : w.cell? ⟨0, 0, none⟩ = some (.int .i64 m)) :
    Calls Tryd.prog 38 #[.string s, .string ⟨#[c]⟩] w fun e w' => e = .returned (.slice (some ⟨w.heap.size, 0, none⟩) (splitB1 c s).length (splitB1 c s).length) ∧ w.alloc (.cells ((splitB1 c s).map Value.string).toArray 9) = w' :=
  (Tryd.strings_Split s ⟨#[c]⟩ m w (by omega) hm (by simp [Lib.size_eq])).mono fun e w' ⟨he, hw⟩ => by
    rw [splitB1_length] at he
    rw [splitB_one] at hw
    exact ⟨he, hw.symm⟩
theorem mem_sum_le : ∀ {l : List Nat} {x : Nat}, x ∈ l → x ≤ l.sum
  | [], _, h => by cases h
  | y :: l, x, h => by
    rw [List.sum_cons]
    rcases List.mem_cons.1 h with rfl | h
    · omega
    · have := mem_sum_le h; omega
theorem splitB1_fits (s : ByteArray) (hs : s.size ≤ 500) : ∀ p ∈ splitB1 0 s, p.size ≤ 500 := by
  intro p hp
  obtain ⟨l, z, h1, h2⟩ := split1_join s.data.toList
  unfold splitB1 at hp
  rw [List.mem_map] at hp
  obtain ⟨x, hx, rfl⟩ := hp
  rw [h1] at hx
  rw [Lib.size_eq] at hs ⊢
  rw [h2, List.length_append, keyL_length] at hs
  show x.length ≤ 500
  rw [List.mem_append, List.mem_singleton] at hx
  rcases hx with hx | rfl
  · have := mem_sum_le (List.mem_map_of_mem (f := List.length) hx)
    omega
  · omega
theorem list7 {l : List ByteArray} (h : l.length = 7) : ∃ a b c d e f g, l = [a, b, c, d, e, f, g] := by
  match l, h with
  | [a, b, c, d, e, f, g], _ => exact ⟨a, b, c, d, e, f, g, rfl⟩
set_option maxHeartbeats 2000000 in
set_option maxRecDepth 100000 in
theorem unkey_calls (s : ByteArray) (m : Int) (w : World) (hs : s.size ≤ 500) (hm : w.cell? ⟨0, 0, none⟩ = some (.int .i64 m)) :
    Calls Tryd.prog 12 #[.string s] w fun e w' => e = .returned (kV s) ∧ Below w.heap.size w w' := by
  have hg : 0 < w.heap.size := World.block_lt_of_cell? w _ hm
  have hmZ : (w.alloc (.cells #[.string ⟨#[]⟩, .string ⟨#[]⟩, .string ⟨#[]⟩, .string ⟨#[]⟩, .string ⟨#[]⟩, .string ⟨#[]⟩] 28)).cell? ⟨0, 0, none⟩ = some (.int .i64 m) := (World.cell?_alloc_lt w _ ⟨0, 0, none⟩ hg).trans hm
  clear hm hg
  by_cases hn : (splitB1 0 s).length = 7
  · obtain ⟨a, b, c, d, e, f, g, hl⟩ := list7 hn
    have hfit := splitB1_fits s hs
    have hk1 : kOk s = ((Tup.mk a b c d e f).ok && g.toList.isEmpty) := by
      unfold kOk; rw [hl]; simp [six]; rw [Bool.and_comm]
    have hk2 : kV s = if ((Tup.mk a b c d e f).ok && g.toList.isEmpty) then .tuple #[(Tup.mk a b c d e f).v, .int .i64 0] else .tuple #[Tup.zero.v, .int .i64 9] := by
      unfold kV; rw [hk1, hl]; rfl
    have hT : (Tup.mk a b c d e f).fits := by
      intro p hp
      refine Nat.le_trans (hfit p ?_) (by unfold maxLen; omega)
      rw [hl]
      simp [Tup.l] at hp
      rcases hp with rfl | rfl | rfl | rfl | rfl | rfl <;> simp
    have hsp := split_calls s 0 m
    rw [hl] at hsp
    rw [hk2]
    clear hl hk1 hk2 hn hfit
    cases hge : g.toList.isEmpty
    · have e0 : ((Tup.mk a b c d e f).ok && false) = false := by simp
      rw [e0]
      go_enter Tryd.func12, Tryd.ntmps12
      go_wp2_with fail
      refine (hsp _ hs hmZ).mono ?_
      rintro e w1 ⟨rfl, rfl⟩
      go_wp2
      refine bodyPost_ret (v := .tuple #[Tup.zero.v, .int .i64 9]) (by simp [results, Tryd.results12, go_sem, Tup.zero]) rfl ⟨rfl, ((Below.refl _ _).alloc (Nat.le_refl _) _).alloc (by simp) _⟩
    · rw [Bool.and_true]
      have harr : ∀ (a : Addr) (w : World), (Instr.arrayAt 63 (.slice (some a) 6 7)).run Tryd.prog w = .ok (.pointer (some a)) w := fun _ _ => by kernel_rfl
      cases hok : (Tup.mk a b c d e f).ok
      · rw [if_neg (by simp)]
        have ec : (Tup.mk a b c d e f).check = 2 := by simp [Tup.check, hok]
        clear hok
        go_enter Tryd.func12, Tryd.ntmps12
        go_wp2_with fail
        refine (hsp _ hs hmZ).mono ?_
        rintro e w1 ⟨rfl, rfl⟩
        go_wp2_with fail
        refine (tuple_calls (Tup.mk a b c d e f) _).mono ?_
        rintro e w2 ⟨rfl, hb2⟩
        have hR2 := ((Blk.new w 28 #[.string ⟨#[]⟩, .string ⟨#[]⟩, .string ⟨#[]⟩, .string ⟨#[]⟩, .string ⟨#[]⟩, .string ⟨#[]⟩]).alloc _).below hb2 (by simp; omega)
        have B2 := (((Below.refl w.heap.size w).alloc (Nat.le_refl _) _).alloc (by simp) _).trans (hb2.mono (by simp; omega))
        have l2 : w.heap.size + 1 < w2.heap.size := by have := hb2.size; simp at this; omega
        clear hb2
        go_wp2_with fail
        have hRa := hR2.alloc (.cells #[.string a, .string b, .string c, .string d, .string e, .string f] 28)
        have hTa := Blk.new w2 28 #[.string a, .string b, .string c, .string d, .string e, .string f]
        refine (check_calls (Tup.mk a b c d e f) _ hT).mono ?_
        rintro e w5 ⟨rfl, hb5⟩
        have hR5 := hRa.below hb5 (by simp; omega)
        have hT5 := hTa.below hb5 (by simp)
        have B5 := (B2.alloc (by omega) _).trans (hb5.mono (by simp; omega))
        clear hRa hTa hb5 hR2 B2
        have r1 : ∀ i, w5.cell? ⟨w.heap.size, i, none⟩ = (#[.string ⟨#[]⟩, .string ⟨#[]⟩, .string ⟨#[]⟩, .string ⟨#[]⟩, .string ⟨#[]⟩, .string ⟨#[]⟩] : Array Value)[i]? := hR5.cell
        have r2 := hR5.frozen
        have q1 : ∀ i, w5.cell? ⟨w2.heap.size, i, none⟩ = (#[.string a, .string b, .string c, .string d, .string e, .string f] : Array Value)[i]? := hT5.cell
        clear hR5 hT5
        go_wp2
        refine bodyPost_ret (v := .tuple #[Tup.zero.v, .int .i64 9]) (by simp [results, Tryd.results12, go_sem, r1, Tup.zero]) rfl ⟨rfl, ?_⟩
        exact ((((((B5.setCell (p := ⟨w.heap.size, 0, none⟩) (by simp) _).setCell (p := ⟨w.heap.size, 1, none⟩) (by simp) _).setCell (p := ⟨w.heap.size, 2, none⟩) (by simp) _).setCell (p := ⟨w.heap.size, 3, none⟩) (by simp) _).setCell (p := ⟨w.heap.size, 4, none⟩) (by simp) _).setCell (p := ⟨w.heap.size, 5, none⟩) (by simp) _)
      · rw [if_pos rfl]
        have ec : (Tup.mk a b c d e f).check = 0 := by simp [Tup.check, hok]
        clear hok
        go_enter Tryd.func12, Tryd.ntmps12
        go_wp2_with fail
        refine (hsp _ hs hmZ).mono ?_
        rintro e w1 ⟨rfl, rfl⟩
        go_wp2_with fail
        refine (tuple_calls (Tup.mk a b c d e f) _).mono ?_
        rintro e w2 ⟨rfl, hb2⟩
        have hR2 := ((Blk.new w 28 #[.string ⟨#[]⟩, .string ⟨#[]⟩, .string ⟨#[]⟩, .string ⟨#[]⟩, .string ⟨#[]⟩, .string ⟨#[]⟩]).alloc _).below hb2 (by simp; omega)
        have B2 := (((Below.refl w.heap.size w).alloc (Nat.le_refl _) _).alloc (by simp) _).trans (hb2.mono (by simp; omega))
        have l2 : w.heap.size + 1 < w2.heap.size := by have := hb2.size; simp at this; omega
        clear hb2
        go_wp2_with fail
        have hRa := hR2.alloc (.cells #[.string a, .string b, .string c, .string d, .string e, .string f] 28)
        have hTa := Blk.new w2 28 #[.string a, .string b, .string c, .string d, .string e, .string f]
        refine (check_calls (Tup.mk a b c d e f) _ hT).mono ?_
        rintro e w5 ⟨rfl, hb5⟩
        have hR5 := hRa.below hb5 (by simp; omega)
        have hT5 := hTa.below hb5 (by simp)
        have B5 := (B2.alloc (by omega) _).trans (hb5.mono (by simp; omega))
        clear hRa hTa hb5 hR2 B2
        have r1 : ∀ i, w5.cell? ⟨w.heap.size, i, none⟩ = (#[.string ⟨#[]⟩, .string ⟨#[]⟩, .string ⟨#[]⟩, .string ⟨#[]⟩, .string ⟨#[]⟩, .string ⟨#[]⟩] : Array Value)[i]? := hR5.cell
        have r2 := hR5.frozen
        have q1 : ∀ i, w5.cell? ⟨w2.heap.size, i, none⟩ = (#[.string a, .string b, .string c, .string d, .string e, .string f] : Array Value)[i]? := hT5.cell
        clear hR5 hT5
        go_wp2
        refine bodyPost_ret (v := .tuple #[(Tup.mk a b c d e f).v, .int .i64 0]) (by simp [results, Tryd.results12, go_sem, r1]) rfl ⟨rfl, ?_⟩
        exact ((((((B5.setCell (p := ⟨w.heap.size, 0, none⟩) (by simp) _).setCell (p := ⟨w.heap.size, 1, none⟩) (by simp) _).setCell (p := ⟨w.heap.size, 2, none⟩) (by simp) _).setCell (p := ⟨w.heap.size, 3, none⟩) (by simp) _).setCell (p := ⟨w.heap.size, 4, none⟩) (by simp) _).setCell (p := ⟨w.heap.size, 5, none⟩) (by simp) _)
  · have ev : kV s = .tuple #[Tup.zero.v, .int .i64 9] := by simp [kV, kOk, hn]
    have hn' : (((splitB1 0 s).length : Int) != 7) = true := by rw [bne_iff_ne]; omega
    clear hn
    rw [ev]
    clear ev
    go_enter Tryd.func12, Tryd.ntmps12
    go_wp2_with fail
    refine (split_calls s 0 m _ hs hmZ).mono ?_
    rintro e w1 ⟨rfl, rfl⟩
    go_wp2
    refine bodyPost_ret (v := .tuple #[Tup.zero.v, .int .i64 9]) (by simp [results, Tryd.results12, go_sem, Tup.zero]) rfl ⟨rfl, ((Below.refl _ _).alloc (Nat.le_refl _) _).alloc (by simp) _⟩
end Go.Proofs.YtnbalmnpcdnidaaDoor
