/- Walks: index.Tuple. -/
import Derived.Test.YtnbalmnpcdnidaaDoorW14
namespace Go.Proofs.YtnbalmnpcdnidaaDoor
open Go.RowKit
theorem cutp_calls (s : ByteArray) (c : UInt8) (w : World) :
    Calls Tryd.prog 39 #[.string s, .string ⟨#[c]⟩] w fun e w' => e = .returned (.tuple #[.string (if begins1 c s then rest1 s else s), .bool (begins1 c s)]) ∧ w = w' :=
  (Tryd.strings_CutPrefix s ⟨#[c]⟩ w).mono fun e w' ⟨he, hw⟩ => by
    refine ⟨?_, hw.symm⟩
    rw [he]
    cases h : begins1 c s
    · obtain ⟨h1, h2⟩ := trim0 c s h
      rw [h1, h2]; rfl
    · obtain ⟨h1, h2⟩ := trim1 c s h
      rw [h1, h2]; rfl
theorem rest1_le (s : ByteArray) : (rest1 s).size ≤ s.size := by
  rw [Lib.size_eq, Lib.size_eq]
  show (s.data.toList.drop 1).length ≤ _
  simp
theorem tuple_three {T : Tup} {b : Bool} {n : Int} {s : ByteArray} (h1 : iTup s = T) (h2 : iFwd s = b) (h3 : iErr s = n) : iV s = .tuple #[T.v, .bool b, .int .i64 n] := by
  unfold iV; rw [h1, h2, h3]
set_option maxHeartbeats 2000000 in
set_option maxRecDepth 100000 in
theorem iTuple_f (s : ByteArray) (m : Int) (w : World) (hs : s.size ≤ 500) (hm : w.cell? ⟨0, 0, none⟩ = some (.int .i64 m)) (hb : begins1 102 s = true) :
    Calls Tryd.prog 17 #[.string s] w fun e w' => e = .returned (iV s) ∧ Below w.heap.size w w' := by
  have hg : 0 < w.heap.size := World.block_lt_of_cell? w _ hm
  have hmZ : (w.alloc (.cells #[.string ⟨#[]⟩, .string ⟨#[]⟩, .string ⟨#[]⟩, .string ⟨#[]⟩, .string ⟨#[]⟩, .string ⟨#[]⟩] 28)).cell? ⟨0, 0, none⟩ = some (.int .i64 m) := (World.cell?_alloc_lt w _ ⟨0, 0, none⟩ hg).trans hm
  clear hm hg
  have hcp := cutp_calls s 102
  rw [hb, if_pos rfl] at hcp
  have hcp' := Lib.hid hcp
  have ev : iV s = .tuple #[(uTup (rest1 s)).v, .bool (uOk (rest1 s)), .int .i64 (uErr (rest1 s))] := tuple_three (by unfold iTup; rw [if_pos hb]) (by unfold iFwd; rw [hb, Bool.true_and]) (by unfold iErr; rw [if_pos hb])
  have eo : (uErr (rest1 s) == 0) = uOk (rest1 s) := by unfold uErr; cases uOk (rest1 s) <;> rfl
  have hr := Nat.le_trans (rest1_le s) hs
  rw [ev]
  clear hcp ev
  generalize uOk (rest1 s) = o at *
  have eo' := Lib.hid eo
  clear eo
  go_enter Tryd.func17, Tryd.ntmps17
  go_wp2_with fail
  refine (hcp'.out _).mono ?_
  rintro e w1 ⟨rfl, rfl⟩
  go_wp2_with fail
  refine (unkey_calls (rest1 s) m _ hr hmZ).mono ?_
  rw [unkey_eq, uV_eq]
  rintro e w2 ⟨rfl, hb2⟩
  have hR2 := (Blk.new w 28 #[.string ⟨#[]⟩, .string ⟨#[]⟩, .string ⟨#[]⟩, .string ⟨#[]⟩, .string ⟨#[]⟩, .string ⟨#[]⟩]).below hb2 (by simp)
  have B2 := ((Below.refl w.heap.size w).alloc (Nat.le_refl _) _).trans (hb2.mono (by simp))
  have l2 : w.heap.size < w2.heap.size := by have := hb2.size; simp at this; omega
  have bc : ∀ i, w2.cell? ⟨w.heap.size, i, none⟩ = (#[.string ⟨#[]⟩, .string ⟨#[]⟩, .string ⟨#[]⟩, .string ⟨#[]⟩, .string ⟨#[]⟩, .string ⟨#[]⟩] : Array Value)[i]? := hR2.cell
  have bf := hR2.frozen
  clear hb2 hR2
  go_wp2
  refine bodyPost_ret (v := .tuple #[(uTup (rest1 s)).v, .bool o, .int .i64 (uErr (rest1 s))]) (by simp [results, Tryd.results17, go_sem, bc, l2, eo'.out]) rfl ⟨rfl, ?_⟩
  exact ((((((B2.setCell (p := ⟨w.heap.size, 0, none⟩) (by simp) _).setCell (p := ⟨w.heap.size, 1, none⟩) (by simp) _).setCell (p := ⟨w.heap.size, 2, none⟩) (by simp) _).setCell (p := ⟨w.heap.size, 3, none⟩) (by simp) _).setCell (p := ⟨w.heap.size, 4, none⟩) (by simp) _).setCell (p := ⟨w.heap.size, 5, none⟩) (by simp) _).alloc (by simp [World.setCell]; omega) _
set_option maxHeartbeats 2000000 in
set_option maxRecDepth 100000 in
theorem iTuple_n (s : ByteArray) (m : Int) (w : World) (hs : s.size ≤ 500) (hm : w.cell? ⟨0, 0, none⟩ = some (.int .i64 m)) (hb : begins1 102 s = false) (hb2 : begins1 114 s = false) :
    Calls Tryd.prog 17 #[.string s] w fun e w' => e = .returned (iV s) ∧ Below w.heap.size w w' := by
  have hg : 0 < w.heap.size := World.block_lt_of_cell? w _ hm
  have hmZ : (w.alloc (.cells #[.string ⟨#[]⟩, .string ⟨#[]⟩, .string ⟨#[]⟩, .string ⟨#[]⟩, .string ⟨#[]⟩, .string ⟨#[]⟩] 28)).cell? ⟨0, 0, none⟩ = some (.int .i64 m) := (World.cell?_alloc_lt w _ ⟨0, 0, none⟩ hg).trans hm
  clear hm hg
  have hcp := cutp_calls s 102
  rw [hb, if_neg (by simp)] at hcp
  have hcp' := Lib.hid hcp
  have hcr := cutp_calls s 114
  rw [hb2, if_neg (by simp)] at hcr
  have hcr' := Lib.hid hcr
  have ev : iV s = .tuple #[Tup.zero.v, .bool false, .int .i64 9] := tuple_three (by unfold iTup; rw [hb, hb2]; rfl) (by unfold iFwd; rw [hb]; rfl) (by unfold iErr; rw [hb, hb2]; rfl)
  rw [ev]
  clear hcp hcr ev hb hb2
  go_enter Tryd.func17, Tryd.ntmps17
  go_wp2_with fail
  refine (hcp'.out _).mono ?_
  rintro e w1 ⟨rfl, rfl⟩
  go_wp2_with fail
  refine (hcr'.out _).mono ?_
  rintro e w1 ⟨rfl, rfl⟩
  go_wp2_with fail
  refine (split_calls s 0 m _ hs hmZ).mono ?_
  rintro e w1 ⟨rfl, rfl⟩
  go_wp2
  refine bodyPost_ret (v := .tuple #[Tup.zero.v, .bool false, .int .i64 9]) (by simp [results, Tryd.results17, go_sem, Tup.zero]) rfl ⟨rfl, ?_⟩
  exact ((Below.refl w.heap.size w).alloc (Nat.le_refl _) _).alloc (by simp) _
set_option maxHeartbeats 2000000 in
set_option maxRecDepth 100000 in
theorem iTuple_7 (s : ByteArray) (m : Int) (w : World) (hs : s.size ≤ 500) (hm : w.cell? ⟨0, 0, none⟩ = some (.int .i64 m)) (hb : begins1 102 s = false) (hb2 : begins1 114 s = true) (hn : ¬ (splitB1 0 (rest1 s)).length = 7) :
    Calls Tryd.prog 17 #[.string s] w fun e w' => e = .returned (iV s) ∧ Below w.heap.size w w' := by
  have hg : 0 < w.heap.size := World.block_lt_of_cell? w _ hm
  have hmZ : (w.alloc (.cells #[.string ⟨#[]⟩, .string ⟨#[]⟩, .string ⟨#[]⟩, .string ⟨#[]⟩, .string ⟨#[]⟩, .string ⟨#[]⟩] 28)).cell? ⟨0, 0, none⟩ = some (.int .i64 m) := (World.cell?_alloc_lt w _ ⟨0, 0, none⟩ hg).trans hm
  clear hm hg
  have hcp := cutp_calls s 102
  rw [hb, if_neg (by simp)] at hcp
  have hcp' := Lib.hid hcp
  have hcr := cutp_calls s 114
  rw [hb2, if_pos rfl] at hcr
  have hcr' := Lib.hid hcr
  have hbk : bOk (rest1 s) = false := by unfold bOk; simp [hn]
  have ev : iV s = .tuple #[Tup.zero.v, .bool false, .int .i64 9] := tuple_three (by unfold iTup; rw [hb, hb2, hbk]; rfl) (by unfold iFwd; rw [hb]; rfl) (by unfold iErr; rw [hb, hb2, hbk]; rfl)
  have hr := Nat.le_trans (rest1_le s) hs
  have hn' : (((splitB1 0 (rest1 s)).length : Int) != 7) = true := by rw [bne_iff_ne]; omega
  rw [ev]
  clear hcp hcr ev hb hb2 hbk hn
  go_enter Tryd.func17, Tryd.ntmps17
  go_wp2_with fail
  refine (hcp'.out _).mono ?_
  rintro e w1 ⟨rfl, rfl⟩
  go_wp2_with fail
  refine (hcr'.out _).mono ?_
  rintro e w1 ⟨rfl, rfl⟩
  go_wp2_with fail
  refine (split_calls (rest1 s) 0 m _ hr hmZ).mono ?_
  rintro e w1 ⟨rfl, rfl⟩
  go_wp2
  refine bodyPost_ret (v := .tuple #[Tup.zero.v, .bool false, .int .i64 9]) (by simp [results, Tryd.results17, go_sem, Tup.zero]) rfl ⟨rfl, ?_⟩
  exact ((Below.refl w.heap.size w).alloc (Nat.le_refl _) _).alloc (by simp) _
set_option maxHeartbeats 2000000 in
set_option maxRecDepth 100000 in
theorem iTuple_r (s : ByteArray) (m : Int) (w : World) (hs : s.size ≤ 500) (hm : w.cell? ⟨0, 0, none⟩ = some (.int .i64 m)) (hb : begins1 102 s = false) (hb2 : begins1 114 s = true) (hn : (splitB1 0 (rest1 s)).length = 7) :
    Calls Tryd.prog 17 #[.string s] w fun e w' => e = .returned (iV s) ∧ Below w.heap.size w w' := by
  have hg : 0 < w.heap.size := World.block_lt_of_cell? w _ hm
  have hmZ : (w.alloc (.cells #[.string ⟨#[]⟩, .string ⟨#[]⟩, .string ⟨#[]⟩, .string ⟨#[]⟩, .string ⟨#[]⟩, .string ⟨#[]⟩] 28)).cell? ⟨0, 0, none⟩ = some (.int .i64 m) := (World.cell?_alloc_lt w _ ⟨0, 0, none⟩ hg).trans hm
  have hm' := Lib.hid hm
  clear hm
  have hcp := cutp_calls s 102
  rw [hb, if_neg (by simp)] at hcp
  have hcp' := Lib.hid hcp
  have hcr := cutp_calls s 114
  rw [hb2, if_pos rfl] at hcr
  have hcr' := Lib.hid hcr
  have hr := Nat.le_trans (rest1_le s) hs
  have hown := Nat.le_trans (bT_size hn) hr
  obtain ⟨eu1, eu2⟩ := uV_turned hn
  obtain ⟨a, b, c, d, e, f, g, hl⟩ := list7 hn
  have hbT : bT (rest1 s) = ⟨d, e, f, a, b, c⟩ := by unfold bT; rw [hl]; rfl
  have hbk : bOk (rest1 s) = (g.toList.isEmpty && (bT (rest1 s)).ok) := by unfold bOk; rw [hl]; simp
  have ev : iV s = .tuple #[(if g.toList.isEmpty && (bT (rest1 s)).ok then bT (rest1 s) else Tup.zero).v, .bool false, .int .i64 (if g.toList.isEmpty && (bT (rest1 s)).ok then 0 else 9)] :=
    tuple_three (by unfold iTup; rw [hb, hb2, hbk, Bool.true_and]; rfl) (by unfold iFwd; rw [hb]; rfl) (by unfold iErr; rw [hb, hb2, hbk, Bool.true_and]; rfl)
  have hsp := split_calls (rest1 s) 0 m
  rw [hl] at hsp
  rw [hbT] at hown eu1 eu2 ev
  have hsp' := Lib.hid hsp
  have harr : ∀ (a : Addr) (w : World), (Instr.arrayAt 72 (.slice (some a) 6 7)).run Tryd.prog w = .ok (.pointer (some a)) w := fun _ _ => by kernel_rfl
  cases hge : g.toList.isEmpty
  · rw [hge, Bool.false_and] at ev
    rw [ev, if_neg (by simp), if_neg (by simp)]
    clear hcp hcr ev hb hb2 hbk hn hbT hl hsp eu1 eu2
    go_enter Tryd.func17, Tryd.ntmps17
    go_wp2_with fail
    refine (hcp'.out _).mono ?_
    rintro x w1 ⟨rfl, rfl⟩
    go_wp2_with fail
    refine (hcr'.out _).mono ?_
    rintro x w1 ⟨rfl, rfl⟩
    go_wp2_with fail
    refine (hsp'.out _ hr hmZ).mono ?_
    rintro x w1 ⟨rfl, rfl⟩
    go_wp2_with fail
    have kL := Blk.new (w.alloc (.cells #[.string ⟨#[]⟩, .string ⟨#[]⟩, .string ⟨#[]⟩, .string ⟨#[]⟩, .string ⟨#[]⟩, .string ⟨#[]⟩] 28)) 9 #[.string a, .string b, .string c, .string d, .string e, .string f, .string g]
    simp only [World.size_alloc] at kL
    have kR := (Blk.new w 28 #[.string ⟨#[]⟩, .string ⟨#[]⟩, .string ⟨#[]⟩, .string ⟨#[]⟩, .string ⟨#[]⟩, .string ⟨#[]⟩]).alloc (.cells #[.string a, .string b, .string c, .string d, .string e, .string f, .string g] 9)
    refine (turned_calls ⟨a, b, c, d, e, f⟩ _).mono ?_
    rintro x w2 ⟨rfl, hb3⟩
    have kL := kL.below hb3 (by simp)
    have kR := kR.below hb3 (by simp; omega)
    have B2 := (((Below.refl w.heap.size w).alloc (Nat.le_refl _) _).alloc (by simp) _).trans (hb3.mono (by simp; omega))
    have l2 : w.heap.size + 1 < w2.heap.size := by have := hb3.size; simp at this; omega
    clear hb3
    go_wp2_with fail
    refine (pkey_calls ⟨d, e, f, a, b, c⟩ _ (by omega)).mono ?_
    rintro x w3 ⟨rfl, hb4⟩
    have kL := kL.below hb4 (by omega)
    have kR := kR.below hb4 (by omega)
    have B3 := B2.trans (hb4.mono (by omega))
    have l3 : w.heap.size + 1 < w3.heap.size := by have := hb4.size; omega
    clear hb4 B2 l2
    have cL := kL.cell
    have bc : ∀ i, w3.cell? ⟨w.heap.size, i, none⟩ = (#[.string ⟨#[]⟩, .string ⟨#[]⟩, .string ⟨#[]⟩, .string ⟨#[]⟩, .string ⟨#[]⟩, .string ⟨#[]⟩] : Array Value)[i]? := kR.cell
    have bf := kR.frozen
    clear kL kR
    go_wp2
    refine bodyPost_ret (v := .tuple #[Tup.zero.v, .bool false, .int .i64 9]) (by simp [results, Tryd.results17, go_sem, bc, Tup.zero]) rfl ⟨rfl, ?_⟩
    exact ((((((B3.setCell (p := ⟨w.heap.size, 0, none⟩) (by simp) _).setCell (p := ⟨w.heap.size, 1, none⟩) (by simp) _).setCell (p := ⟨w.heap.size, 2, none⟩) (by simp) _).setCell (p := ⟨w.heap.size, 3, none⟩) (by simp) _).setCell (p := ⟨w.heap.size, 4, none⟩) (by simp) _).setCell (p := ⟨w.heap.size, 5, none⟩) (by simp) _)
  · rw [hge, Bool.true_and] at ev
    cases hok : (Tup.mk d e f a b c).ok
    · rw [hok, if_neg (by simp)] at eu1 eu2
      rw [ev, hok, if_neg (by simp), if_neg (by simp)]
      clear hcp hcr ev hb hb2 hbk hn hbT hl hsp hok
      go_enter Tryd.func17, Tryd.ntmps17
      go_wp2_with fail
      refine (hcp'.out _).mono ?_
      rintro x w1 ⟨rfl, rfl⟩
      go_wp2_with fail
      refine (hcr'.out _).mono ?_
      rintro x w1 ⟨rfl, rfl⟩
      go_wp2_with fail
      refine (hsp'.out _ hr hmZ).mono ?_
      rintro x w1 ⟨rfl, rfl⟩
      go_wp2_with fail
      have kL := Blk.new (w.alloc (.cells #[.string ⟨#[]⟩, .string ⟨#[]⟩, .string ⟨#[]⟩, .string ⟨#[]⟩, .string ⟨#[]⟩, .string ⟨#[]⟩] 28)) 9 #[.string a, .string b, .string c, .string d, .string e, .string f, .string g]
      simp only [World.size_alloc] at kL
      have kR := (Blk.new w 28 #[.string ⟨#[]⟩, .string ⟨#[]⟩, .string ⟨#[]⟩, .string ⟨#[]⟩, .string ⟨#[]⟩, .string ⟨#[]⟩]).alloc (.cells #[.string a, .string b, .string c, .string d, .string e, .string f, .string g] 9)
      refine (turned_calls ⟨a, b, c, d, e, f⟩ _).mono ?_
      rintro x w2 ⟨rfl, hb3⟩
      have kL := kL.below hb3 (by simp)
      have kR := kR.below hb3 (by simp; omega)
      have B2 := (((Below.refl w.heap.size w).alloc (Nat.le_refl _) _).alloc (by simp) _).trans (hb3.mono (by simp; omega))
      have l2 : w.heap.size + 1 < w2.heap.size := by have := hb3.size; simp at this; omega
      clear hb3
      go_wp2_with fail
      refine (pkey_calls ⟨d, e, f, a, b, c⟩ _ (by omega)).mono ?_
      rintro x w3 ⟨rfl, hb4⟩
      have kL := kL.below hb4 (by omega)
      have kR := kR.below hb4 (by omega)
      have B3 := B2.trans (hb4.mono (by omega))
      have l3 : w.heap.size + 1 < w3.heap.size := by have := hb4.size; omega
      clear hb4 B2 l2
      have cL := kL.cell
      have B3' := B3
      go_wp2_with fail
      refine (unkey_calls (Tup.mk d e f a b c).key m _ hown ((B3.cell (p := ⟨0, 0, none⟩) hg).trans hm'.out)).mono ?_
      rw [unkey_eq, uV_eq, eu1, eu2]
      rintro x w4 ⟨rfl, hb5⟩
      have kR := kR.below hb5 (by omega)
      have B4 := B3.trans (hb5.mono (by omega))
      have l4 : w.heap.size < w4.heap.size := by have := hb5.size; omega
      have bc : ∀ i, w4.cell? ⟨w.heap.size, i, none⟩ = (#[.string ⟨#[]⟩, .string ⟨#[]⟩, .string ⟨#[]⟩, .string ⟨#[]⟩, .string ⟨#[]⟩, .string ⟨#[]⟩] : Array Value)[i]? := kR.cell
      have bf := kR.frozen
      clear hb5 kL kR cL B3 B3' l3
      go_wp2
      refine bodyPost_ret (v := .tuple #[Tup.zero.v, .bool false, .int .i64 9]) (by simp [results, Tryd.results17, go_sem, bc, l4, Tup.zero]) rfl ⟨rfl, ?_⟩
      exact ((((((B4.setCell (p := ⟨w.heap.size, 0, none⟩) (by simp) _).setCell (p := ⟨w.heap.size, 1, none⟩) (by simp) _).setCell (p := ⟨w.heap.size, 2, none⟩) (by simp) _).setCell (p := ⟨w.heap.size, 3, none⟩) (by simp) _).setCell (p := ⟨w.heap.size, 4, none⟩) (by simp) _).setCell (p := ⟨w.heap.size, 5, none⟩) (by simp) _).alloc (by simp [World.setCell]; omega) _
    · rw [hok, if_pos rfl] at eu1 eu2
      rw [ev, hok, if_pos rfl, if_pos rfl]
      clear hcp hcr ev hb hb2 hbk hn hbT hl hsp hok
      go_enter Tryd.func17, Tryd.ntmps17
      go_wp2_with fail
      refine (hcp'.out _).mono ?_
      rintro x w1 ⟨rfl, rfl⟩
      go_wp2_with fail
      refine (hcr'.out _).mono ?_
      rintro x w1 ⟨rfl, rfl⟩
      go_wp2_with fail
      refine (hsp'.out _ hr hmZ).mono ?_
      rintro x w1 ⟨rfl, rfl⟩
      go_wp2_with fail
      have kL := Blk.new (w.alloc (.cells #[.string ⟨#[]⟩, .string ⟨#[]⟩, .string ⟨#[]⟩, .string ⟨#[]⟩, .string ⟨#[]⟩, .string ⟨#[]⟩] 28)) 9 #[.string a, .string b, .string c, .string d, .string e, .string f, .string g]
      simp only [World.size_alloc] at kL
      have kR := (Blk.new w 28 #[.string ⟨#[]⟩, .string ⟨#[]⟩, .string ⟨#[]⟩, .string ⟨#[]⟩, .string ⟨#[]⟩, .string ⟨#[]⟩]).alloc (.cells #[.string a, .string b, .string c, .string d, .string e, .string f, .string g] 9)
      refine (turned_calls ⟨a, b, c, d, e, f⟩ _).mono ?_
      rintro x w2 ⟨rfl, hb3⟩
      have kL := kL.below hb3 (by simp)
      have kR := kR.below hb3 (by simp; omega)
      have B2 := (((Below.refl w.heap.size w).alloc (Nat.le_refl _) _).alloc (by simp) _).trans (hb3.mono (by simp; omega))
      have l2 : w.heap.size + 1 < w2.heap.size := by have := hb3.size; simp at this; omega
      clear hb3
      go_wp2_with fail
      refine (pkey_calls ⟨d, e, f, a, b, c⟩ _ (by omega)).mono ?_
      rintro x w3 ⟨rfl, hb4⟩
      have kL := kL.below hb4 (by omega)
      have kR := kR.below hb4 (by omega)
      have B3 := B2.trans (hb4.mono (by omega))
      have l3 : w.heap.size + 1 < w3.heap.size := by have := hb4.size; omega
      clear hb4 B2 l2
      have cL := kL.cell
      have B3' := B3
      go_wp2_with fail
      refine (unkey_calls (Tup.mk d e f a b c).key m _ hown ((B3.cell (p := ⟨0, 0, none⟩) hg).trans hm'.out)).mono ?_
      rw [unkey_eq, uV_eq, eu1, eu2]
      rintro x w4 ⟨rfl, hb5⟩
      have kR := kR.below hb5 (by omega)
      have B4 := B3.trans (hb5.mono (by omega))
      have l4 : w.heap.size < w4.heap.size := by have := hb5.size; omega
      have bc : ∀ i, w4.cell? ⟨w.heap.size, i, none⟩ = (#[.string ⟨#[]⟩, .string ⟨#[]⟩, .string ⟨#[]⟩, .string ⟨#[]⟩, .string ⟨#[]⟩, .string ⟨#[]⟩] : Array Value)[i]? := kR.cell
      have bf := kR.frozen
      clear hb5 kL kR cL B3 B3' l3
      go_wp2
      refine bodyPost_ret (v := .tuple #[(Tup.mk d e f a b c).v, .bool false, .int .i64 0]) (by simp [results, Tryd.results17, go_sem, bc, l4]) rfl ⟨rfl, ?_⟩
      exact ((((((B4.setCell (p := ⟨w.heap.size, 0, none⟩) (by simp) _).setCell (p := ⟨w.heap.size, 1, none⟩) (by simp) _).setCell (p := ⟨w.heap.size, 2, none⟩) (by simp) _).setCell (p := ⟨w.heap.size, 3, none⟩) (by simp) _).setCell (p := ⟨w.heap.size, 4, none⟩) (by simp) _).setCell (p := ⟨w.heap.size, 5, none⟩) (by simp) _).alloc (by simp [World.setCell]; omega) _
theorem iTuple_calls (s : ByteArray) (m : Int) (w : World) (hs : s.size ≤ 500) (hm : w.cell? ⟨0, 0, none⟩ = some (.int .i64 m)) :
    Calls Tryd.prog 17 #[.string s] w fun e w' => e = .returned (iV s) ∧ Below w.heap.size w w' := by
  cases h1 : begins1 102 s
  · cases h2 : begins1 114 s
    · exact iTuple_n s m w hs hm h1 h2
    · by_cases h3 : (splitB1 0 (rest1 s)).length = 7
      · exact iTuple_r s m w hs hm h1 h2 h3
      · exact iTuple_7 s m w hs hm h1 h2 h3
  · exact iTuple_f s m w hs hm h1
end Go.Proofs.YtnbalmnpcdnidaaDoor
