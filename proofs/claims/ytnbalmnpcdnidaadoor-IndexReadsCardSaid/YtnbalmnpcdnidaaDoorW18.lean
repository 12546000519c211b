/- Walk: the reference's Tuple of layer 24: a text that does not begin with f. -/
import Derived.Test.YtnbalmnpcdnidaaDoorW17
import Derived.Deep.RegionHeld3
namespace Go.Proofs.YtnbalmnpcdnidaaDoor
open Go.RowKit
theorem iV_back {s : ByteArray} (hb : begins1 102 s = false) : iV s = if begins1 114 s && bOk (rest1 s) then .tuple #[(bT (rest1 s)).v, .bool false, .int .i64 0] else .tuple #[Tup.zero.v, .bool false, .int .i64 9] := by
  unfold iV iTup iFwd iErr
  rw [hb]
  cases begins1 114 s && bOk (rest1 s) <;> rfl
theorem bOk_of {s : ByteArray} {L : List ByteArray} {P : ByteArray} (h : splitB1 0 (rest1 s) = L ++ [P]) (hn : ¬(L.length = 6 ∧ P.toList.isEmpty = true)) : bOk (rest1 s) = false := by
  unfold bOk
  rw [h]
  by_cases h6 : L.length = 6
  · have hp : P.toList.isEmpty = false := by
      cases hp : P.toList.isEmpty with
      | false => rfl
      | true => exact absurd ⟨h6, hp⟩ hn
    have : (L ++ [P]).getD 6 nilB = P := by
      rw [← h6]; simp
    rw [this, hp]; simp
  · simp [h6]
theorem bad_of {s : ByteArray} {L : List ByteArray} {P : ByteArray} (hb : begins1 102 s = false) (h : splitB1 0 (rest1 s) = L ++ [P]) (hn : ¬(begins1 114 s = true ∧ L.length = 6 ∧ P.toList.isEmpty = true)) : iV s = .tuple #[Tup.zero.v, .bool false, .int .i64 9] := by
  rw [iV_back hb]
  cases h1 : begins1 114 s
  · rfl
  · rw [bOk_of h (fun h2 => hn ⟨h1, h2⟩)]; rfl
theorem list6s {l : List ByteArray} (h : l.length = 6) : ∃ a b c d e f, l = [a, b, c, d, e, f] := by
  match l, h with
  | [a, b, c, d, e, f], _ => exact ⟨a, b, c, d, e, f, rfl⟩
theorem good_of {s : ByteArray} {a b c d e f P : ByteArray} (hb : begins1 102 s = false) (h1 : begins1 114 s = true) (h : splitB1 0 (rest1 s) = [a, b, c, d, e, f] ++ [P]) (hp : P.toList.isEmpty = true) :
    iV s = if (Tup.mk d e f a b c).ok then .tuple #[(Tup.mk d e f a b c).v, .bool false, .int .i64 0] else .tuple #[Tup.zero.v, .bool false, .int .i64 9] := by
  have hT : bT (rest1 s) = Tup.mk d e f a b c := by unfold bT; rw [h]; rfl
  have hO : bOk (rest1 s) = (Tup.mk d e f a b c).ok := by
    unfold bOk; rw [hT, h]; simp [hp]
  rw [iV_back hb, h1, hO, hT]
  simp
theorem keep6 {w1 w' : World} {g : Nat} {a b c d e f : ByteArray} (hg : g < w1.heap.size) (hb : Below w1.heap.size w1 w') (c0 : w1.cell? ⟨g, 0, none⟩ = some (.string a)) (c1 : w1.cell? ⟨g, 1, none⟩ = some (.string b)) (c2 : w1.cell? ⟨g, 2, none⟩ = some (.string c)) (c3 : w1.cell? ⟨g, 3, none⟩ = some (.string d)) (c4 : w1.cell? ⟨g, 4, none⟩ = some (.string e)) (c5 : w1.cell? ⟨g, 5, none⟩ = some (.string f)) :
    w'.cell? ⟨g, 0, none⟩ = some (.string a) ∧ w'.cell? ⟨g, 1, none⟩ = some (.string b) ∧ w'.cell? ⟨g, 2, none⟩ = some (.string c) ∧ w'.cell? ⟨g, 3, none⟩ = some (.string d) ∧ w'.cell? ⟨g, 4, none⟩ = some (.string e) ∧ w'.cell? ⟨g, 5, none⟩ = some (.string f) :=
  ⟨(hb.cell (p := ⟨g, 0, none⟩) hg).trans c0, (hb.cell (p := ⟨g, 1, none⟩) hg).trans c1, (hb.cell (p := ⟨g, 2, none⟩) hg).trans c2, (hb.cell (p := ⟨g, 3, none⟩) hg).trans c3, (hb.cell (p := ⟨g, 4, none⟩) hg).trans c4, (hb.cell (p := ⟨g, 5, none⟩) hg).trans c5⟩
theorem keepOf {wr w' : World} {o : Obj} {g : Nat} {a b c d e f : ByteArray} (hg : g < wr.heap.size) (hb : Below (wr.alloc o).drew.heap.size (wr.alloc o).drew w') (c0 : wr.cell? ⟨g, 0, none⟩ = some (.string a)) (c1 : wr.cell? ⟨g, 1, none⟩ = some (.string b)) (c2 : wr.cell? ⟨g, 2, none⟩ = some (.string c)) (c3 : wr.cell? ⟨g, 3, none⟩ = some (.string d)) (c4 : wr.cell? ⟨g, 4, none⟩ = some (.string e)) (c5 : wr.cell? ⟨g, 5, none⟩ = some (.string f)) :
    wr.heap.size < w'.heap.size ∧ w'.heap.size ≠ g ∧ w'.cell? ⟨g, 0, none⟩ = some (.string a) ∧ w'.cell? ⟨g, 1, none⟩ = some (.string b) ∧ w'.cell? ⟨g, 2, none⟩ = some (.string c) ∧ w'.cell? ⟨g, 3, none⟩ = some (.string d) ∧ w'.cell? ⟨g, 4, none⟩ = some (.string e) ∧ w'.cell? ⟨g, 5, none⟩ = some (.string f) := by
  have hz1 : (wr.alloc o).drew.heap.size = wr.heap.size + 1 := World.size_alloc _ _
  have hz : wr.heap.size + 1 ≤ w'.heap.size := by rw [← hz1]; exact hb.size
  exact ⟨by omega, by omega, keep6 (by omega) hb ((World.cell?_alloc_lt _ _ ⟨g, 0, none⟩ hg).trans c0) ((World.cell?_alloc_lt _ _ ⟨g, 1, none⟩ hg).trans c1) ((World.cell?_alloc_lt _ _ ⟨g, 2, none⟩ hg).trans c2) ((World.cell?_alloc_lt _ _ ⟨g, 3, none⟩ hg).trans c3) ((World.cell?_alloc_lt _ _ ⟨g, 4, none⟩ hg).trans c4) ((World.cell?_alloc_lt _ _ ⟨g, 5, none⟩ hg).trans c5)⟩
theorem keepOf2 {wr w' : World} {o : Obj} {Z : Array Value} {g : Nat} {T : TypeId} {a b c d e f : ByteArray} (hg : g < wr.heap.size) (hb : Below ((wr.alloc o).alloc (.cells Z T)).drew.heap.size ((wr.alloc o).alloc (.cells Z T)).drew w') (c0 : wr.cell? ⟨g, 0, none⟩ = some (.string a)) (c1 : wr.cell? ⟨g, 1, none⟩ = some (.string b)) (c2 : wr.cell? ⟨g, 2, none⟩ = some (.string c)) (c3 : wr.cell? ⟨g, 3, none⟩ = some (.string d)) (c4 : wr.cell? ⟨g, 4, none⟩ = some (.string e)) (c5 : wr.cell? ⟨g, 5, none⟩ = some (.string f)) :
    Blk w' (wr.heap.size + 1) T Z ∧ wr.heap.size + 1 < w'.heap.size ∧ wr.heap.size + 1 ≠ g ∧ w'.cell? ⟨g, 0, none⟩ = some (.string a) ∧ w'.cell? ⟨g, 1, none⟩ = some (.string b) ∧ w'.cell? ⟨g, 2, none⟩ = some (.string c) ∧ w'.cell? ⟨g, 3, none⟩ = some (.string d) ∧ w'.cell? ⟨g, 4, none⟩ = some (.string e) ∧ w'.cell? ⟨g, 5, none⟩ = some (.string f) := by
  have hz1 : ((wr.alloc o).alloc (.cells Z T)).drew.heap.size = wr.heap.size + 1 + 1 := by
    show ((wr.alloc o).alloc (.cells Z T)).heap.size = _
    rw [World.size_alloc, World.size_alloc]
  have hz : wr.heap.size + 1 + 1 ≤ w'.heap.size := by rw [← hz1]; exact hb.size
  have hZ := Blk.new (wr.alloc o) T Z
  rw [World.size_alloc] at hZ
  have hs : g < (wr.alloc o).heap.size := by rw [World.size_alloc]; omega
  have kc : ∀ i, ((wr.alloc o).alloc (.cells Z T)).drew.cell? ⟨g, i, none⟩ = wr.cell? ⟨g, i, none⟩ := fun i => (World.cell?_alloc_lt (wr.alloc o) _ ⟨g, i, none⟩ hs).trans (World.cell?_alloc_lt wr _ ⟨g, i, none⟩ hg)
  exact ⟨hZ.drew.below hb (by omega), by omega, by omega, keep6 (by omega) hb ((kc 0).trans c0) ((kc 1).trans c1) ((kc 2).trans c2) ((kc 3).trans c3) ((kc 4).trans c4) ((kc 5).trans c5)⟩
theorem of_at1 {wr : World} {g : Nat} {a b c d e f : ByteArray} (hg : g < wr.heap.size) (c0 : wr.cell? ⟨g, 0, none⟩ = some (.string a)) (c1 : wr.cell? ⟨g, 1, none⟩ = some (.string b)) (c2 : wr.cell? ⟨g, 2, none⟩ = some (.string c)) (c3 : wr.cell? ⟨g, 3, none⟩ = some (.string d)) (c4 : wr.cell? ⟨g, 4, none⟩ = some (.string e)) (c5 : wr.cell? ⟨g, 5, none⟩ = some (.string f)) :
    Calls Tryd.prog 37 #[.slice (some ⟨wr.heap.size, 0, none⟩) 6 6] (wr.alloc (.cells #[.string d, .string e, .string f, .string a, .string b, .string c] 9)).drew fun en w' => en = .returned (.agg #[.string d, .string e, .string f, .string a, .string b, .string c]) ∧ Below wr.heap.size wr w' ∧ wr.heap.size < w'.heap.size ∧ w'.heap.size ≠ g ∧ w'.cell? ⟨g, 0, none⟩ = some (.string a) ∧ w'.cell? ⟨g, 1, none⟩ = some (.string b) ∧ w'.cell? ⟨g, 2, none⟩ = some (.string c) ∧ w'.cell? ⟨g, 3, none⟩ = some (.string d) ∧ w'.cell? ⟨g, 4, none⟩ = some (.string e) ∧ w'.cell? ⟨g, 5, none⟩ = some (.string f) := by
  refine (of_ref_calls (Tup.mk d e f a b c) wr.heap.size _ (by show _ < (wr.alloc _).heap.size; rw [World.size_alloc]; omega) (Blk.new wr _ _).drew).mono ?_
  rintro en w' ⟨rfl, hb⟩
  refine ⟨rfl, (((Below.refl wr.heap.size wr).alloc (Nat.le_refl _) _).drew).trans (hb.mono ?_), keepOf hg hb c0 c1 c2 c3 c4 c5⟩
  show _ ≤ (wr.alloc _).heap.size
  rw [World.size_alloc]; omega
theorem of_at2 {wr : World} {g : Nat} {a b c d e f : ByteArray} (hg : g < wr.heap.size) (c0 : wr.cell? ⟨g, 0, none⟩ = some (.string a)) (c1 : wr.cell? ⟨g, 1, none⟩ = some (.string b)) (c2 : wr.cell? ⟨g, 2, none⟩ = some (.string c)) (c3 : wr.cell? ⟨g, 3, none⟩ = some (.string d)) (c4 : wr.cell? ⟨g, 4, none⟩ = some (.string e)) (c5 : wr.cell? ⟨g, 5, none⟩ = some (.string f)) :
    Calls Tryd.prog 37 #[.slice (some ⟨wr.heap.size, 0, none⟩) 6 6] ((wr.alloc (.cells #[.string d, .string e, .string f, .string a, .string b, .string c] 9)).alloc (.cells #[.string ⟨#[]⟩, .string ⟨#[]⟩, .string ⟨#[]⟩, .string ⟨#[]⟩, .string ⟨#[]⟩, .string ⟨#[]⟩] 28)).drew fun en w' => en = .returned (.agg #[.string d, .string e, .string f, .string a, .string b, .string c]) ∧ Below wr.heap.size wr w' ∧ Blk w' (wr.heap.size + 1) 28 #[.string ⟨#[]⟩, .string ⟨#[]⟩, .string ⟨#[]⟩, .string ⟨#[]⟩, .string ⟨#[]⟩, .string ⟨#[]⟩] ∧ wr.heap.size + 1 < w'.heap.size ∧ wr.heap.size + 1 ≠ g ∧ w'.cell? ⟨g, 0, none⟩ = some (.string a) ∧ w'.cell? ⟨g, 1, none⟩ = some (.string b) ∧ w'.cell? ⟨g, 2, none⟩ = some (.string c) ∧ w'.cell? ⟨g, 3, none⟩ = some (.string d) ∧ w'.cell? ⟨g, 4, none⟩ = some (.string e) ∧ w'.cell? ⟨g, 5, none⟩ = some (.string f) := by
  refine (of_ref_calls (Tup.mk d e f a b c) wr.heap.size _ (by show _ < ((wr.alloc _).alloc _).heap.size; rw [World.size_alloc, World.size_alloc]; omega) ((Blk.new wr _ _).alloc _).drew).mono ?_
  rintro en w' ⟨rfl, hb⟩
  refine ⟨rfl, ((((Below.refl wr.heap.size wr).alloc (Nat.le_refl _) _).alloc (by rw [World.size_alloc]; omega) _).drew).trans (hb.mono ?_), keepOf2 hg hb c0 c1 c2 c3 c4 c5⟩
  show _ ≤ ((wr.alloc _).alloc _).heap.size
  rw [World.size_alloc, World.size_alloc]; omega
theorem of_at3 {wr : World} {g : Nat} {a b c d e f : ByteArray} (hg : g < wr.heap.size) (c0 : wr.cell? ⟨g, 0, none⟩ = some (.string a)) (c1 : wr.cell? ⟨g, 1, none⟩ = some (.string b)) (c2 : wr.cell? ⟨g, 2, none⟩ = some (.string c)) (c3 : wr.cell? ⟨g, 3, none⟩ = some (.string d)) (c4 : wr.cell? ⟨g, 4, none⟩ = some (.string e)) (c5 : wr.cell? ⟨g, 5, none⟩ = some (.string f)) :
    Calls Tryd.prog 37 #[.slice (some ⟨wr.heap.size + 1, 0, none⟩) 6 6] ((wr.alloc (.cells #[.string ⟨#[]⟩, .string ⟨#[]⟩, .string ⟨#[]⟩, .string ⟨#[]⟩, .string ⟨#[]⟩, .string ⟨#[]⟩] 28)).alloc (.cells #[.string d, .string e, .string f, .string a, .string b, .string c] 9)).drew fun en w' => en = .returned (.agg #[.string d, .string e, .string f, .string a, .string b, .string c]) ∧ Below wr.heap.size wr w' ∧ Blk w' wr.heap.size 28 #[.string ⟨#[]⟩, .string ⟨#[]⟩, .string ⟨#[]⟩, .string ⟨#[]⟩, .string ⟨#[]⟩, .string ⟨#[]⟩] ∧ wr.heap.size < w'.heap.size ∧ w'.cell? ⟨g, 0, none⟩ = some (.string a) ∧ w'.cell? ⟨g, 1, none⟩ = some (.string b) ∧ w'.cell? ⟨g, 2, none⟩ = some (.string c) ∧ w'.cell? ⟨g, 3, none⟩ = some (.string d) ∧ w'.cell? ⟨g, 4, none⟩ = some (.string e) ∧ w'.cell? ⟨g, 5, none⟩ = some (.string f) := by
  have hL := Blk.new (wr.alloc (.cells #[.string ⟨#[]⟩, .string ⟨#[]⟩, .string ⟨#[]⟩, .string ⟨#[]⟩, .string ⟨#[]⟩, .string ⟨#[]⟩] 28)) 9 #[.string d, .string e, .string f, .string a, .string b, .string c]
  rw [World.size_alloc] at hL
  have hz1 : ((wr.alloc (.cells #[.string ⟨#[]⟩, .string ⟨#[]⟩, .string ⟨#[]⟩, .string ⟨#[]⟩, .string ⟨#[]⟩, .string ⟨#[]⟩] 28)).alloc (.cells #[.string d, .string e, .string f, .string a, .string b, .string c] 9)).drew.heap.size = wr.heap.size + 1 + 1 := by
    show ((wr.alloc _).alloc _).heap.size = _
    rw [World.size_alloc, World.size_alloc]
  refine (of_ref_calls (Tup.mk d e f a b c) (wr.heap.size + 1) _ (by rw [hz1]; omega) hL.drew).mono ?_
  rintro en w' ⟨rfl, hb⟩
  have hz : wr.heap.size + 1 + 1 ≤ w'.heap.size := by rw [← hz1]; exact hb.size
  have hs : g < (wr.alloc (.cells #[.string ⟨#[]⟩, .string ⟨#[]⟩, .string ⟨#[]⟩, .string ⟨#[]⟩, .string ⟨#[]⟩, .string ⟨#[]⟩] 28)).heap.size := by rw [World.size_alloc]; omega
  have kc : ∀ i, ((wr.alloc (.cells #[.string ⟨#[]⟩, .string ⟨#[]⟩, .string ⟨#[]⟩, .string ⟨#[]⟩, .string ⟨#[]⟩, .string ⟨#[]⟩] 28)).alloc (.cells #[.string d, .string e, .string f, .string a, .string b, .string c] 9)).drew.cell? ⟨g, i, none⟩ = wr.cell? ⟨g, i, none⟩ := fun i => (World.cell?_alloc_lt (wr.alloc _) _ ⟨g, i, none⟩ hs).trans (World.cell?_alloc_lt wr _ ⟨g, i, none⟩ hg)
  refine ⟨rfl, ((((Below.refl wr.heap.size wr).alloc (Nat.le_refl _) _).alloc (by rw [World.size_alloc]; omega) _).drew).trans (hb.mono (by rw [hz1]; omega)), ((Blk.new wr _ _).alloc _).drew.below hb (by rw [hz1]; omega), by omega, keep6 (by rw [hz1]; omega) hb ((kc 0).trans c0) ((kc 1).trans c1) ((kc 2).trans c2) ((kc 3).trans c3) ((kc 4).trans c4) ((kc 5).trans c5)⟩
theorem Blk6 {w' : World} {g : Nat} {T : TypeId} {a b c d e f : ByteArray} (h : Blk w' g T #[.string ⟨#[]⟩, .string ⟨#[]⟩, .string ⟨#[]⟩, .string ⟨#[]⟩, .string ⟨#[]⟩, .string ⟨#[]⟩]) : Blk (World.setCell (World.setCell (World.setCell (World.setCell (World.setCell (World.setCell w' ⟨g, 0, none⟩ (.string d)) ⟨g, 1, none⟩ (.string e)) ⟨g, 2, none⟩ (.string f)) ⟨g, 3, none⟩ (.string a)) ⟨g, 4, none⟩ (.string b)) ⟨g, 5, none⟩ (.string c)) g T #[.string d, .string e, .string f, .string a, .string b, .string c] := by
  have h1 := (((((h.set_ 0 (.string d)).set_ 1 (.string e)).set_ 2 (.string f)).set_ 3 (.string a)).set_ 4 (.string b)).set_ 5 (.string c)
  simpa using h1
theorem Blk6_far {w' : World} {g g' : Nat} {T : TypeId} {cs : Array Value} {a b c d e f : ByteArray} (h : Blk w' g' T cs) (hg : g' ≠ g) : Blk (World.setCell (World.setCell (World.setCell (World.setCell (World.setCell (World.setCell w' ⟨g, 0, none⟩ (.string d)) ⟨g, 1, none⟩ (.string e)) ⟨g, 2, none⟩ (.string f)) ⟨g, 3, none⟩ (.string a)) ⟨g, 4, none⟩ (.string b)) ⟨g, 5, none⟩ (.string c)) g' T cs :=
  (((((h.far (p := ⟨g, 0, none⟩) hg _).far (p := ⟨g, 1, none⟩) hg _).far (p := ⟨g, 2, none⟩) hg _).far (p := ⟨g, 3, none⟩) hg _).far (p := ⟨g, 4, none⟩) hg _).far (p := ⟨g, 5, none⟩) hg _
theorem below6 {w w' : World} {B g : Nat} {a b c d e f : ByteArray} (h : Below B w w') (hg : B ≤ g) : Below B w (World.setCell (World.setCell (World.setCell (World.setCell (World.setCell (World.setCell w' ⟨g, 0, none⟩ (.string d)) ⟨g, 1, none⟩ (.string e)) ⟨g, 2, none⟩ (.string f)) ⟨g, 3, none⟩ (.string a)) ⟨g, 4, none⟩ (.string b)) ⟨g, 5, none⟩ (.string c)) :=
  (((((h.setCell (p := ⟨g, 0, none⟩) hg _).setCell (p := ⟨g, 1, none⟩) hg _).setCell (p := ⟨g, 2, none⟩) hg _).setCell (p := ⟨g, 3, none⟩) hg _).setCell (p := ⟨g, 4, none⟩) hg _).setCell (p := ⟨g, 5, none⟩) hg _
theorem first_ne {s : ByteArray} (h : 0 < s.size) : ((s[0].toNat : Int) != 114) = !begins1 114 s := by
  have := first_int h 114
  rw [← this]; rfl
set_option maxHeartbeats 1000000 in
set_option maxRecDepth 100000 in
theorem refTuple_r (s : ByteArray) (w : World) (hs : s.size ≤ 500) (h0 : 0 < s.size) (hb : begins1 102 s = false) :
    Calls Tryd.prog 18 #[.string s] w fun e w' => e = .returned (iV s) ∧ Below w.heap.size w w' := by
  have e0 := not_empty h0
  have e1 : ((s[0].toNat : Int) == 102) = false := (first_int h0 102).trans hb
  obtain ⟨i0, hi, hz0, hz1, hz2⟩ := info_parts info_str
  have hsaid := spF_said s
  have start : SpF s w 1 (.slice none 0 0) (w.alloc (.cells #[.string ⟨#[]⟩, .string ⟨#[]⟩, .string ⟨#[]⟩, .string ⟨#[]⟩, .string ⟨#[]⟩, .string ⟨#[]⟩] 28)) :=
    ⟨by rw [spF_one]; exact World.ownsRow_nil _ _ _ _, Blk.new w _ _, (Below.refl w.heap.size w).alloc (Nat.le_refl _) _, by simp⟩
  go_enter Tryd.func18, Tryd.ntmps18
  go_wp2_with fail
  go_loopw [7, 8, 9] (fun v p i wr => ∃ j : Nat, 1 ≤ j ∧ j ≤ s.size ∧ i = .int .i64 j ∧ p = .string (spF s j).2 ∧ SpF s w j v wr) (fun _ _ i _ => s.size - (intOf i).toNat)
  case atStart => exact ⟨1, by omega, h0, rfl, rfl, start⟩
  case round =>
    obtain ⟨j, hj1, hj2, rfl, rfl, hF⟩ := hrel
    obtain ⟨_, _, _, hp, hl⟩ := hsaid j hj1 hj2
    have hz := hF.size
    clear start hsaid
    by_cases hlt : j < s.size
    · obtain ⟨L, P, hLP⟩ : ∃ L P, spF s j = (L, P) := ⟨_, _, rfl⟩
      have hP : (spF s j).2 = P := by rw [hLP]
      have hL : (spF s j).1 = L := by rw [hLP]
      have hown := hF.own
      rw [hL] at hown hl
      rw [hP] at hp ⊢
      have hF' := Lib.hid hF
      have hLP' := Lib.hid hLP
      clear hLP hL hP hF
      by_cases hc : s[j] = 0
      · have n1 := Lib.hid (spF_cut hj1 hlt hc)
        have c1 : ((s[j].toNat : Int) == 0) = true := by rw [hc]; rfl
        clear hc
        go_wp2_with (first
          | (at_builtin; refine wpList_append_own _ rfl _ _ 41 rfl (w.heap.size + 1) 9 i0 (.string ⟨#[]⟩) 1 16 Tryd.underlying41 hi hz0 hz1 hz2 rfl (by decide) _ _ _ rfl (hown.alloc _) ⟨_, 0, none⟩ 1 1 [.string P] rfl rfl ?c1 ?c2 ?c3 ?c4 ?c5 ?_)
          | go_in)
        case c1 =>
          intro j u hj
          match j, hj with
          | 0, hj => simp at hj; subst hj; simp [Addr.add]
        case c2 => intro u hu; simp at hu; subst hu; rfl
        case c3 => unfold maxLen; omega
        case c4 => omega
        case c5 => simp; omega
        · intro v' w1 hown' hgrow _
          have R : SpF s w (j + 1) v' w1 := hF'.out.cut (by rw [n1.out, hLP'.out]) hown' hgrow
          have n2 : (spF s (j + 1)).2 = nilB := by rw [n1.out]
          clear hown' hgrow hown hF'
          go_wp2
          go_roundw
          case rel => exact ⟨j + 1, by omega, by omega, by go_num, by rw [n2]; rfl, R⟩
          case measure => simp [intOf]; omega
      · have n1 := Lib.hid (spF_part hj1 hlt hc)
        have c1 : ((s[j].toNat : Int) == 0) = false := by
          rw [beq_eq_false_iff_ne]
          intro e
          exact hc (UInt8.toNat_inj.1 (by simpa using e))
        have c2 : (0 : Int) ≤ ↑j := by omega
        have c5 : (↑j + 1 : Int) ≤ ↑s.size := by omega
        have n2 : (spF s (j + 1)).2 = P ++ s.extract j (j + 1) := by rw [n1.out, hLP'.out]
        have n2' := Lib.hid n2
        have R : SpF s w (j + 1) _ _ := hF'.out.part hLP'.out (by rw [n1.out, hLP'.out])
        clear hc n2 hown
        go_wp2
        go_roundw
        case rel => exact ⟨j + 1, by omega, by omega, by go_num, by rw [n2'.out], R⟩
        case measure => simp [intOf]; omega
    · obtain rfl : j = s.size := by omega
      have hsp := spF_split hj1
      obtain ⟨L, P, hLP⟩ : ∃ L P, spF s s.size = (L, P) := ⟨_, _, rfl⟩
      have hP : (spF s s.size).2 = P := by rw [hLP]
      have hL : (spF s s.size).1 = L := by rw [hLP]
      have hown := hF.own
      have hR := hF.res
      have B1 := hF.below
      rw [hL] at hown hl hsp
      rw [hP] at hp hsp ⊢
      clear hLP hP hL hF
      have hbad := fun h => bad_of (L := L) (P := P) hb hsp h
      have rc := hR.cell
      have rf := hR.frozen
      obtain ⟨hlen, hform⟩ := hown
      rcases hform with ⟨rfl, hn⟩ | ⟨g, cap, cur, rfl, hg, hh, hcap, hmax, hsize, htake⟩
      · have hV := hbad (fun h => by omega)
        have hV' := Lib.hid hV
        clear hV hbad hsp hlen hn
        cases h114 : begins1 114 s
        · have q1 : ((s[0].toNat : Int) != 114) = true := by rw [first_ne h0, h114]; rfl
          go_wp2
          refine bodyPost_ret (v := .tuple #[Tup.zero.v, .bool false, .int .i64 9]) (by simp [results, Tryd.results18, go_sem, rc, Tup.zero]) rfl ⟨by rw [hV'.out], ?_⟩
          exact ((((((B1.setCell (by simp) _).setCell (by simp) _).setCell (by simp) _).setCell (by simp) _).setCell (by simp) _).setCell (by simp) _)
        · have q1 : ((s[0].toNat : Int) != 114) = false := by rw [first_ne h0, h114]; rfl
          go_wp2
          refine bodyPost_ret (v := .tuple #[Tup.zero.v, .bool false, .int .i64 9]) (by simp [results, Tryd.results18, go_sem, rc, Tup.zero]) rfl ⟨by rw [hV'.out], ?_⟩
          exact ((((((B1.setCell (by simp) _).setCell (by simp) _).setCell (by simp) _).setCell (by simp) _).setCell (by simp) _).setCell (by simp) _)
      · cases h114 : begins1 114 s
        · have q1 : ((s[0].toNat : Int) != 114) = true := by rw [first_ne h0, h114]; rfl
          have hV' := Lib.hid (hbad (fun h => by rw [h114] at h; exact absurd h.1 (by simp)))
          clear hbad hsp
          go_wp2
          refine bodyPost_ret (v := .tuple #[Tup.zero.v, .bool false, .int .i64 9]) (by simp [results, Tryd.results18, go_sem, rc, Tup.zero]) rfl ⟨by rw [hV'.out], ?_⟩
          exact ((((((B1.setCell (by simp) _).setCell (by simp) _).setCell (by simp) _).setCell (by simp) _).setCell (by simp) _).setCell (by simp) _)
        have q1 : ((s[0].toNat : Int) != 114) = false := by rw [first_ne h0, h114]; rfl
        by_cases h6 : L.length = 6
        · cases hPe : P.toList.isEmpty
          · have hV' := Lib.hid (hbad (fun h => by rw [hPe] at h; exact absurd h.2.2 (by simp)))
            have q2 : ((L.length : Int) != 6) = false := by rw [h6]; rfl
            clear hbad hsp h6
            go_wp2
            refine bodyPost_ret (v := .tuple #[Tup.zero.v, .bool false, .int .i64 9]) (by simp [results, Tryd.results18, go_sem, rc, Tup.zero]) rfl ⟨by rw [hV'.out], ?_⟩
            exact ((((((B1.setCell (by simp) _).setCell (by simp) _).setCell (by simp) _).setCell (by simp) _).setCell (by simp) _).setCell (by simp) _)
          · obtain ⟨a, b, c, d, e, f, rfl⟩ := list6s h6
            have hV' := Lib.hid (good_of hb h114 hsp hPe)
            have hfit : (Tup.mk d e f a b c).fits := by
              intro p hp
              refine Nat.le_trans (splitB1_fits (rest1 s) (by rw [← rest1_extract, ByteArray.size_extract]; omega) p ?_) (by unfold maxLen; omega)
              rw [hsp]
              simp [Tup.l] at hp
              rcases hp with rfl | rfl | rfl | rfl | rfl | rfl <;> simp
            have hcell : ∀ i, i < 6 → wr.cell? ⟨g, i, none⟩ = [Value.string a, .string b, .string c, .string d, .string e, .string f][i]? := by
              intro i hi6
              rw [cell_of_row wr g i cur _ (0, 0) hh]
              have e1 : [Value.string a, .string b, .string c, .string d, .string e, .string f][i]? = (cur.toList.take (6 * 1))[i]? := by rw [show cur.toList.take (6 * 1) = _ from htake]; rfl
              rw [e1, List.getElem?_take, if_pos (by omega)]; simp
            have hn0 : wr.heap.size ≠ g := Nat.ne_of_gt (Array.getElem?_eq_some_iff.1 hh).1
            have hgl : g < wr.heap.size := (Array.getElem?_eq_some_iff.1 hh).1
            have c0 := hcell 0 (by omega)
            have c1 := hcell 1 (by omega)
            have c2 := hcell 2 (by omega)
            have c3 := hcell 3 (by omega)
            have c4 := hcell 4 (by omega)
            have c5 := hcell 5 (by omega)
            simp at c0 c1 c2 c3 c4 c5
            clear hbad hsp h6 hcell htake hlen hl
            go_wp2_with fail
            go_region_held3 (fun w' => w'.cell? ⟨g, 0, none⟩ = some (.string a) ∧ w'.cell? ⟨g, 1, none⟩ = some (.string b) ∧ w'.cell? ⟨g, 2, none⟩ = some (.string c) ∧ w'.cell? ⟨g, 3, none⟩ = some (.string d) ∧ w'.cell? ⟨g, 4, none⟩ = some (.string e) ∧ w'.cell? ⟨g, 5, none⟩ = some (.string f)) (first | go_keep | with_reducible exact ⟨c0, c1, c2, c3, c4, c5⟩ | with_reducible exact ⟨(World.cell?_alloc_lt _ _ ⟨g, 0, none⟩ hgl).trans c0, (World.cell?_alloc_lt _ _ ⟨g, 1, none⟩ hgl).trans c1, (World.cell?_alloc_lt _ _ ⟨g, 2, none⟩ hgl).trans c2, (World.cell?_alloc_lt _ _ ⟨g, 3, none⟩ hgl).trans c3, (World.cell?_alloc_lt _ _ ⟨g, 4, none⟩ hgl).trans c4, (World.cell?_alloc_lt _ _ ⟨g, 5, none⟩ hgl).trans c5⟩)
              (first
                | (go_at_call 37; with_reducible refine (of_at1 hgl c0 c1 c2 c3 c4 c5).mono ?_; rintro e w' ⟨rfl, hb', hzw, hnw, d0, d1, d2, d3, d4, d5⟩)
                | (go_at_call 37; with_reducible refine (of_at2 hgl c0 c1 c2 c3 c4 c5).mono ?_; rintro e w' ⟨rfl, hb', hZ, hzw, hnw, d0, d1, d2, d3, d4, d5⟩; have zc := hZ.cell; have zf := hZ.frozen)
                | (go_at_call 37; with_reducible refine (of_at3 hgl c0 c1 c2 c3 c4 c5).mono ?_; rintro e w' ⟨rfl, hb', hZ, hzw, d0, d1, d2, d3, d4, d5⟩; have zc := hZ.cell; have zf := hZ.frozen))
            · obtain ⟨W3, e3, t3, r3, B3⟩ : ∃ W3, (w'.alloc (.cells #[.string d, .string e, .string f, .string a, .string b, .string c] 28)) = W3 ∧ Blk W3 (w'.heap.size) 28 #[.string d, .string e, .string f, .string a, .string b, .string c] ∧ Blk W3 w.heap.size 28 #[.string ⟨#[]⟩, .string ⟨#[]⟩, .string ⟨#[]⟩, .string ⟨#[]⟩, .string ⟨#[]⟩, .string ⟨#[]⟩] ∧ Below w.heap.size w W3 := ⟨_, rfl, Blk.new w' _ _, (hR.below hb' hz).alloc _, (B1.trans (hb'.mono (by omega))).alloc (by omega) _⟩
              rw [e3]
              have tc := t3.cell
              have tl := t3.lt
              have rl := r3.lt
              clear e3 d0 d1 d2 d3 d4 d5 c0 c1 c2 c3 c4 c5 rc rf hh B1 hR hb'
              go_wp2_with fail
              refine (refCheck_calls (Tup.mk d e f a b c) _ hfit).mono ?_
              rintro e4 W4 ⟨rfl, hb4⟩
              have r4 := r3.below hb4 rl
              have t4 := t3.below hb4 tl
              have B4 := B3.trans (hb4.mono (Nat.le_of_lt rl))
              clear hb4 B3 r3 t3 tc tl rl
              have rc := r4.cell
              have rf := r4.frozen
              have tc := t4.cell
              cases hok : (Tup.mk d e f a b c).ok
              · have ec : (Tup.mk d e f a b c).check = 2 := by simp [Tup.check, hok]
                have hV2 := hV'.out
                rw [hok, if_neg (by simp)] at hV2
                have hV3 := Lib.hid hV2
                clear hV2 hV'
                go_wp2
                refine bodyPost_ret (v := .tuple #[Tup.zero.v, .bool false, .int .i64 9]) (by simp [results, Tryd.results18, go_sem, rc, Tup.zero]) rfl ⟨by rw [hV3.out], ?_⟩
                exact ((((((B4.setCell (by simp) _).setCell (by simp) _).setCell (by simp) _).setCell (by simp) _).setCell (by simp) _).setCell (by simp) _)
              · have ec : (Tup.mk d e f a b c).check = 0 := by simp [Tup.check, hok]
                have hV2 := hV'.out
                rw [hok, if_pos rfl] at hV2
                have hV3 := Lib.hid hV2
                clear hV2 hV'
                go_wp2
                refine bodyPost_ret (v := .tuple #[(Tup.mk d e f a b c).v, .bool false, .int .i64 0]) (by simp [results, Tryd.results18, go_sem, rc]) rfl ⟨by rw [hV3.out], ?_⟩
                exact ((((((B4.setCell (by simp) _).setCell (by simp) _).setCell (by simp) _).setCell (by simp) _).setCell (by simp) _).setCell (by simp) _)
            · obtain ⟨W3, e3, t3, r3, B3⟩ : ∃ W3, (World.setCell (World.setCell (World.setCell (World.setCell (World.setCell (World.setCell w' ⟨wr.heap.size + 1, 0, none⟩ (.string d)) ⟨wr.heap.size + 1, 1, none⟩ (.string e)) ⟨wr.heap.size + 1, 2, none⟩ (.string f)) ⟨wr.heap.size + 1, 3, none⟩ (.string a)) ⟨wr.heap.size + 1, 4, none⟩ (.string b)) ⟨wr.heap.size + 1, 5, none⟩ (.string c)) = W3 ∧ Blk W3 (wr.heap.size + 1) 28 #[.string d, .string e, .string f, .string a, .string b, .string c] ∧ Blk W3 w.heap.size 28 #[.string ⟨#[]⟩, .string ⟨#[]⟩, .string ⟨#[]⟩, .string ⟨#[]⟩, .string ⟨#[]⟩, .string ⟨#[]⟩] ∧ Below w.heap.size w W3 := ⟨_, rfl, Blk6 hZ, Blk6_far (hR.below hb' hz) (by omega), below6 (B1.trans (hb'.mono (by omega))) (by omega)⟩
              rw [e3]
              have tc := t3.cell
              have tl := t3.lt
              have rl := r3.lt
              clear e3 hZ zc zf d0 d1 d2 d3 d4 d5 c0 c1 c2 c3 c4 c5 rc rf hh B1 hR hb'
              go_wp2_with fail
              refine (refCheck_calls (Tup.mk d e f a b c) _ hfit).mono ?_
              rintro e4 W4 ⟨rfl, hb4⟩
              have r4 := r3.below hb4 rl
              have t4 := t3.below hb4 tl
              have B4 := B3.trans (hb4.mono (Nat.le_of_lt rl))
              clear hb4 B3 r3 t3 tc tl rl
              have rc := r4.cell
              have rf := r4.frozen
              have tc := t4.cell
              cases hok : (Tup.mk d e f a b c).ok
              · have ec : (Tup.mk d e f a b c).check = 2 := by simp [Tup.check, hok]
                have hV2 := hV'.out
                rw [hok, if_neg (by simp)] at hV2
                have hV3 := Lib.hid hV2
                clear hV2 hV'
                go_wp2
                refine bodyPost_ret (v := .tuple #[Tup.zero.v, .bool false, .int .i64 9]) (by simp [results, Tryd.results18, go_sem, rc, Tup.zero]) rfl ⟨by rw [hV3.out], ?_⟩
                exact ((((((B4.setCell (by simp) _).setCell (by simp) _).setCell (by simp) _).setCell (by simp) _).setCell (by simp) _).setCell (by simp) _)
              · have ec : (Tup.mk d e f a b c).check = 0 := by simp [Tup.check, hok]
                have hV2 := hV'.out
                rw [hok, if_pos rfl] at hV2
                have hV3 := Lib.hid hV2
                clear hV2 hV'
                go_wp2
                refine bodyPost_ret (v := .tuple #[(Tup.mk d e f a b c).v, .bool false, .int .i64 0]) (by simp [results, Tryd.results18, go_sem, rc]) rfl ⟨by rw [hV3.out], ?_⟩
                exact ((((((B4.setCell (by simp) _).setCell (by simp) _).setCell (by simp) _).setCell (by simp) _).setCell (by simp) _).setCell (by simp) _)
            · obtain ⟨W3, e3, t3, r3, B3⟩ : ∃ W3, (World.setCell (World.setCell (World.setCell (World.setCell (World.setCell (World.setCell w' ⟨wr.heap.size, 0, none⟩ (.string d)) ⟨wr.heap.size, 1, none⟩ (.string e)) ⟨wr.heap.size, 2, none⟩ (.string f)) ⟨wr.heap.size, 3, none⟩ (.string a)) ⟨wr.heap.size, 4, none⟩ (.string b)) ⟨wr.heap.size, 5, none⟩ (.string c)) = W3 ∧ Blk W3 (wr.heap.size) 28 #[.string d, .string e, .string f, .string a, .string b, .string c] ∧ Blk W3 w.heap.size 28 #[.string ⟨#[]⟩, .string ⟨#[]⟩, .string ⟨#[]⟩, .string ⟨#[]⟩, .string ⟨#[]⟩, .string ⟨#[]⟩] ∧ Below w.heap.size w W3 := ⟨_, rfl, Blk6 hZ, Blk6_far (hR.below hb' hz) (by omega), below6 (B1.trans (hb'.mono (by omega))) (by omega)⟩
              rw [e3]
              have tc := t3.cell
              have tl := t3.lt
              have rl := r3.lt
              clear e3 hZ zc zf d0 d1 d2 d3 d4 d5 c0 c1 c2 c3 c4 c5 rc rf hh B1 hR hb'
              go_wp2_with fail
              refine (refCheck_calls (Tup.mk d e f a b c) _ hfit).mono ?_
              rintro e4 W4 ⟨rfl, hb4⟩
              have r4 := r3.below hb4 rl
              have t4 := t3.below hb4 tl
              have B4 := B3.trans (hb4.mono (Nat.le_of_lt rl))
              clear hb4 B3 r3 t3 tc tl rl
              have rc := r4.cell
              have rf := r4.frozen
              have tc := t4.cell
              cases hok : (Tup.mk d e f a b c).ok
              · have ec : (Tup.mk d e f a b c).check = 2 := by simp [Tup.check, hok]
                have hV2 := hV'.out
                rw [hok, if_neg (by simp)] at hV2
                have hV3 := Lib.hid hV2
                clear hV2 hV'
                go_wp2
                refine bodyPost_ret (v := .tuple #[Tup.zero.v, .bool false, .int .i64 9]) (by simp [results, Tryd.results18, go_sem, rc, Tup.zero]) rfl ⟨by rw [hV3.out], ?_⟩
                exact ((((((B4.setCell (by simp) _).setCell (by simp) _).setCell (by simp) _).setCell (by simp) _).setCell (by simp) _).setCell (by simp) _)
              · have ec : (Tup.mk d e f a b c).check = 0 := by simp [Tup.check, hok]
                have hV2 := hV'.out
                rw [hok, if_pos rfl] at hV2
                have hV3 := Lib.hid hV2
                clear hV2 hV'
                go_wp2
                refine bodyPost_ret (v := .tuple #[(Tup.mk d e f a b c).v, .bool false, .int .i64 0]) (by simp [results, Tryd.results18, go_sem, rc]) rfl ⟨by rw [hV3.out], ?_⟩
                exact ((((((B4.setCell (by simp) _).setCell (by simp) _).setCell (by simp) _).setCell (by simp) _).setCell (by simp) _).setCell (by simp) _)
        · have hV' := Lib.hid (hbad (fun h => h6 h.2.1))
          have q2 : ((L.length : Int) != 6) = true := by rw [bne_iff_ne]; omega
          clear hbad hsp h6
          go_wp2
          refine bodyPost_ret (v := .tuple #[Tup.zero.v, .bool false, .int .i64 9]) (by simp [results, Tryd.results18, go_sem, rc, Tup.zero]) rfl ⟨by rw [hV'.out], ?_⟩
          exact ((((((B1.setCell (by simp) _).setCell (by simp) _).setCell (by simp) _).setCell (by simp) _).setCell (by simp) _).setCell (by simp) _)
end Go.Proofs.YtnbalmnpcdnidaaDoor
