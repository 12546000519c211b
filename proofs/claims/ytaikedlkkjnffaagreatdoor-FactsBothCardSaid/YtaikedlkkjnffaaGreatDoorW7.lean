/- Walks: tuple.Cmp, the reference's Cmp. -/
import Derived.Test.YtaikedlkkjnffaaGreatDoorW5
import Derived.Test.YtaikedlkkjnffaaGreatDoorCmp
import Derived.Test.YtaikedlkkjnffaaGreatDoorAny
import Derived.Deep.RegionHeld3
namespace Go.Proofs.YtaikedlkkjnffaaGreatDoor
open Go.RowKit
set_option maxHeartbeats 2000000 in
theorem eql_tup (a b c d e f a' b' c' d' e' f' : ByteArray) (w : World) :
    (binOp .eql 60 (.agg #[.string a, .string b, .string c, .string d, .string e, .string f]) (.agg #[.string a', .string b', .string c', .string d', .string e', .string f'])).run Tryz.prog w = .ok (.bool (same6 a b c d e f a' b' c' d' e' f')) w := by
  unfold same6
  cases h0 : a.toList == a'.toList
  · simp [go_sem, h0]
  cases h1 : b.toList == b'.toList
  · simp [go_sem, h0, h1]
  cases h2 : c.toList == c'.toList
  · simp [go_sem, h0, h1, h2]
  cases h3 : d.toList == d'.toList
  · simp [go_sem, h0, h1, h2, h3]
  cases h4 : e.toList == e'.toList
  · simp [go_sem, h0, h1, h2, h3, h4]
  · by_cases h5 : f.toList = f'.toList <;> simp [go_sem, h0, h1, h2, h3, h4, h5]
attribute [local go_sem ↓] eql_tup

def zeroCells : Array Value := #[.string ⟨#[]⟩, .string ⟨#[]⟩, .string ⟨#[]⟩, .string ⟨#[]⟩, .string ⟨#[]⟩, .string ⟨#[]⟩]
/-- what holds amid the statement that makes both lists of parts, whichever order is taken -/
structure CmpF (t u : Tup) (B : Nat) (w0 : World) (l : Array Bool) (x5 x6 x12 x13 x14 x15 : Value) (w : World) : Prop where
  h12 : l.getD 0 false = true → x12 = t.v
  h13 : l.getD 1 false = true → x13 = t.v
  h14 : l.getD 2 false = true → x14 = u.v
  h15 : l.getD 3 false = true → x15 = u.v
  below : Below B w0 w
  p5 : l.getD 4 false = true → ∃ g, x5 = .pointer (some ⟨g, 0, none⟩) ∧ B ≤ g ∧ Blk w g 113 (if l.getD 6 false = true then t.cells else zeroCells)
  p6 : l.getD 5 false = true → ∃ g, x6 = .pointer (some ⟨g, 0, none⟩) ∧ B ≤ g ∧ Blk w g 113 (if l.getD 7 false = true then u.cells else zeroCells)
  ne : l.getD 4 false = true → l.getD 5 false = true → x5 ≠ x6
  o6 : l.getD 6 false = true → l.getD 4 false = true
  o7 : l.getD 7 false = true → l.getD 5 false = true
section
variable {t u : Tup} {B : Nat} {w0 w w' : World} {l : Array Bool} {x5 x6 x12 x13 x14 x15 : Value}
theorem CmpF.s0 (hF : CmpF t u B w0 l x5 x6 x12 x13 x14 x15 w) : CmpF t u B w0 (l.setIfInBounds 0 true) x5 x6 t.v x13 x14 x15 w :=
  ⟨fun _ => rfl, by simp only [getD_set_ne (by decide : 0 ≠ 1)]; exact hF.h13, by simp only [getD_set_ne (by decide : 0 ≠ 2)]; exact hF.h14, by simp only [getD_set_ne (by decide : 0 ≠ 3)]; exact hF.h15, hF.below, by simp only [getD_set_ne (by decide : 0 ≠ 4), getD_set_ne (by decide : 0 ≠ 6)]; exact hF.p5, by simp only [getD_set_ne (by decide : 0 ≠ 5), getD_set_ne (by decide : 0 ≠ 7)]; exact hF.p6, by simp only [getD_set_ne (by decide : 0 ≠ 4), getD_set_ne (by decide : 0 ≠ 5)]; exact hF.ne, by simp only [getD_set_ne (by decide : 0 ≠ 6), getD_set_ne (by decide : 0 ≠ 4)]; exact hF.o6, by simp only [getD_set_ne (by decide : 0 ≠ 7), getD_set_ne (by decide : 0 ≠ 5)]; exact hF.o7⟩
theorem CmpF.s2 (hF : CmpF t u B w0 l x5 x6 x12 x13 x14 x15 w) : CmpF t u B w0 (l.setIfInBounds 2 true) x5 x6 x12 x13 u.v x15 w :=
  ⟨by simp only [getD_set_ne (by decide : 2 ≠ 0)]; exact hF.h12, by simp only [getD_set_ne (by decide : 2 ≠ 1)]; exact hF.h13, fun _ => rfl, by simp only [getD_set_ne (by decide : 2 ≠ 3)]; exact hF.h15, hF.below, by simp only [getD_set_ne (by decide : 2 ≠ 4), getD_set_ne (by decide : 2 ≠ 6)]; exact hF.p5, by simp only [getD_set_ne (by decide : 2 ≠ 5), getD_set_ne (by decide : 2 ≠ 7)]; exact hF.p6, by simp only [getD_set_ne (by decide : 2 ≠ 4), getD_set_ne (by decide : 2 ≠ 5)]; exact hF.ne, by simp only [getD_set_ne (by decide : 2 ≠ 6), getD_set_ne (by decide : 2 ≠ 4)]; exact hF.o6, by simp only [getD_set_ne (by decide : 2 ≠ 7), getD_set_ne (by decide : 2 ≠ 5)]; exact hF.o7⟩
theorem CmpF.later (hF : CmpF t u B w0 l x5 x6 x12 x13 x14 x15 w) (hB : B ≤ w.heap.size) (hb : Below w.heap.size w w') : CmpF t u B w0 l x5 x6 x12 x13 x14 x15 w' :=
  ⟨hF.h12, hF.h13, hF.h14, hF.h15, hF.below.trans (hb.mono hB), fun h => by obtain ⟨g, e, h1, h2⟩ := hF.p5 h; exact ⟨g, e, h1, h2.below hb h2.lt⟩, fun h => by obtain ⟨g, e, h1, h2⟩ := hF.p6 h; exact ⟨g, e, h1, h2.below hb h2.lt⟩, hF.ne, hF.o6, hF.o7⟩
theorem CmpF.s1 (hF : CmpF t u B w0 l x5 x6 x12 x13 x14 x15 w) : CmpF t u B w0 (l.setIfInBounds 1 true) x5 x6 x12 t.v x14 x15 w :=
  ⟨by simp only [getD_set_ne (by decide : 1 ≠ 0)]; exact hF.h12, fun _ => rfl, by simp only [getD_set_ne (by decide : 1 ≠ 2)]; exact hF.h14, by simp only [getD_set_ne (by decide : 1 ≠ 3)]; exact hF.h15, hF.below, by simp only [getD_set_ne (by decide : 1 ≠ 4), getD_set_ne (by decide : 1 ≠ 6)]; exact hF.p5, by simp only [getD_set_ne (by decide : 1 ≠ 5), getD_set_ne (by decide : 1 ≠ 7)]; exact hF.p6, by simp only [getD_set_ne (by decide : 1 ≠ 4), getD_set_ne (by decide : 1 ≠ 5)]; exact hF.ne, by simp only [getD_set_ne (by decide : 1 ≠ 6), getD_set_ne (by decide : 1 ≠ 4)]; exact hF.o6, by simp only [getD_set_ne (by decide : 1 ≠ 7), getD_set_ne (by decide : 1 ≠ 5)]; exact hF.o7⟩
theorem CmpF.s3 (hF : CmpF t u B w0 l x5 x6 x12 x13 x14 x15 w) : CmpF t u B w0 (l.setIfInBounds 3 true) x5 x6 x12 x13 x14 u.v w :=
  ⟨by simp only [getD_set_ne (by decide : 3 ≠ 0)]; exact hF.h12, by simp only [getD_set_ne (by decide : 3 ≠ 1)]; exact hF.h13, by simp only [getD_set_ne (by decide : 3 ≠ 2)]; exact hF.h14, fun _ => rfl, hF.below, by simp only [getD_set_ne (by decide : 3 ≠ 4), getD_set_ne (by decide : 3 ≠ 6)]; exact hF.p5, by simp only [getD_set_ne (by decide : 3 ≠ 5), getD_set_ne (by decide : 3 ≠ 7)]; exact hF.p6, by simp only [getD_set_ne (by decide : 3 ≠ 4), getD_set_ne (by decide : 3 ≠ 5)]; exact hF.ne, by simp only [getD_set_ne (by decide : 3 ≠ 6), getD_set_ne (by decide : 3 ≠ 4)]; exact hF.o6, by simp only [getD_set_ne (by decide : 3 ≠ 7), getD_set_ne (by decide : 3 ≠ 5)]; exact hF.o7⟩
theorem CmpF.s4 (hF : CmpF t u B w0 l x5 x6 x12 x13 x14 x15 w) (hB : B ≤ w.heap.size) (hf : l.getD 4 true = false) : CmpF t u B w0 (l.setIfInBounds 4 true) (.pointer (some ⟨w.heap.size, 0, none⟩)) x6 x12 x13 x14 x15 (w.alloc (.cells zeroCells 113)) := by
  have h6 : l.getD 6 false = false := by
    cases h : l.getD 6 false with
    | false => rfl
    | true => exact absurd (hF.o6 h) (by rw [not_listed hf]; simp)
  refine ⟨by simp only [getD_set_ne (by decide : 4 ≠ 0)]; exact hF.h12, by simp only [getD_set_ne (by decide : 4 ≠ 1)]; exact hF.h13, by simp only [getD_set_ne (by decide : 4 ≠ 2)]; exact hF.h14, by simp only [getD_set_ne (by decide : 4 ≠ 3)]; exact hF.h15, hF.below.alloc hB _, fun _ => ⟨_, rfl, hB, by rw [getD_set_ne (by decide : 4 ≠ 6), h6]; exact Blk.new w _ _⟩, fun h => by rw [getD_set_ne (by decide : 4 ≠ 5)] at h; rw [getD_set_ne (by decide : 4 ≠ 7)]; obtain ⟨g, e, h1, h2⟩ := hF.p6 h; exact ⟨g, e, h1, h2.alloc _⟩, ?_, fun _ => getD_set_eq hf, by simp only [getD_set_ne (by decide : 4 ≠ 7), getD_set_ne (by decide : 4 ≠ 5)]; exact hF.o7⟩
  · intro _ h
    obtain ⟨g, e, _, h2⟩ := hF.p6 (by rwa [getD_set_ne (by decide : 4 ≠ 5)] at h)
    rw [e]; intro hh; injection hh with hh; injection hh with hh; injection hh with hh
    have := h2.lt; omega
theorem CmpF.s5 (hF : CmpF t u B w0 l x5 x6 x12 x13 x14 x15 w) (hB : B ≤ w.heap.size) (hf : l.getD 5 true = false) : CmpF t u B w0 (l.setIfInBounds 5 true) x5 (.pointer (some ⟨w.heap.size, 0, none⟩)) x12 x13 x14 x15 (w.alloc (.cells zeroCells 113)) := by
  have h7 : l.getD 7 false = false := by
    cases h : l.getD 7 false with
    | false => rfl
    | true => exact absurd (hF.o7 h) (by rw [not_listed hf]; simp)
  refine ⟨by simp only [getD_set_ne (by decide : 5 ≠ 0)]; exact hF.h12, by simp only [getD_set_ne (by decide : 5 ≠ 1)]; exact hF.h13, by simp only [getD_set_ne (by decide : 5 ≠ 2)]; exact hF.h14, by simp only [getD_set_ne (by decide : 5 ≠ 3)]; exact hF.h15, hF.below.alloc hB _, fun h => by rw [getD_set_ne (by decide : 5 ≠ 4)] at h; rw [getD_set_ne (by decide : 5 ≠ 6)]; obtain ⟨g, e, h1, h2⟩ := hF.p5 h; exact ⟨g, e, h1, h2.alloc _⟩, fun _ => ⟨_, rfl, hB, by rw [getD_set_ne (by decide : 5 ≠ 7), h7]; exact Blk.new w _ _⟩, ?_, by simp only [getD_set_ne (by decide : 5 ≠ 6), getD_set_ne (by decide : 5 ≠ 4)]; exact hF.o6, fun _ => getD_set_eq hf⟩
  · intro h _
    obtain ⟨g, e, _, h2⟩ := hF.p5 (by rwa [getD_set_ne (by decide : 5 ≠ 4)] at h)
    rw [e]; intro hh; injection hh with hh; injection hh with hh; injection hh with hh
    have := h2.lt; omega
theorem list6' {l : List Value} (h : l.length = 6) : ∃ a b c d e f, l = [a, b, c, d, e, f] := by
  match l, h with
  | [a, b, c, d, e, f], _ => exact ⟨a, b, c, d, e, f, rfl⟩
/-- six stores into one block -/
theorem Blk.six {g : Nat} {T : TypeId} {cs : Array Value} (h : Blk w g T cs) (hs : cs.size = 6) (t : Tup) : Blk (World.setCell (World.setCell (World.setCell (World.setCell (World.setCell (World.setCell w ⟨g, 0, none⟩ (.string t.a)) ⟨g, 1, none⟩ (.string t.b)) ⟨g, 2, none⟩ (.string t.c)) ⟨g, 3, none⟩ (.string t.d)) ⟨g, 4, none⟩ (.string t.e)) ⟨g, 5, none⟩ (.string t.f)) g T t.cells := by
  have h1 := (((((h.set_ 0 (.string t.a)).set_ 1 (.string t.b)).set_ 2 (.string t.c)).set_ 3 (.string t.d)).set_ 4 (.string t.e)).set_ 5 (.string t.f)
  obtain ⟨l⟩ := cs
  obtain ⟨a, b, c, d, e, f, rfl⟩ := list6' (l := l) (by simpa using hs)
  simpa [Tup.cells] using h1
theorem Blk.six_far {g g' : Nat} {T : TypeId} {cs : Array Value} (h : Blk w g T cs) (hg : g ≠ g') (t : Tup) : Blk (World.setCell (World.setCell (World.setCell (World.setCell (World.setCell (World.setCell w ⟨g', 0, none⟩ (.string t.a)) ⟨g', 1, none⟩ (.string t.b)) ⟨g', 2, none⟩ (.string t.c)) ⟨g', 3, none⟩ (.string t.d)) ⟨g', 4, none⟩ (.string t.e)) ⟨g', 5, none⟩ (.string t.f)) g T cs :=
  (((((h.far (p := ⟨g', 0, none⟩) hg _).far (p := ⟨g', 1, none⟩) hg _).far (p := ⟨g', 2, none⟩) hg _).far (p := ⟨g', 3, none⟩) hg _).far (p := ⟨g', 4, none⟩) hg _).far (p := ⟨g', 5, none⟩) hg _
theorem below_six {g : Nat} (h : Below B w0 w) (hg : B ≤ g) (t : Tup) : Below B w0 (World.setCell (World.setCell (World.setCell (World.setCell (World.setCell (World.setCell w ⟨g, 0, none⟩ (.string t.a)) ⟨g, 1, none⟩ (.string t.b)) ⟨g, 2, none⟩ (.string t.c)) ⟨g, 3, none⟩ (.string t.d)) ⟨g, 4, none⟩ (.string t.e)) ⟨g, 5, none⟩ (.string t.f)) :=
  (((((h.setCell (p := ⟨g, 0, none⟩) hg _).setCell (p := ⟨g, 1, none⟩) hg _).setCell (p := ⟨g, 2, none⟩) hg _).setCell (p := ⟨g, 3, none⟩) hg _).setCell (p := ⟨g, 4, none⟩) hg _).setCell (p := ⟨g, 5, none⟩) hg _
theorem ptr_ne {g g' : Nat} (h : Value.pointer (some ⟨g, 0, none⟩) ≠ Value.pointer (some ⟨g', 0, none⟩)) : g ≠ g' := fun e => h (by rw [e])
theorem CmpF.s6 {g : Nat} (hF : CmpF t u B w0 l (.pointer (some ⟨g, 0, none⟩)) x6 x12 x13 x14 x15 w) (h4 : l.getD 4 false = true) (hf : l.getD 6 true = false) : CmpF t u B w0 (l.setIfInBounds 6 true) (.pointer (some ⟨g, 0, none⟩)) x6 x12 x13 x14 x15 (World.setCell (World.setCell (World.setCell (World.setCell (World.setCell (World.setCell w ⟨g, 0, none⟩ (.string t.a)) ⟨g, 1, none⟩ (.string t.b)) ⟨g, 2, none⟩ (.string t.c)) ⟨g, 3, none⟩ (.string t.d)) ⟨g, 4, none⟩ (.string t.e)) ⟨g, 5, none⟩ (.string t.f)) := by
  obtain ⟨g1, e, hB, hk⟩ := hF.p5 h4
  injection e with e; injection e with e; injection e with e
  subst e
  rw [not_listed hf] at hk
  refine ⟨by simp only [getD_set_ne (by decide : 6 ≠ 0)]; exact hF.h12, by simp only [getD_set_ne (by decide : 6 ≠ 1)]; exact hF.h13, by simp only [getD_set_ne (by decide : 6 ≠ 2)]; exact hF.h14, by simp only [getD_set_ne (by decide : 6 ≠ 3)]; exact hF.h15, below_six hF.below hB t, fun _ => ⟨g, rfl, hB, by rw [getD_set_eq hf]; exact Blk.six hk rfl t⟩, fun h => ?_, by simp only [getD_set_ne (by decide : 6 ≠ 4), getD_set_ne (by decide : 6 ≠ 5)]; exact hF.ne, fun _ => by rw [getD_set_ne (by decide : 6 ≠ 4)]; exact h4, by simp only [getD_set_ne (by decide : 6 ≠ 7), getD_set_ne (by decide : 6 ≠ 5)]; exact hF.o7⟩
  rw [getD_set_ne (by decide : 6 ≠ 5)] at h
  rw [getD_set_ne (by decide : 6 ≠ 7)]
  obtain ⟨g2, e, h1, h2⟩ := hF.p6 h
  exact ⟨g2, e, h1, h2.six_far (fun e2 => hF.ne h4 h (by rw [e, e2])) t⟩
theorem CmpF.s7 {g : Nat} (hF : CmpF t u B w0 l x5 (.pointer (some ⟨g, 0, none⟩)) x12 x13 x14 x15 w) (h5 : l.getD 5 false = true) (hf : l.getD 7 true = false) : CmpF t u B w0 (l.setIfInBounds 7 true) x5 (.pointer (some ⟨g, 0, none⟩)) x12 x13 x14 x15 (World.setCell (World.setCell (World.setCell (World.setCell (World.setCell (World.setCell w ⟨g, 0, none⟩ (.string u.a)) ⟨g, 1, none⟩ (.string u.b)) ⟨g, 2, none⟩ (.string u.c)) ⟨g, 3, none⟩ (.string u.d)) ⟨g, 4, none⟩ (.string u.e)) ⟨g, 5, none⟩ (.string u.f)) := by
  obtain ⟨g1, e, hB, hk⟩ := hF.p6 h5
  injection e with e; injection e with e; injection e with e
  subst e
  rw [not_listed hf] at hk
  refine ⟨by simp only [getD_set_ne (by decide : 7 ≠ 0)]; exact hF.h12, by simp only [getD_set_ne (by decide : 7 ≠ 1)]; exact hF.h13, by simp only [getD_set_ne (by decide : 7 ≠ 2)]; exact hF.h14, by simp only [getD_set_ne (by decide : 7 ≠ 3)]; exact hF.h15, below_six hF.below hB u, fun h => ?_, fun _ => ⟨g, rfl, hB, by rw [getD_set_eq hf]; exact Blk.six hk rfl u⟩, by simp only [getD_set_ne (by decide : 7 ≠ 4), getD_set_ne (by decide : 7 ≠ 5)]; exact hF.ne, by simp only [getD_set_ne (by decide : 7 ≠ 6), getD_set_ne (by decide : 7 ≠ 4)]; exact hF.o6, fun _ => by rw [getD_set_ne (by decide : 7 ≠ 5)]; exact h5⟩
  rw [getD_set_ne (by decide : 7 ≠ 4)] at h
  rw [getD_set_ne (by decide : 7 ≠ 6)]
  obtain ⟨g2, e, h1, h2⟩ := hF.p5 h
  exact ⟨g2, e, h1, h2.six_far (fun e2 => hF.ne h h5 (by rw [e, e2])) u⟩
end
set_option maxHeartbeats 2000000 in
theorem cmp_calls (t u : Tup) (w : World) :
    Calls Tryz.prog 26 #[t.v, u.v] w fun e w' => e = .returned (.int .i64 (cmpT t u)) ∧ Below w.heap.size w w' := by
  unfold Tup.v
  cases hs : t.same u
  · have hs' : same6 t.a t.b t.c t.d t.e t.f u.a u.b u.c u.d u.e u.f = false := hs
    have b0 : ∀ i, ((w.alloc (.cells t.cells 60)).alloc (.cells u.cells 60)).cell? ⟨w.heap.size, i, none⟩ = (#[.string t.a, .string t.b, .string t.c, .string t.d, .string t.e, .string t.f] : Array Value)[i]? := fun i => ((Blk.new w 60 t.cells).alloc _).cell i
    have b1 : ∀ i, ((w.alloc (.cells t.cells 60)).alloc (.cells u.cells 60)).cell? ⟨w.heap.size + 1, i, none⟩ = (#[.string u.a, .string u.b, .string u.c, .string u.d, .string u.e, .string u.f] : Array Value)[i]? := fun i => by
      have h := (Blk.new (w.alloc (.cells t.cells 60)) 60 u.cells).cell i
      simp only [World.size_alloc] at h
      exact h
    go_enter Tryz.func26, Tryz.ntmps26
    go_wp2_with fail
    refine wp_region_inv (by kernel_rfl) (fun l a w' => ∃ x5 x6 x12 x13 x14 x15, a = ⟨#[.agg #[.string t.a, .string t.b, .string t.c, .string t.d, .string t.e, .string t.f], .agg #[.string u.a, .string u.b, .string u.c, .string u.d, .string u.e, .string u.f], .pointer (some ⟨w.heap.size, 0, none⟩), .pointer (some ⟨w.heap.size + 1, 0, none⟩), .int .i64 0, x5, x6, undef, undef, .agg #[.string t.a, .string t.b, .string t.c, .string t.d, .string t.e, .string t.f], .agg #[.string u.a, .string u.b, .string u.c, .string u.d, .string u.e, .string u.f], .bool false, x12, x13, x14, x15, undef, undef, undef, undef, undef, undef, undef, undef, undef, undef, undef, undef, undef, undef], []⟩ ∧ CmpF t u (w.heap.size + 2) ((w.alloc (.cells t.cells 60)).alloc (.cells u.cells 60)) l x5 x6 x12 x13 x14 x15 w') ?_ ?_ ?_
    · refine ⟨_, _, _, _, _, _, rfl, ?_⟩
      refine ⟨?_, ?_, ?_, ?_, (Below.refl _ _).drew, ?_, ?_, ?_, ?_, ?_⟩ <;> (intro h; simp at h)
    · rintro l a wx i ⟨x5, x6, x12, x13, x14, x15, rfl, hF⟩ hi
      obtain ⟨hlt, hfree⟩ := ready_free hi
      have c0 := fun i => (hF.below.cell (p := ⟨w.heap.size, i, none⟩) (by simp)).trans (b0 i)
      have c1 := fun i => (hF.below.cell (p := ⟨w.heap.size + 1, i, none⟩) (by simp)).trans (b1 i)
      have hB : w.heap.size + 2 ≤ wx.heap.size := by have := hF.below.size; simpa using this
      rcases i with _ | _ | _ | _ | _ | _ | _ | _ | i
      · refine wpOp_one rfl ?_
        go_wp2_with fail
        exact ⟨_, _, _, _, _, _, rfl, hF.s0⟩
      · have e := hF.h12 (ready_on hi rfl ⟨0, .data⟩ (by simp) rfl)
        subst e
        refine wpOp_one rfl ?_
        go_wp2_with (go_at_call 47; refine (of_calls t _).mono ?_; rintro e w3 ⟨rfl, hb3⟩)
        exact ⟨_, _, _, _, _, _, rfl, (hF.later hB hb3).s1⟩
      · refine wpOp_one rfl ?_
        go_wp2_with fail
        exact ⟨_, _, _, _, _, _, rfl, hF.s2⟩
      · have e := hF.h14 (ready_on hi rfl ⟨2, .data⟩ (by simp) rfl)
        subst e
        refine wpOp_one rfl ?_
        go_wp2_with (go_at_call 47; refine (of_calls u _).mono ?_; rintro e w3 ⟨rfl, hb3⟩)
        exact ⟨_, _, _, _, _, _, rfl, (hF.later hB hb3).s3⟩
      · refine wpOp_one rfl ?_
        go_wp2_with fail
        exact ⟨_, _, _, _, _, _, rfl, hF.s4 hB hfree⟩
      · refine wpOp_one rfl ?_
        go_wp2_with fail
        exact ⟨_, _, _, _, _, _, rfl, hF.s5 hB hfree⟩
      · have h4 := ready_on hi rfl ⟨4, .data⟩ (by simp) rfl
        have e := hF.h13 (ready_on hi rfl ⟨1, .data⟩ (by simp) rfl)
        obtain ⟨g, e5, hg, hk⟩ := hF.p5 h4
        subst e e5
        rw [not_listed hfree] at hk
        have hk' : Blk wx g 113 #[.string ⟨#[]⟩, .string ⟨#[]⟩, .string ⟨#[]⟩, .string ⟨#[]⟩, .string ⟨#[]⟩, .string ⟨#[]⟩] := hk
        have k1 := hk'.cell
        have k2 := hk'.frozen
        refine wpOp_one rfl ?_
        go_wp2_with fail
        exact ⟨_, _, _, _, _, _, rfl, hF.s6 h4 hfree⟩
      · have h5 := ready_on hi rfl ⟨5, .data⟩ (by simp) rfl
        have e := hF.h15 (ready_on hi rfl ⟨3, .data⟩ (by simp) rfl)
        obtain ⟨g, e6, hg, hk⟩ := hF.p6 h5
        subst e e6
        rw [not_listed hfree] at hk
        have hk' : Blk wx g 113 #[.string ⟨#[]⟩, .string ⟨#[]⟩, .string ⟨#[]⟩, .string ⟨#[]⟩, .string ⟨#[]⟩, .string ⟨#[]⟩] := hk
        have k1 := hk'.cell
        have k2 := hk'.frozen
        refine wpOp_one rfl ?_
        go_wp2_with fail
        exact ⟨_, _, _, _, _, _, rfl, hF.s7 h5 hfree⟩
      · simp at hlt; omega
    · rintro l a wx ⟨x5, x6, x12, x13, x14, x15, rfl, hF⟩ hsz hr
      have D := ready_all hsz hr (by kernel_rfl)
      obtain ⟨g1, e5, hg1, k1⟩ := hF.p5 (D 4 (by simp))
      obtain ⟨g2, e6, hg2, k2⟩ := hF.p6 (D 5 (by simp))
      rw [if_pos (D 6 (by simp))] at k1
      rw [if_pos (D 7 (by simp))] at k2
      subst e5 e6
      have B1 : Below w.heap.size w wx := (((Below.refl _ _).alloc (Nat.le_refl _) _).alloc (by simp) _).trans (hF.below.mono (by omega))
      clear D hr hsz hF b0 b1
      have k1' := Lib.hid k1
      have k2' := Lib.hid k2
      clear k1 k2
      go_wp2
      go_loopw [16] (fun i wr => ∃ k : Nat, k ≤ 6 ∧ i = .int .i64 k ∧ (∀ j, j < k → Lib.compareBytes (t.part j).data.toList (u.part j).data.toList = 0) ∧ Below wx.heap.size wx wr) (fun i _ => 6 - (intOf i).toNat)
      case atStart => exact ⟨0, by omega, rfl, fun j hj => absurd hj (by omega), Below.refl _ _⟩
      case round =>
        obtain ⟨k, hk, rfl, hsm, hb⟩ := hrel
        have hsm' := Lib.hid hsm
        clear hsm
        by_cases hlt : k < 6
        · have q1 : wr.cell? ⟨g1, k, none⟩ = some (.string (t.part k)) := (hb.cell (p := ⟨g1, k, none⟩) k1'.out.lt).trans ((k1'.out.cell k).trans (cells_part t k hlt))
          have q2 : wr.cell? ⟨g2, k, none⟩ = some (.string (u.part k)) := (hb.cell (p := ⟨g2, k, none⟩) k2'.out.lt).trans ((k2'.out.cell k).trans (cells_part u k hlt))
          go_wp2_with fail
          go_quiet ((go_at_call 48; exact Calls.quiet_of_same (Tryz.strings_Compare _ _ _)))
          go_wp2
          all_goals first
            | (go_roundw
               case rel => exact ⟨k + 1, by omega, by go_num, cb_next hsm'.out (by simpa using ‹(Lib.compareBytes (t.part k).data.toList (u.part k).data.toList != 0) = false›), bdrewN hb _⟩
               case measure => simp [intOf]; omega)
            | (go_ret
               exact ⟨ret_int (cmpT_at t u k hlt hsm'.out (by simpa using ‹(Lib.compareBytes (t.part k).data.toList (u.part k).data.toList != 0) = true›)).symm, B1.trans ((bdrewN hb _).mono (by have := B1.size; omega))⟩)
        · have hn := cmpT_all t u fun j hj => hsm'.out j (by omega)
          have hn' := Lib.hid hn
          clear hn
          go_wp2
          go_ret
          exact ⟨ret_int hn'.out.symm, B1.trans (hb.mono (by have := B1.size; omega))⟩
  · go_enter Tryz.func26, Tryz.ntmps26
    have hs' : same6 t.a t.b t.c t.d t.e t.f u.a u.b u.c u.d u.e u.f = true := hs
    go_wp2
    go_ret
    exact ⟨ret_int (cmpT_same hs).symm, ((Below.refl _ _).alloc (Nat.le_refl _) _).alloc (by simp) _⟩

end Go.Proofs.YtaikedlkkjnffaaGreatDoor
