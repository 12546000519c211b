/- Walks: the program's order of objects. -/
import Derived.Test.YtaikedlkkjnffaaGreatDoorFM1
namespace Go.Proofs.YtaikedlkkjnffaaGreatDoor
open Go.RowKit Go.Sort
set_option maxHeartbeats 2000000 in
set_option maxRecDepth 100000 in
theorem order_dr (a b : Ob) (w : World) :
    Calls Tryz.prog 35 #[.agg #[.string a.t, .string a.i], .agg #[.string b.t, .string b.i]] w fun e w' => e = .returned (.int .i64 (cmpO a b)) ∧ Below w.heap.size w w' ∧ w.drawn ≤ w'.drawn := by
  have b0 := Blk.new w 24 #[.string a.t, .string a.i]
  have b1 := Blk.new (w.alloc (.cells #[.string a.t, .string a.i] 24)) 24 #[.string b.t, .string b.i]
  rw [World.size_alloc] at b1
  have b0' := b0.alloc (.cells #[.string b.t, .string b.i] 24)
  have B2 := Lib.hid (((Below.refl w.heap.size w).alloc (Nat.le_refl _) (.cells #[.string a.t, .string a.i] 24)).alloc (by simp) (.cells #[.string b.t, .string b.i] 24))
  have hz : Hid (((w.alloc (.cells #[.string a.t, .string a.i] 24)).alloc (.cells #[.string b.t, .string b.i] 24)).heap.size = w.heap.size + 2) := Lib.hid (by simp)
  have hd : Hid (((w.alloc (.cells #[.string a.t, .string a.i] 24)).alloc (.cells #[.string b.t, .string b.i] 24)).drawn = w.drawn) := Lib.hid rfl
  rw [← orI_cmp]
  obtain ⟨X, hX⟩ : ∃ X, Lib.compareBytes a.t.data.toList b.t.data.toList = X := ⟨_, rfl⟩
  obtain ⟨Y, hY⟩ : ∃ Y, Lib.compareBytes a.i.data.toList b.i.data.toList = Y := ⟨_, rfl⟩
  have cX := fun w => compareS_calls a.t b.t w
  have cY := fun w => compareS_calls a.i b.i w
  rw [hX] at cX ⊢
  rw [hY] at cY ⊢
  clear hX hY
  have cX' := Lib.hid cX
  have cY' := Lib.hid cY
  clear cX cY
  go_enter Tryz.func35, Tryz.ntmps35
  go_wp2_with fail
  obtain ⟨w2, e2⟩ : ∃ w2, (w.alloc (.cells #[.string a.t, .string a.i] 24)).alloc (.cells #[.string b.t, .string b.i] 24) = w2 := ⟨_, rfl⟩
  rw [e2] at b0' b1 B2 hz hd ⊢
  have c0 := b0'.cell
  have c1 := b1.cell
  obtain ⟨g, hg⟩ : ∃ g, w.heap.size = g := ⟨_, rfl⟩
  rw [hg] at c0 c1 B2 hz ⊢
  have k0 := Lib.hid ((b0'.alloc (.cells #[.int .i64 X, .int .i64 Y] 3)).drew.cell)
  have k1 := Lib.hid ((b1.alloc (.cells #[.int .i64 X, .int .i64 Y] 3)).drew.cell)
  rw [hg] at k0 k1
  have kO := Lib.hid (or_calls X Y w2.heap.size _ ((Blk.new w2 3 #[.int .i64 X, .int .i64 Y]).drew.cell))
  have BB := Lib.hid (B2.out.trans (((Below.refl w2.heap.size w2).alloc (Nat.le_refl _) (.cells #[.int .i64 X, .int .i64 Y] 3)).drew.mono (by rw [hz.out]; omega)))
  have hg' := Lib.hid hg
  clear b0 b1 b0' e2 hg
  go_region_held3 (fun w' => (∀ i, w'.cell? ⟨g, i, none⟩ = (#[.string a.t, .string a.i] : Array Value)[i]?) ∧ (∀ i, w'.cell? ⟨g + 1, i, none⟩ = (#[.string b.t, .string b.i] : Array Value)[i]?)) (first | exact ⟨c0, c1⟩ | exact ⟨k0.out, k1.out⟩ | go_keep) (first | (go_at_call 55; first | ((with_reducible refine (cX'.out _).mono ?_); rintro e w3 ⟨rfl, rfl⟩) | ((with_reducible refine (cY'.out _).mono ?_); rintro e w3 ⟨rfl, rfl⟩)) | (go_at_call 54; (with_reducible refine kO.out.mono ?_); rintro e w3 ⟨rfl, rfl⟩))
  go_wp2_with fail
  go_ret
  exact ⟨rfl, by rw [hg'.out]; exact BB.out, by rw [← hd.out]; exact Nat.le_succ _⟩
def encO (t : Ob) : List Value := obL t
instance : Inhabited Ob := ⟨⟨⟨#[]⟩, ⟨#[]⟩⟩⟩
theorem order_lays (blk off size : Nat) (w : World) : CmpLays Tryz.prog 35 #[] encO 2 cmpO blk off size w :=
  fun _ _ _ _ x y => (order_dr x y _).mono fun _ _ ⟨he, hb, hd⟩ => ⟨he, grow_of_below hb hd⟩
theorem ltO (x y : Ob) : ltOf cmpO x y = decide (cmpO x y < 0) := rfl
theorem swoO : SWO (ltOf cmpO) where
  irrefl x := by rw [ltO, cmpO_ok.self]; rfl
  trans x y z h1 h2 := by
    rw [ltO, decide_eq_true_eq] at *
    exact cmpO_ok.trans _ _ _ h1 h2
  ntrans x y z h1 h2 := by
    rw [ltO, decide_eq_false_iff_not] at *
    intro h3
    by_cases e : x = y
    · subst e; exact h2 h3
    · have h4 := cmpO_ok.gt h1 e
      exact h2 (cmpO_ok.trans _ _ _ h4 h3)
end Go.Proofs.YtaikedlkkjnffaaGreatDoor
