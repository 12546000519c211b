/- Walk: facts.NewBook. -/
import Derived.Test.YtaikedlkkjnffaaGreatDoorFW3
import Derived.Test.YtaikedlkkjnffaaGreatDoorUV4
import Derived.Deep.RegionHeld3
import Derived.Deep.CutRange
import Derived.BigRegion
namespace Go.Proofs.YtaikedlkkjnffaaGreatDoor
open Go.RowKit Go.Maps
attribute [local go_sem ↓] dapp_op
theorem compactT_len : ∀ l : List Tup, (compactT l).length ≤ l.length
  | [] => Nat.le_refl _
  | [t] => Nat.le_refl _
  | t :: u :: l => by
    unfold compactT
    split
    · have := compactT_len (u :: l); simp at this ⊢; omega
    · have := compactT_len (u :: l); simp at this ⊢; omega
def tcl (t : Tup) : Array Value := #[.string t.a, .string t.b, .string t.c, .string t.d, .string t.e, .string t.f]
/-- amid a round: the book, the tuple, the row of tuples -/
structure Amid (W0 wx : World) (B g bs bp bo N : Nat) (f : Value → Option Value) (SD PD : Tri → List Tri) (O : List Ob) (b5 : Nat) (t : Tup) (v4 : Value) (C : List Tup) : Prop where
  book : BookAt wx B g bs bp bo N f SD PD O
  tup : Blk wx b5 60 #[.string t.a, .string t.b, .string t.c, .string t.d, .string t.e, .string t.f]
  row : ∃ B, TOwn B wx v4 C
  below : Below B W0 wx
section
variable {W0 wx w' : World} {B g bs bp bo N N' : Nat} {f f' : Value → Option Value} {SD PD SD' PD' : Tri → List Tri} {O O' : List Ob} {b5 : Nat} {t : Tup} {v4 : Value} {C : List Tup}
theorem Amid.step {S : Nat → Prop} {T : TypeId} {b : Nat} (h : Amid W0 wx B g bs bp bo N f SD PD O b5 t v4 C) (hB : B ≤ W0.heap.size) (hb : BookAt w' B g bs bp bo N' f' SD' PD' O') (nb : ¬ ∃ T cs, Blk wx b T cs) (hT1 : 60 ≠ T) (hk : Keeps S wx w') (hS : ∀ j, j < wx.heap.size → S j → j = b ∨ ∃ cur, Blk wx j T cur) (hlow : ∀ j, S j → B ≤ j) : Amid W0 w' B g bs bp bo N' f' SD' PD' O' b5 t v4 C := by
  obtain ⟨BT, hT⟩ := h.row
  refine ⟨hb, h.tup.keeps hk (h.tup.spared hT1 nb hS), ⟨BT, hT.keeps hk fun j hj => ?_⟩, ?_⟩
  · obtain ⟨cur, hc⟩ := own_blk hT j hj
    exact hc.spared (T := T) hT1 nb hS
  · exact Keeps.below_step h.below (Nat.le_trans hB h.below.size) hk hlow
theorem Amid.later (h : Amid W0 wx B g bs bp bo N f SD PD O b5 t v4 C) (hB : B ≤ W0.heap.size) (hb : Below wx.heap.size wx w') : Amid W0 w' B g bs bp bo N f SD PD O b5 t v4 C := by
  obtain ⟨BT, hT⟩ := h.row
  exact ⟨h.book.below hb, h.tup.below hb h.tup.lt, ⟨BT, hT.later hb⟩, h.below.trans (hb.mono (Nat.le_trans hB h.below.size))⟩
theorem BookAt.objs_done {S : Nat → Prop} (h : BookAt wx B g bs bp bo N f SD PD O) (hk : Keeps S wx w') (hS : ∀ j, S j → bo ≤ j ∧ ¬ ∃ T cs, Blk wx j T cs) (hN : N ≤ N') (ho : ObjsAt w' bo N' O' f') : BookAt w' B g bs bp bo N' f' SD PD O' := by
  obtain ⟨l1, l2, l3, l4⟩ := h.low
  exact ⟨h.blk.keeps hk (fun e => (hS _ e).2 ⟨_, _, h.blk⟩), (h.subs.keeps hk (fun e => by have := (hS _ e).1; omega) (fun g cur _ hc e => (hS _ e).2 ⟨_, _, hc⟩)).mono hN,
    (h.points.keeps hk (fun e => by have := (hS _ e).1; omega) (fun g cur _ hc e => (hS _ e).2 ⟨_, _, hc⟩)).mono hN, ho, h.low⟩
theorem Amid.objs {S : Nat → Prop} (h : Amid W0 wx B g bs bp bo N f SD PD O b5 t v4 C) (hB : B ≤ W0.heap.size) (hk : Keeps S wx w') (hS : ∀ j, S j → bo ≤ j ∧ ¬ ∃ T cs, Blk wx j T cs) (hN : N ≤ N') (ho : ObjsAt w' bo N' O' f') : Amid W0 w' B g bs bp bo N' f' SD PD O' b5 t v4 C := by
  obtain ⟨l1, l2, l3, l4⟩ := h.book.low
  obtain ⟨BT, hT⟩ := h.row
  refine ⟨h.book.objs_done hk hS hN ho, h.tup.keeps hk fun e => (hS _ e).2 ⟨_, _, h.tup⟩, ⟨BT, hT.keeps hk fun j hj e => ?_⟩, Keeps.below_step h.below (Nat.le_trans hB h.below.size) hk fun j e => by have := (hS j e).1; omega⟩
  obtain ⟨cur, hc⟩ := own_blk hT j hj
  exact (hS j e).2 ⟨_, _, hc⟩
theorem ObjsAt.not_blk (h : ObjsAt wx bo N O f) : ¬ ∃ T cs, Blk wx bo T cs := by
  obtain ⟨n, h1, _⟩ := h
  exact fun ⟨T, cs, hb⟩ => h1.ne_blk hb rfl
/-- a new set -/
theorem Amid.make (h : Amid W0 wx B g bs bp bo N f SD PD O b5 t v4 C) (hB : B ≤ W0.heap.size) (hN : N < 900000) {s : ByteArray} (hs : s.size ≤ maxLen) (hf : f (.string s) = none) {b8 : Nat} {x : Ob} (h8 : Blk wx b8 24 #[.string x.t, .string x.i]) :
    ∃ w', (Instr.mapUpdate 74 (.map (some bo)) (.string s) (.map (some wx.heap.size))).run Tryz.prog (wx.alloc (.map #[] 0)).drew = .ok () w' ∧ Amid W0 w' B g bs bp bo (N + 1) (putV f (.string s) (.map (some wx.heap.size))) SD PD O b5 t v4 C ∧ Blk w' b8 24 #[.string x.t, .string x.i] := by
  have bA := ((Below.refl wx.heap.size wx).alloc (Nat.le_refl _) (.map #[] 0)).drew
  have hM : MapAt Tryz.prog 24 (wx.alloc (.map #[] 0)).drew wx.heap.size 0 (fun _ => none) := (MapAt.made _ _ _).keeps (S := fun _ => False) ((Keeps.refl _ _).drew) id
  obtain ⟨w', e, h2, k2⟩ := h.book.objs.make (by omega) hs hf (W := (wx.alloc (.map #[] 0)).drew) (.of_below bA) hM (Nat.le_refl _)
  have hA := h.later hB bA
  have nb := hA.book.objs.not_blk
  refine ⟨w', e, hA.objs hB k2 (fun j e => ?_) (by omega) h2, (h8.below bA h8.lt).keeps k2 fun e => nb ⟨_, _, e ▸ h8.below bA h8.lt⟩⟩
  subst e
  exact ⟨Nat.le_refl _, nb⟩
theorem Amid.put (h : Amid W0 wx B g bs bp bo N f SD PD O b5 t v4 C) (hB : B ≤ W0.heap.size) (hN : N < 900000) {o : Ob} (ht : o.t.size ≤ maxLen) (hi : o.i.size ≤ maxLen) {v : Value} (hf : f (.string o.t) = some v) :
    ∃ bi w', f (.string o.t) = some (.map (some bi)) ∧ (Instr.mapUpdate 84 (.map (some bi)) (.agg #[.string o.t, .string o.i]) (.bool true)).run Tryz.prog wx.drew = .ok () w' ∧ Amid W0 w' B g bs bp bo (N + 1) f SD PD (O ++ [o]) b5 t v4 C := by
  have bA := (Below.refl wx.heap.size wx).drew
  have hA := h.later hB bA
  obtain ⟨bi, w', rfl, e, h2, hlt, k2, nb⟩ := hA.book.objs.put (by omega) ht hi hf
  refine ⟨bi, w', hf, e, hA.objs hB k2 (fun j e => ?_) (by omega) h2⟩
  subst e
  exact ⟨Nat.le_of_lt hlt, nb⟩
end
end Go.Proofs.YtaikedlkkjnffaaGreatDoor
