/- Walk: a line of a dump. -/
import Derived.Test.YtkmdlpkdoplpdaaDoorUQ1
import Derived.Test.YtkmdlpkdoplpdaaDoorUR1
import Derived.Deep.RegionHeld3
import Derived.BigRegion
import Derived.Lib.SmallJoins
namespace Go.Proofs.YtkmdlpkdoplpdaaDoor
open Go.RowKit
attribute [local go_sem ↓] dapp_op
/-- the library's table of tens stands, whatever is made behind block B -/
def Tb (B : Nat) (w : World) : Prop := Lib.TabBelow Tryd.prog B w "internal/strconv.uint64pow10" .u64 Lib.pow10Tab
theorem Tb.here {B : Nat} {w : World} (h : Tb B w) : Lib.TabIs Tryd.prog w "internal/strconv.uint64pow10" .u64 Lib.pow10Tab := h w (Below.refl _ _)
theorem Tb.step {B : Nat} {w w' : World} (h : Tb B w) (hb : Below B w w') : Tb B w' := fun w'' h2 => h w'' (hb.trans h2)
/-- what a line leaves -/
def LinePost (B g : Nat) (w : World) (v : Value) (k : Nat) (R : Int × List Tup × Bool) (e : Ending) (w' : World) : Prop :=
  e = .returned (.int .i64 R.1) ∧ ∃ v', Blk w' g 51 #[v', .int .i64 (k + 1), .bool R.2.2] ∧ TOwn B w' v' R.2.1 ∧ Keeps (fun j => j = g ∨ v.ownBlock = some j) w w'
section
variable {B g : Nat} {w : World} {v : Value} {k : Nat} {d : Bool} {out : List Tup}
/-- the number goes up -/
theorem line_up (hg : Blk w g 51 #[v, .int .i64 k, .bool d]) (hT : TOwn B w v out) :
    Blk (w.setCell ⟨g, 1, none⟩ (.int .i64 (k + 1))) g 51 #[v, .int .i64 (k + 1), .bool d] ∧ TOwn B (w.setCell ⟨g, 1, none⟩ (.int .i64 (k + 1))) v out ∧ Keeps (fun j => j = g) w (w.setCell ⟨g, 1, none⟩ (.int .i64 (k + 1))) := by
  have hk : Keeps (fun j => j = g) w (w.setCell ⟨g, 1, none⟩ (.int .i64 (k + 1))) := (Keeps.refl (fun j => j = g) w).setCell (p := ⟨g, 1, none⟩) (.inl rfl) _
  exact ⟨hg.set_ 1 _, hT.keeps hk fun j hj e => hT.blk_ne hg (by decide) (by rw [hj, e]), hk⟩
set_option maxHeartbeats 1000000 in
set_option maxRecDepth 100000 in
theorem line_done (l : ByteArray) (hk : k ≤ 100000) (hg : Blk w g 51 #[v, .int .i64 k, .bool true]) (hT : TOwn B w v out) :
    Calls Tryd.prog 22 #[.pointer (some ⟨g, 0, none⟩), .string l] w (LinePost B g w v k (lineR out (k + 1) true l)) := by
  have hR : lineR out (k + 1) true l = (9, out, true) := by unfold lineR; rw [if_pos rfl]
  rw [hR]
  obtain ⟨h1, h2, h3⟩ := line_up hg hT
  have hc := hg.cell
  have hf := hg.frozen
  have h1c := h1.cell
  have h1' := Lib.hid h1
  have h2' := Lib.hid h2
  have h3' := Lib.hid h3
  clear h1 h2 h3 hR hT hg
  go_enter Tryd.func22, Tryd.ntmps22
  go_wp2_with fail
  go_ret
  exact ⟨rfl, _, h1'.out, h2'.out, h3'.out.mono fun j _ e => .inl e⟩
set_option maxHeartbeats 1000000 in
set_option maxRecDepth 100000 in
theorem line_first (l : ByteArray) (hg : Blk w g 51 #[v, .int .i64 ((0 : Nat) : Int), .bool false]) (hT : TOwn B w v out) :
    Calls Tryd.prog 22 #[.pointer (some ⟨g, 0, none⟩), .string l] w (LinePost B g w v 0 (lineR out 1 false l)) := by
  obtain ⟨h1, h2, h3⟩ := line_up hg hT
  have hc := hg.cell
  have hf := hg.frozen
  have h1c := h1.cell
  have h1' := Lib.hid h1
  have h2' := Lib.hid h2
  have h3' := Lib.hid h3
  by_cases hh : l.data.toList = headL
  · have hR : lineR out 1 false l = (0, out, false) := by unfold lineR; rw [if_neg (by decide), if_pos rfl, if_pos hh]
    rw [hR]
    have he : (l.toList == [100, 117, 109, 112, 32, 49]) = true := by rw [Lib.toList_data, hh]; rfl
    have he2 : (!l.toList == [100, 117, 109, 112, 32, 49]) = false := by rw [he]; rfl
    clear h1 h2 h3 hR hT hg hh
    go_enter Tryd.func22, Tryd.ntmps22
    go_wp2_with fail
    go_ret
    exact ⟨rfl, _, h1'.out, h2'.out, h3'.out.mono fun j _ e => .inl e⟩
  · have hR : lineR out 1 false l = (9, out, false) := by unfold lineR; rw [if_neg (by decide), if_pos rfl, if_neg hh]
    rw [hR]
    have he : (l.toList == [100, 117, 109, 112, 32, 49]) = false := by rw [Lib.toList_data]; exact beq_false_of_ne hh
    have he2 : (!l.toList == [100, 117, 109, 112, 32, 49]) = true := by rw [he]; rfl
    clear h1 h2 h3 hR hT hg hh
    go_enter Tryd.func22, Tryd.ntmps22
    go_wp2_with fail
    go_ret
    exact ⟨rfl, _, h1'.out, h2'.out, h3'.out.mono fun j _ e => .inl e⟩
end
end Go.Proofs.YtkmdlpkdoplpdaaDoor
