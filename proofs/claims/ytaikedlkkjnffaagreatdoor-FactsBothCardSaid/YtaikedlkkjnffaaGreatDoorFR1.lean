/- Rows of subjects, points and objects in memory; two of them held against each other. -/
import Derived.Test.YtaikedlkkjnffaaGreatDoorRK
import Derived.Test.YtaikedlkkjnffaaGreatDoorFP1
import Derived.Test.YtaikedlkkjnffaaGreatDoorProg
namespace Go.Proofs.YtaikedlkkjnffaaGreatDoor
open Go.RowKit
def zero3 : Array Value := #[.string ⟨#[]⟩, .string ⟨#[]⟩, .string ⟨#[]⟩]
def zero2 : Array Value := #[.string ⟨#[]⟩, .string ⟨#[]⟩]
def triL (p : Tri) : List Value := [.string p.x, .string p.y, .string p.z]
def obL (p : Ob) : List Value := [.string p.t, .string p.i]
theorem triL_one (a : Tri) : ∀ u ∈ triL a, u.oneCell' = true := by
  intro u hu
  simp [triL] at hu
  rcases hu with rfl | rfl | rfl <;> rfl
theorem obL_one (a : Ob) : ∀ u ∈ obL a, u.oneCell' = true := by
  intro u hu
  simp [obL] at hu
  rcases hu with rfl | rfl <;> rfl
def rkS : RowK Tri := ⟨33, 27, 3, triL⟩
def rkP : RowK Tri := ⟨37, 26, 3, triL⟩
def rkO : RowK Ob := ⟨40, 24, 2, obL⟩
theorem info_sub : (Tryz.prog.info? 27).map (fun i => (i.zero, i.size, i.bytes)) = some (some (.agg zero3), 3, 48) := by kernel_rfl
theorem info_point : (Tryz.prog.info? 26).map (fun i => (i.zero, i.size, i.bytes)) = some (some (.agg zero3), 3, 48) := by kernel_rfl
theorem info_obj : (Tryz.prog.info? 24).map (fun i => (i.zero, i.size, i.bytes)) = some (some (.agg zero2), 2, 32) := by kernel_rfl
theorem rkS_ok : rkS.Ok Tryz.prog := ⟨Tryz.underlying33, info_partsK info_sub rfl (by decide), fun w => Tryz.sizeOf27 w, by decide, fun _ => rfl, triL_one⟩
theorem rkP_ok : rkP.Ok Tryz.prog := ⟨Tryz.underlying37, info_partsK info_point rfl (by decide), fun w => Tryz.sizeOf26 w, by decide, fun _ => rfl, triL_one⟩
theorem rkO_ok : rkO.Ok Tryz.prog := ⟨Tryz.underlying40, info_partsK info_obj rfl (by decide), fun w => Tryz.sizeOf24 w, by decide, fun _ => rfl, obL_one⟩
theorem addK_next (a : Addr) (i j : Nat) (hj : 0 < j) : a.add (i + j) = ⟨(a.add i).block, (a.add i).off + j, none⟩ := by
  unfold Addr.add
  by_cases hi : i = 0
  · subst hi
    rw [if_neg (by omega), if_pos rfl, Nat.zero_add]
  · rw [if_neg (by omega), if_neg hi]
    simp only [Addr.mk.injEq, and_true, true_and]
    omega
theorem RowK.At.three {r : RowK Tri} {w : World} {p : Option Addr} {l : List Tri} {k : Nat} {x : Tri} (hK : r.K = 3) (he : r.en = triL) (h : r.At w p l) (hx : l[k]? = some x) :
    ∃ a b : Addr, p = some a ∧ a.add (k * 3) = b ∧ b.block < w.heap.size ∧ w.cell? b = some (.string x.x) ∧ w.cell? ⟨b.block, b.off + 1, none⟩ = some (.string x.y) ∧ w.cell? ⟨b.block, b.off + 2, none⟩ = some (.string x.z) := by
  obtain ⟨a, hp, hl, hc⟩ := h k x hx
  rw [hK] at hc
  refine ⟨a, _, hp, rfl, by rw [addK_blk]; exact hl, ?_, ?_, ?_⟩
  · exact hc 0 (.string x.x) (by rw [he]; rfl)
  · rw [← addK_next a (k * 3) 1 (by omega)]; exact hc 1 _ (by rw [he]; rfl)
  · rw [← addK_next a (k * 3) 2 (by omega)]; exact hc 2 _ (by rw [he]; rfl)
theorem RowK.At.two {r : RowK Ob} {w : World} {p : Option Addr} {l : List Ob} {k : Nat} {x : Ob} (hK : r.K = 2) (he : r.en = obL) (h : r.At w p l) (hx : l[k]? = some x) :
    ∃ a b : Addr, p = some a ∧ a.add (k * 2) = b ∧ b.block < w.heap.size ∧ w.cell? b = some (.string x.t) ∧ w.cell? ⟨b.block, b.off + 1, none⟩ = some (.string x.i) := by
  obtain ⟨a, hp, hl, hc⟩ := h k x hx
  rw [hK] at hc
  refine ⟨a, _, hp, rfl, by rw [addK_blk]; exact hl, ?_, ?_⟩
  · exact hc 0 (.string x.t) (by rw [he]; rfl)
  · rw [← addK_next a (k * 2) 1 (by omega)]; exact hc 1 _ (by rw [he]; rfl)
set_option maxHeartbeats 1000000 in
theorem eql_ob (a b a' b' : ByteArray) (w : World) : (binOp .eql 24 (.agg #[.string a, .string b]) (.agg #[.string a', .string b'])).run Tryz.prog w = .ok (.bool (same2 a b a' b')) w := by
  unfold same2
  cases h0 : a.toList == a'.toList
  · simp [go_sem, h0]
  · by_cases h5 : b.toList = b'.toList <;> simp [go_sem, h0, h5]
set_option maxHeartbeats 1000000 in
theorem neq_ob (a b a' b' : ByteArray) (w : World) : (binOp .neq 24 (.agg #[.string a, .string b]) (.agg #[.string a', .string b'])).run Tryz.prog w = .ok (.bool (!same2 a b a' b')) w := by
  unfold same2
  cases h0 : a.toList == a'.toList
  · simp [go_sem, h0]
  · by_cases h5 : b.toList = b'.toList <;> simp [go_sem, h0, h5]
set_option maxHeartbeats 1000000 in
theorem eql_sub (a b c a' b' c' : ByteArray) (w : World) : (binOp .eql 27 (.agg #[.string a, .string b, .string c]) (.agg #[.string a', .string b', .string c'])).run Tryz.prog w = .ok (.bool (same3 a b c a' b' c')) w := by
  unfold same3
  cases h0 : a.toList == a'.toList
  · simp [go_sem, h0]
  cases h1 : b.toList == b'.toList
  · simp [go_sem, h0, h1]
  · by_cases h5 : c.toList = c'.toList <;> simp [go_sem, h0, h1, h5]
set_option maxHeartbeats 1000000 in
theorem neq_sub (a b c a' b' c' : ByteArray) (w : World) : (binOp .neq 27 (.agg #[.string a, .string b, .string c]) (.agg #[.string a', .string b', .string c'])).run Tryz.prog w = .ok (.bool (!same3 a b c a' b' c')) w := by
  unfold same3
  cases h0 : a.toList == a'.toList
  · simp [go_sem, h0]
  cases h1 : b.toList == b'.toList
  · simp [go_sem, h0, h1]
  · by_cases h5 : c.toList = c'.toList <;> simp [go_sem, h0, h1, h5]
set_option maxHeartbeats 1000000 in
theorem eql_pt (a b c a' b' c' : ByteArray) (w : World) : (binOp .eql 26 (.agg #[.string a, .string b, .string c]) (.agg #[.string a', .string b', .string c'])).run Tryz.prog w = .ok (.bool (same3 a b c a' b' c')) w := by
  unfold same3
  cases h0 : a.toList == a'.toList
  · simp [go_sem, h0]
  cases h1 : b.toList == b'.toList
  · simp [go_sem, h0, h1]
  · by_cases h5 : c.toList = c'.toList <;> simp [go_sem, h0, h1, h5]
set_option maxHeartbeats 1000000 in
theorem neq_pt (a b c a' b' c' : ByteArray) (w : World) : (binOp .neq 26 (.agg #[.string a, .string b, .string c]) (.agg #[.string a', .string b', .string c'])).run Tryz.prog w = .ok (.bool (!same3 a b c a' b' c')) w := by
  unfold same3
  cases h0 : a.toList == a'.toList
  · simp [go_sem, h0]
  cases h1 : b.toList == b'.toList
  · simp [go_sem, h0, h1]
  · by_cases h5 : c.toList = c'.toList <;> simp [go_sem, h0, h1, h5]
end Go.Proofs.YtaikedlkkjnffaaGreatDoor
