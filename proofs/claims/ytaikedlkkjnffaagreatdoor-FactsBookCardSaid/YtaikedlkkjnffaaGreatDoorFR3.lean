/- Walk: the document's objects of a type. -/
import Derived.Test.YtaikedlkkjnffaaGreatDoorFR2
import Derived.Deep.RegionHeld3
import Derived.BigRegion
import Derived.IntWalk
namespace Go.Proofs.YtaikedlkkjnffaaGreatDoor
open Go.RowKit
attribute [local go_sem ↓] dapp_op
attribute [local go_sem ↓] dslK_op
attribute [local go_sem ↓] neq_ob
def objsG (xs : List Ob) (typ : ByteArray) : List Ob := (xs.filter fun o => decide (o.t = typ)).foldl (insG cmpO) []
theorem objsG_yes {xs : List Ob} {x : Ob} {typ : ByteArray} (h : x.t = typ) : objsG (xs ++ [x]) typ = insG cmpO (objsG xs typ) x := by
  unfold objsG; rw [List.filter_append, List.foldl_append]; simp [h]
theorem objsG_no {xs : List Ob} {x : Ob} {typ : ByteArray} (h : x.t ≠ typ) : objsG (xs ++ [x]) typ = objsG xs typ := by
  unfold objsG; rw [List.filter_append]; simp [h]
theorem objsG_len (xs : List Ob) (typ : ByteArray) : (objsG xs typ).length ≤ xs.length := by
  have h1 := foldl_insG_len (c := cmpO) (xs.filter fun o => decide (o.t = typ)) []
  have h2 := List.length_filter_le (fun o : Ob => decide (o.t = typ)) xs
  unfold objsG
  simp at h1
  omega
theorem objsG_two (l : List Tup) (t : Tup) : allO l ++ [t.ob] ++ [t.so] = allO (l ++ [t]) := by rw [allO_app]; simp
/-- the three orders of an insertion -/
theorem put_orders {B : Nat} {w8 : World} {ps : Option Addr} {M cs q : Nat} {S : List Ob} (x : Ob) (hS : rkO.Own B w8 (.slice ps M cs) S) (hM : S.length = M) (hq : q ≤ M) (hM2 : M ≤ 100000) :
    ∃ x3 : Value, (∀ W, (dslK 40 (.slice ps M cs) none (some (.int .i64 q)) none).run Tryz.prog W = .ok (.slice ps q cs) W) ∧ (∀ W, (dslK 40 (.slice ps M cs) (some (.int .i64 q)) none none).run Tryz.prog W = .ok x3 W) ∧
      (∃ p1 k1 w1 p2 k2 w2 p3 k3 w3, ThreeK rkO Tryz.prog w8 ((w8.alloc (.cells #[] 24)).alloc (.cells #[.string x.t, .string x.i] 24)).drew w1 (.slice (some ⟨w8.heap.size, 0, none⟩) 0 0) (.slice ps q cs) x3 (w8.heap.size + 1) q (M - q) (S.take q) (S.drop q) x p1 k1 w1 p2 k2 w2 p3 k3 w3) ∧
      (∃ p1 k1 w1 p2 k2 w2 p3 k3 w3, ThreeK rkO Tryz.prog w8 ((w8.alloc (.cells #[.string x.t, .string x.i] 24)).alloc (.cells #[] 24)).drew w1 (.slice (some ⟨w8.heap.size + 1, 0, none⟩) 0 0) (.slice ps q cs) x3 w8.heap.size q (M - q) (S.take q) (S.drop q) x p1 k1 w1 p2 k2 w2 p3 k3 w3) ∧
      (∃ p1 k1 w1 p2 k2 w2 p3 k3 w3, ThreeK rkO Tryz.prog w8 (w8.alloc (.cells #[] 24)).drew (w1.alloc (.cells #[.string x.t, .string x.i] 24)) (.slice (some ⟨w8.heap.size, 0, none⟩) 0 0) (.slice ps q cs) x3 w1.heap.size q (M - q) (S.take q) (S.drop q) x p1 k1 w1 p2 k2 w2 p3 k3 w3) := by
  subst hM
  have hcap : S.length ≤ cs := by
    rcases hS.2 with ⟨e, _⟩ | ⟨g, cap, cur, e, _, _, h3, _⟩
    · injection e with _ e2 e3; omega
    · injection e with _ e2 e3; omega
  have c1 := RowK.can_low (i := q) rkO_ok hS hq (by omega)
  have c3 := RowK.can_high (i := q) rkO_ok hS hq (by omega)
  have hn1 : (S.take q).length = q := by rw [List.length_take]; omega
  have bE := (Below.refl w8.heap.size w8).alloc (Nat.le_refl _) (.cells #[] 24)
  have bO := (Below.refl w8.heap.size w8).alloc (Nat.le_refl _) (.cells #[.string x.t, .string x.i] 24)
  have bEO := (bE.alloc (by simp) (.cells #[.string x.t, .string x.i] 24)).drew
  have bOE := (bO.alloc (by simp) (.cells #[] 24)).drew
  have oE : rkO.Own w8.heap.size (w8.alloc (.cells #[] 24)) (.slice (some ⟨w8.heap.size, 0, none⟩) 0 0) [] := World.ownsRow_lit w8 #[] 0 (Nat.le_refl _) (by unfold maxLen; omega) rfl
  have oE2 := World.ownsRow_lit (base := w8.heap.size) (e := 24) (size := 2) (w8.alloc (.cells #[.string x.t, .string x.i] 24)) #[] 0 (by simp) (by unfold maxLen; omega) rfl
  rw [World.size_alloc] at oE2
  have oEO : rkO.Own w8.heap.size ((w8.alloc (.cells #[] 24)).alloc (.cells #[.string x.t, .string x.i] 24)).drew (.slice (some ⟨w8.heap.size, 0, none⟩) 0 0) [] := oE.later (((Below.refl _ _).alloc (Nat.le_refl _) (.cells #[.string x.t, .string x.i] 24)).drew)
  have oOE : rkO.Own w8.heap.size ((w8.alloc (.cells #[.string x.t, .string x.i] 24)).alloc (.cells #[] 24)).drew (.slice (some ⟨w8.heap.size + 1, 0, none⟩) 0 0) [] := oE2.drew
  have hbO := Blk.new (w8.alloc (.cells #[] 24)) 24 #[.string x.t, .string x.i]
  rw [World.size_alloc] at hbO
  exact ⟨_, fun W => rkO_ok.low_run ps S.length cs q (by omega) W, fun W => rkO_ok.high_run ps S.length cs q hq W,
    threeK_one rkO_ok hn1 (by omega) bEO oEO c1 c3 hbO.drew rfl (by simp [Value.ownBlock]),
    threeK_one rkO_ok hn1 (by omega) bOE oOE c1 c3 (((Blk.new w8 24 #[.string x.t, .string x.i]).alloc (.cells #[] 24)).drew) rfl (by simp [Value.ownBlock]),
    threeK_late rkO_ok rfl hn1 (by omega) bE.drew oE c1 c3⟩
end Go.Proofs.YtaikedlkkjnffaaGreatDoor
