/- Walks: slices.SortFunc, maps.Keys, slices.Collect, slices.SortedFunc over objects. -/
import Derived.Test.YtaikedlkkjnffaaGreatDoorFM2
import Derived.Test.YtaikedlkkjnffaaGreatDoorRKS
import Derived.Test.YtaikedlkkjnffaaGreatDoorMapR
import Derived.Test.YtaikedlkkjnffaaGreatDoorFSo
import Derived.Test.YtaikedlkkjnffaaGreatDoorUV2
import Derived.Shelf.SlSortCmp.NoneTotal
import Derived.Sort.MapsRangeIn
import Derived.Shelf.AbstractIn
import Derived.RangeFuncSeq
namespace Go.Proofs.YtaikedlkkjnffaaGreatDoor
open Go.RowKit Go.Shelf Go.Sort Go.Maps
attribute [local go_sem] Oper.semAt_some
attribute [local go_sem ↓] dapp_op
theorem sortO_calls {B : Nat} {w : World} {p : Option Addr} {c : Nat} {ts : List Ob} (h : rkO.Own B w (.slice p ts.length c) ts) (hn : ts.length ≤ 1000000) :
    Calls Tryz.prog 52 #[.slice p ts.length c, .func (.func 35) #[] #[]] w fun e w' => e = .returned (.tuple #[]) ∧ ∃ s, (s.Perm ts ∧ s.Pairwise fun a b => ¬ cmpO b a < 0) ∧ rkO.Own B w' (.slice p ts.length c) s ∧ Keeps (fun j => (Value.slice p ts.length c).ownBlock = some j) w w' := by
  cases ts with
  | nil =>
    have := AnyF.slices_SortFunc_none { Tryz.sortOb with } p c (.func (.func 35) #[] #[]) w
    exact this.mono fun e w' ⟨he, hw⟩ => ⟨he, [], ⟨List.Perm.refl _, List.Pairwise.nil⟩, by rw [hw]; exact h, by rw [hw]; exact Keeps.refl _ _⟩
  | cons t ts' =>
    obtain ⟨g, c', e, _, _, hlt, _⟩ := h.cells (by simp)
    obtain ⟨rfl, rfl⟩ : p = some ⟨g, 0, none⟩ ∧ c = c' := by injection e with e1 _ e3; exact ⟨e1, e3⟩
    have eg : ∀ args w, (callFunc 35 args).run Tryz.prog w = .ok (.enter 35 args) w := enters_of Tryz.func35 (by kernel_rfl) rfl
    have hlt9 : (t :: ts').toArray.size < 4611686018427387904 := Nat.lt_of_le_of_lt (Nat.le_trans (Nat.le_of_eq (by simp)) hn) (by decide)
    have hcon := AnyQ.slices_SortFunc Tryz.sortOb 2 Tryz.isAgg24 Tryz.sizeOf24 encO (fun _ => rfl) obL_one cmpO swoO 35 #[] g 0 c (t :: ts').toArray w eg (order_lays g 0 _ w) (h.holdsK rkO_ok) hlt hlt9
    change Calls Tryz.prog 52 _ _ _ at hcon
    have hsz : (t :: ts').toArray.size = (t :: ts').length := by simp
    rw [hsz] at hcon
    refine hcon.mono fun e w' ⟨he, d', m, os, hp, hs, hw⟩ => ⟨he, d'.toList, ?_, ?_⟩
    · rw [← hsz] at hp hs
      refine ⟨permIn_permG hp, ?_⟩
      rw [← hp.1] at hs
      exact sortedIn_pairwiseG ltO hs
    · have hd : d'.size = (t :: ts').length := by rw [← hsz] at hp; rw [hp.1, hsz]
      obtain ⟨h1, h2⟩ := h.sorted rkO_ok (m := m) (os := os) hd
      rw [hw]
      exact ⟨h1, h2.mono fun j _ e => by rw [e]; rfl⟩
theorem keysO_calls (mb : Option Nat) (w : World) :
    Calls Tryz.prog 34 #[.map mb] w fun e w' => e = .returned (.func (.func 53) #[] #[.pointer (some ⟨w.heap.size, 0, none⟩)]) ∧ w.alloc (.cells #[.map mb] 84) = w' := by
  go_enter Tryz.func34, Tryz.ntmps34
  go_wp2_with fail
  go_ret
  exact ⟨rfl, rfl⟩
end Go.Proofs.YtaikedlkkjnffaaGreatDoor
