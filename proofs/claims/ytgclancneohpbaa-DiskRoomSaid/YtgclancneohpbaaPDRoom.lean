/- The law DiskRoom holds, for any number and any sizes: no condition. -/
import Derived.Test.YtgclancneohpbaaDL4
import Derived.Test.YtgclancneohpbaaQOpen
namespace Go.Proofs.Ytgclancneohpbaa
open Go.ChangeShapes Go.WideShapes Go.ChangeAt Go.RowKit Go.Deep

theorem u16_nat {n : Int} (h : (Lit.int .u16 n).wf = true) : ∃ m : Nat, n = (m : Int) ∧ m < 65536 := by
  simp only [Lit.wf, Bool.and_eq_true, decide_eq_true_eq] at h
  obtain ⟨h1, h2⟩ := h
  have e1 : IntKind.u16.min = 0 := by decide
  have e2 : IntKind.u16.max = 65535 := by decide
  rw [e1] at h1
  rw [e2] at h2
  exact ⟨n.toNat, by omega, by omega⟩
theorem cellsU16 : Try.prog.cellsOf 42 = 1 := by kernel_rfl
theorem open_sizes {H : Type} {enc : TypeId × Value → H} {w : World} {base : Nat} {spare : Nat → Bool} {held : Bool} {fuel : Nat} {p : Option Addr} {len cap : Nat} {x : DataW H × List MemPlace} (h : DataW.trod enc Try.prog w base spare held fuel 57 [.slice p len cap] = some x) :
    ∃ zs : Nat → Nat, (∀ i, i < len → zs i < 65536) ∧ len ≤ maxLen ∧ ∀ i, i < len → ∃ a, p = some a ∧ a.block < w.heap.size ∧ w.cell? (a.add i) = some (.int .u16 (zs i)) := by
  rcases open_ints Try.underlying57 Try.underlying42 cellsU16 h with ⟨hcs, _⟩ | ⟨a, len', cap', zs, hcs, _, hl, hm, hz, _, hcell, hwz⟩
  · simp at hcs
    obtain ⟨_, rfl, _⟩ := hcs
    exact ⟨fun _ => 0, fun i hi => by omega, Nat.zero_le _, fun i hi => by omega⟩
  · simp at hcs
    obtain ⟨rfl, rfl, rfl⟩ := hcs
    have hlz : len ≤ zs.length := by rw [hz]; split <;> omega
    have hw : ∀ i, i < len → ∃ m : Nat, zs.getD i 0 = (m : Int) ∧ m < 65536 := fun i hi => by
      refine u16_nat (hwz _ ?_)
      rw [List.getD_eq_getElem?_getD, List.getElem?_eq_getElem (by omega)]
      exact List.getElem_mem _
    refine ⟨fun i => (zs.getD i 0).toNat, fun i hi => ?_, by omega, fun i hi => ⟨a, rfl, ?_, ?_⟩⟩
    · obtain ⟨m, h1, h2⟩ := hw i hi
      simp only [h1]; simpa using h2
    · have := World.block_lt_of_cell? w _ (hcell i (by omega))
      rwa [show (a.add i).block = a.block by unfold Addr.add; split <;> rfl] at this
    · obtain ⟨m, h1, h2⟩ := hw i hi
      rw [hcell i (by omega)]; simp only [h1, Int.toNat_natCast]
set_option maxRecDepth 100000 in
theorem droom_lifted (os : Os) (started : os.Started) (H : Type) (enc : TypeId × Value → H) :
    ReturnsInHanded {} Try.checked os 8 .any (Rows.diskRoomSpec.pre6 enc Try.prog Try.f8 Rows.diskRoomRow.domain false) (Rows.diskRoomSpec.post enc Try.prog Try.f8 false true false false) := by
  refine returnsInHanded_of_change (C := Try.checked) own started (by kernel_rfl) Try.func8
    (ChangeSpec.witness6 (enc := enc) (C := Try.checked) false ⟨#[], #[.int .u16 0, .slice none 0 0], []⟩ 8 (by kernel_rfl) (by kernel_rfl) (by kernel_rfl) (by kernel_rfl)) ?_
  intro W base args ds gs before hval0 hW hcnd _
  have hval : ∀ (j : Nat) t v, Try.f8.params[j]? = some t → args[j]? = some v → Value.okWide Try.prog W .any base t v := hval0
  have hW' := hW
  obtain ⟨p, q, hA0, hV, rfl, hfz, hnd⟩ := hW
  have hA : DataW.TrodAll enc Try.prog W 0 (fun _ => true) true Try.f8.params.toList args.toList ds p := hA0
  rw [Try.params8] at hA hval
  obtain ⟨v0, v1, d0, d1, p0, p1, rfl, rfl, rfl, h0, h1⟩ := trodAll_two hA
  obtain ⟨rfl, rfl⟩ := trodVars_none hV
  obtain ⟨n, rfl, rfl, rfl, hn⟩ := open_int Try.underlying42 (hval 0 42 v0 rfl rfl) h0
  obtain ⟨a0, len, cap, rfl⟩ := okWide_slice Try.underlying57 (hval 1 57 v1 rfl rfl)
  clear hA0 hval0
  simp only [List.append_nil, List.nil_append] at hW'
  have hlt : ∀ x ∈ p1, x.block < W.heap.size := fun x hx => by simpa using hW'.lt x hx
  have hargs : ∀ (W' : World), Below W.heap.size W W' → DataW.Trod enc Try.prog W' 0 (fun b => decide (b < W.heap.size)) true 57 (.slice a0 len cap) d1 p1 :=
    fun W' hb => Below.trod laidOut (by kernel_rfl) (of_decide_eq_true (by kernel_rfl)) h1 hb hlt
  obtain ⟨n', rfl, ln⟩ := u16_nat hn
  have h1k := h1
  obtain ⟨fuel, hf⟩ := h1k
  obtain ⟨zs, k1, k2, k3⟩ := open_sizes hf
  refine (diskRoom_calls n' len cap ln a0 zs W k1 k2 k3).mono fun e W' ⟨he, hB⟩ => ?_
  subst he
  exact ⟨_, rfl, _, _, _, [], p1, [], hW', trodAll_mk1 (shut_bool Try.underlying4 _), trodAll_mk2 (shut_int Try.underlying42 hn) (hargs _ hB), rfl, hB.frame _, fun h => by cases h⟩

theorem droom_holds : Rows.DiskRoomSaid :=
  OpenClaim.holds_of_wide 8 Try.f8 rfl rfl rfl rfl rfl rfl rfl ⟨rfl, rfl, rfl, rfl, rfl⟩ rfl rfl rfl rfl rfl (by kernel_rfl) Try.func8 (by kernel_rfl)
    (of_decide_eq_true (by kernel_rfl)) (by unfold Func.isWrapper; first | (rw [if_pos (by decide +kernel)]; kernel_rfl) | (rw [if_neg (by decide +kernel)]; exact ⟨rfl, rfl⟩))
    (fun os started H enc _ => droom_lifted os started H enc)
#print axioms droom_holds
end Go.Proofs.Ytgclancneohpbaa
