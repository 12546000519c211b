/- The law DumpWrites holds, for every slice of tuples, nil too: no condition; its tied card. -/
import Derived.Test.YtkmdlpkdoplpdaaDoorUY4
import Derived.Test.YtkmdlpkdoplpdaaDoorULaid
import Derived.Deep.Slices
namespace Go.Proofs.YtkmdlpkdoplpdaaDoor
open Go.ChangeShapes Go.WideShapes Go.ChangeAt Go.RowKit Go.Deep
theorem laidOut : laidOutB Tryd.prog = true := by kernel_rfl
section
variable {H : Type} {enc : TypeId × Value → H} {w : World} {base : Nat} {spare : Nat → Bool} {held : Bool}
theorem add_split (a : Addr) (n j : Nat) (hj : 0 < j) : a.add (n + j) = ⟨(a.add n).block, (a.add n).off + j, none⟩ := by
  have h1 : ¬(n + j = 0) := by omega
  unfold Addr.add
  rw [if_neg h1]
  by_cases h : n = 0
  · subst h; simp
  · simp [h, Nat.add_assoc]
def atT (w : World) (a : Addr) (k : Nat) (x : Tup) : Prop := (a.add (k * 6)).block < w.heap.size ∧ ∀ j, j < 6 → w.cell? (a.add (k * 6 + j)) = x.cells.toList[j]?
set_option maxRecDepth 100000 in
theorem open_tuples {fuel : Nat} {p : Option Addr} {len cap : Nat} {x : DataW H × List MemPlace} (h : DataW.trod enc Tryd.prog w base spare held fuel 22 [.slice p len cap] = some x) :
    ∃ l : List Tup, l.length = len ∧ len ≤ maxLen ∧ holdsT w p l ∧ (∀ y ∈ l, y.fits) ∧ (p = none → cap = 0) := by
  rcases open_slice Tryd.underlying22 h with ⟨hcs, _⟩ | ⟨a, len', cap', m, n, D, Pl, hcs, _, hle, hcm, hm, _, hi⟩
  · simp at hcs
    obtain ⟨_, rfl, hc⟩ := hcs
    exact ⟨[], rfl, Nat.zero_le _, fun k y hy => by simp at hy, fun y hy => by simp at hy, fun _ => hc⟩
  · simp at hcs
    obtain ⟨rfl, rfl, rfl⟩ := hcs
    have hlm : len ≤ m := by rw [hm]; split <;> omega
    have hall : ∀ i, ∃ y : Tup, i < len → atT w a i y ∧ y.fits := by
      intro i
      by_cases hil : i < len
      · obtain ⟨cs', hc, ht⟩ := hi i (by omega)
        rw [cellsTup] at hc
        obtain ⟨_, hcl, hat⟩ := World.cells?_some hc
        obtain ⟨c0, c1, c2, c3, c4, c5, rfl⟩ := list6 hcl
        obtain ⟨y, hy, _, hf⟩ := trod_tup ht
        have g : ∀ j, j < 6 → w.cell? (a.add (i * 6 + j)) = y.cells.toList[j]? := by
          intro j hj
          rw [← hy, ← hat j hj, Go.Deep.add_add]
        have g0 : w.cell? (a.add (i * 6)) = some (.string y.a) := g 0 (by omega)
        have hb := World.block_lt_of_cell? w _ g0
        exact ⟨y, fun _ => ⟨⟨hb, g⟩, hf⟩⟩
      · exact ⟨Tup.zero, fun h => absurd h hil⟩
    obtain ⟨f, hf⟩ := Classical.axiomOfChoice hall
    refine ⟨(List.range len).map f, by simp, by omega, ?_, ?_, fun e => by cases e⟩
    · intro k y hy
      have hkl : k < len := by
        have := (List.getElem?_eq_some_iff.1 hy).1
        simpa using this
      have e : f k = y := by
        rw [List.getElem?_map, List.getElem?_range hkl] at hy
        simpa using hy
      obtain ⟨⟨h1, h2⟩, _⟩ := hf k hkl
      rw [e] at h2
      refine ⟨a, _, rfl, rfl, h1, h2 0 (by omega), ?_, ?_, ?_, ?_, ?_⟩
      · rw [← add_split a _ 1 (by omega)]; exact h2 1 (by omega)
      · rw [← add_split a _ 2 (by omega)]; exact h2 2 (by omega)
      · rw [← add_split a _ 3 (by omega)]; exact h2 3 (by omega)
      · rw [← add_split a _ 4 (by omega)]; exact h2 4 (by omega)
      · rw [← add_split a _ 5 (by omega)]; exact h2 5 (by omega)
    · intro y hy
      simp at hy
      obtain ⟨k, hk, rfl⟩ := hy
      exact (hf k hk).2
end
def writesArgs : Array Value := #[.slice none 0 0]
theorem writes_laid (os : Os) : laidMet Tryd.prog Rows.dumpWritesRow.laid ((laidWorld os).forCall (fun _ _ => 0) ⟨#[], writesArgs, []⟩).memory :=
  laidMet_of_run' 8 (by kernel_rfl) (by kernel_rfl)
theorem writes_reads (os : Os) {H : Type} (enc : TypeId × Value → H) : ∃ places, DataW.whole enc Tryd.prog ((laidWorld os).forCall (fun _ _ => 0) ⟨#[], writesArgs, []⟩).memory Tryd.f3.params.toList Rows.dumpWritesSpec.vars false writesArgs.toList 8 = some ([.nil], [], places) :=
  ⟨[], by kernel_rfl⟩
set_option maxRecDepth 100000 in
theorem writes_lifted (os : Os) (started : os.Started) (H : Type) (enc : TypeId × Value → H) (F : Stop.Interp) :
    ReturnsInHanded {} Tryd.checked os 3 .any ((OpenSpec.ofChange Rows.dumpWritesSpec).preRow enc Tryd.prog Tryd.f3 Rows.dumpWritesRow.domain false Rows.dumpWritesRow.laid) (((OpenSpec.ofChange Rows.dumpWritesSpec).at F).post enc Tryd.prog Tryd.f3 false true false false) := by
  obtain ⟨places, hx⟩ := writes_reads os enc
  refine returnsInHanded_of_row (C := Tryd.checked) (s := OpenSpec.ofChange Rows.dumpWritesSpec) own started (by kernel_rfl) Tryd.func3
    (witness_row_at (enc := enc) (C := Tryd.checked) false (laidWorld os) writesArgs rfl (by kernel_rfl) (by kernel_rfl) (by kernel_rfl)
      (OpenSpec.preRow_of_cond 8 hx (by kernel_rfl) (fun k hk => by cases hk) (by kernel_rfl) (writes_laid os))) ?_
  intro W base args ds gs before hval0 hW _ _ _ hlaid _ _
  have hval : ∀ (j : Nat) t v, Tryd.f3.params[j]? = some t → args[j]? = some v → Value.okWide Tryd.prog W .any base t v := hval0
  have hW' := hW
  obtain ⟨p, q, hA0, hV, rfl, hfz, hnd⟩ := hW
  have hA : DataW.TrodAll enc Tryd.prog W 0 (fun _ => true) true Tryd.f3.params.toList args.toList ds p := hA0
  rw [Tryd.params3] at hA hval
  obtain ⟨v0, d0, rfl, rfl, h0⟩ := trodAll_one hA
  obtain ⟨rfl, rfl⟩ := trodVars_none hV
  obtain ⟨a0, len, cap, rfl⟩ := okWide_slice Tryd.underlying22 (hval 0 22 v0 rfl rfl)
  have h0k := h0
  obtain ⟨fuel, hf⟩ := h0
  clear hA0 hval0
  simp only [List.append_nil] at hW'
  have hlt : ∀ x ∈ p, x.block < W.heap.size := fun x hx => by simpa using hW'.lt x hx
  have hargs : ∀ (W' : World), Below W.heap.size W W' → DataW.Trod enc Tryd.prog W' 0 (fun b => decide (b < W.heap.size)) true 22 (.slice a0 len cap) d0 p :=
    fun W' hn => Below.trod laidOut (by kernel_rfl) (of_decide_eq_true (by kernel_rfl)) h0k hn hlt
  obtain ⟨l, rfl, hlm, hh, hfits, hnc⟩ := open_tuples hf
  refine (dumpWrites_calls l a0 cap W hlm hh hfits hnc (tb_of_laid hlaid)).mono fun e W' ⟨he, hB⟩ => ?_
  subst he
  exact ⟨_, rfl, _, _, _, [], p, [], hW', trodAll_mk1 (shut_bool Tryd.underlying4 _), trodAll_mk1 (hargs _ hB), rfl, hB.frame _, fun h => by cases h⟩
theorem writes_said : Rows.DumpWritesSaid :=
  OpenClaim.holds_of_cond 3 Tryd.f3 rfl rfl rfl rfl rfl rfl rfl ⟨rfl, rfl, rfl, rfl, rfl⟩ rfl rfl rfl rfl rfl (by kernel_rfl) Tryd.func3 (by kernel_rfl)
    (of_decide_eq_true (by kernel_rfl)) (by unfold Func.isWrapper; first | (rw [if_pos (by decide +kernel)]; kernel_rfl) | (rw [if_neg (by decide +kernel)]; exact ⟨rfl, rfl⟩))
    (fun os started H enc _ F => by rw [OpenClaim.pre_eq_preRow]; exact writes_lifted os started H enc F)
theorem writes_plain (f : FuncId) (fn : Func) (hf : Tryd.pinned.checked.prog.funcNamed "sentry/sentrylaw36.DumpWrites" = some f) (hfn : Tryd.pinned.checked.prog.funcs[f]? = some fn) :
    false = Tryd.pinned.checked.prog.looks [] ∧ ∀ (j : Nat) t, fn.params[j]? = some t → Tryd.pinned.checked.prog.wantsStandIn t = false := by
  obtain rfl : f = 3 := Option.some.inj ((show Tryd.prog.funcNamed "sentry/sentrylaw36.DumpWrites" = some 3 by kernel_rfl).symm.trans hf) |>.symm
  obtain rfl : fn = Tryd.f3 := (Option.some.inj (Tryd.func3.symm.trans hfn)).symm
  refine ⟨by kernel_rfl, fun j t ht => ?_⟩
  rw [Tryd.params3] at ht
  obtain rfl : t = 22 := by simpa using Array.mem_of_getElem? ht
  exact (show Tryd.prog.wantsStandIn 22 = false by kernel_rfl)
theorem writes_card : Rows.DumpWritesCardSaid :=
  Claim7.holds_tied_plain_at .later [] _ _ _ _ writes_said (fun _ h => by cases h) (by kernel_rfl) (fun _ h => by cases h) dumpWrites_row_tie rfl ⟨rfl, rfl⟩ (by kernel_rfl) rfl writes_plain (by kernel_rfl)
#print axioms writes_card
end Go.Proofs.YtkmdlpkdoplpdaaDoor
