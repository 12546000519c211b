/- The law IndexEntries holds, for every slice of writes, nil too: no condition; its tied card. -/
import Derived.Test.YtnbalmnpcdnidaaDoorL9
import Derived.Test.YtnbalmnpcdnidaaDoorLaid
import Derived.Deep.Slices
namespace Go.Proofs.YtnbalmnpcdnidaaDoor
open Go.ChangeShapes Go.WideShapes Go.ChangeAt Go.RowKit Go.Deep
theorem laidOut : laidOutB Tryd.prog = true := by kernel_rfl
theorem cellsWr : Tryd.prog.cellsOf 52 = 7 := by kernel_rfl
theorem cellsBool : Tryd.prog.cellsOf 4 = 1 := by kernel_rfl
section
variable {H : Type} {enc : TypeId × Value → H} {w : World} {base : Nat} {spare : Nat → Bool} {held : Bool}
set_option maxRecDepth 100000 in
theorem trod_wr {fuel : Nat} {c0 c1 c2 c3 c4 c5 c6 : Value} {x : DataW H × List MemPlace} (h : DataW.trod enc Tryd.prog w base spare held fuel 52 [c0, c1, c2, c3, c4, c5, c6] = some x) :
    ∃ y : Wr, [c0, c1, c2, c3, c4, c5, c6] = y.cells.toList ∧ y.t.fits := by
  obtain ⟨xs, n, _, hx, _, hlen, hg⟩ := DataW.trod_struct Tryd.underlying52 h
  match xs, hlen with
  | [y0, y1], _ =>
    obtain ⟨b, e0, r0⟩ := DataW.trod_bool Tryd.underlying4 (by simpa [cellsBool] using hg 0 _ rfl : DataW.trod enc Tryd.prog w base spare held n 4 [c0] = some y0)
    obtain ⟨t, e1, r1, ht⟩ := trod_tup (by simpa [cellsTup] using hg 1 _ rfl : DataW.trod enc Tryd.prog w base spare held n 28 [c1, c2, c3, c4, c5, c6] = some y1)
    refine ⟨⟨b, t⟩, ?_, ht⟩
    rw [List.cons.injEq] at e0
    rw [e0.1, e1]
    rfl
theorem list7v {l : List Value} (h : l.length = 7) : ∃ a b c d e f g, l = [a, b, c, d, e, f, g] := by
  match l, h with
  | [a, b, c, d, e, f, g], _ => exact ⟨a, b, c, d, e, f, g, rfl⟩
def atW (w : World) (a : Addr) (k : Nat) (x : Wr) : Prop := a.block < w.heap.size ∧ w.cell? (a.add (k * 7)) = some (.bool x.del) ∧ w.cell? (a.add (k * 7 + 1)) = some (.string x.t.a) ∧ w.cell? (a.add (k * 7 + 2)) = some (.string x.t.b) ∧ w.cell? (a.add (k * 7 + 3)) = some (.string x.t.c) ∧ w.cell? (a.add (k * 7 + 4)) = some (.string x.t.d) ∧ w.cell? (a.add (k * 7 + 5)) = some (.string x.t.e) ∧ w.cell? (a.add (k * 7 + 6)) = some (.string x.t.f)
set_option maxRecDepth 100000 in
theorem open_writes {fuel : Nat} {p : Option Addr} {len cap : Nat} {x : DataW H × List MemPlace} (h : DataW.trod enc Tryd.prog w base spare held fuel 50 [.slice p len cap] = some x) :
    ∃ l : List Wr, l.length = len ∧ len ≤ maxLen ∧ holdsW w p l ∧ ∀ y ∈ l, y.t.fits := by
  rcases open_slice Tryd.underlying50 h with ⟨hcs, _⟩ | ⟨a, len', cap', m, n, D, Pl, hcs, _, hle, hcm, hm, _, hi⟩
  · simp at hcs
    obtain ⟨_, rfl, _⟩ := hcs
    exact ⟨[], rfl, Nat.zero_le _, fun k y hy => by simp at hy, fun y hy => by simp at hy⟩
  · simp at hcs
    obtain ⟨rfl, rfl, rfl⟩ := hcs
    have hlm : len ≤ m := by rw [hm]; split <;> omega
    have hall : ∀ i, ∃ y : Wr, i < len → atW w a i y ∧ y.t.fits := by
      intro i
      by_cases hil : i < len
      · obtain ⟨cs', hc, ht⟩ := hi i (by omega)
        rw [cellsWr] at hc
        obtain ⟨_, hcl, hat⟩ := World.cells?_some hc
        obtain ⟨c0, c1, c2, c3, c4, c5, c6, rfl⟩ := list7v hcl
        obtain ⟨y, hy, hf⟩ := trod_wr ht
        have g : ∀ j, j < 7 → w.cell? (a.add (i * 7 + j)) = y.cells.toList[j]? := by
          intro j hj
          rw [← hy, ← hat j hj, Go.Deep.add_add]
        have g0 : w.cell? (a.add (i * 7)) = some (.bool y.del) := g 0 (by omega)
        have hb := World.block_lt_of_cell? w _ g0
        rw [add_block] at hb
        exact ⟨y, fun _ => ⟨⟨hb, g0, g 1 (by omega), g 2 (by omega), g 3 (by omega), g 4 (by omega), g 5 (by omega), g 6 (by omega)⟩, hf⟩⟩
      · exact ⟨⟨false, Tup.zero⟩, fun h => absurd h hil⟩
    obtain ⟨f, hf⟩ := Classical.axiomOfChoice hall
    refine ⟨(List.range len).map f, by simp, by omega, ?_, ?_⟩
    · intro k y hy
      have hkl : k < len := by
        have := (List.getElem?_eq_some_iff.1 hy).1
        simpa using this
      have e : f k = y := by
        rw [List.getElem?_map, List.getElem?_range hkl] at hy
        simpa using hy
      obtain ⟨h1, h2⟩ := hf k hkl
      rw [e] at h1
      exact ⟨a, rfl, h1⟩
    · intro y hy
      simp at hy
      obtain ⟨k, hk, rfl⟩ := hy
      exact (hf k hk).2
end
def ientsArgs : Array Value := #[.slice none 0 0]
theorem ients_laid (os : Os) : laidMet Tryd.prog Rows.indexEntriesRow.laid ((laidWorld os).forCall (fun _ _ => 0) ⟨#[], ientsArgs, []⟩).memory :=
  laidMet_of_run' 8 (by kernel_rfl) (by kernel_rfl)
theorem ients_reads (os : Os) {H : Type} (enc : TypeId × Value → H) : ∃ places, DataW.whole enc Tryd.prog ((laidWorld os).forCall (fun _ _ => 0) ⟨#[], ientsArgs, []⟩).memory Tryd.f8.params.toList Rows.indexEntriesSpec.vars false ientsArgs.toList 8 = some ([.nil], [], places) :=
  ⟨[], by kernel_rfl⟩
set_option maxRecDepth 100000 in
theorem ients_lifted (os : Os) (started : os.Started) (H : Type) (enc : TypeId × Value → H) (F : Stop.Interp) :
    ReturnsInHanded {} Tryd.checked os 8 .any ((OpenSpec.ofChange Rows.indexEntriesSpec).preRow enc Tryd.prog Tryd.f8 Rows.indexEntriesRow.domain false Rows.indexEntriesRow.laid) (((OpenSpec.ofChange Rows.indexEntriesSpec).at F).post enc Tryd.prog Tryd.f8 false true false false) := by
  obtain ⟨places, hx⟩ := ients_reads os enc
  refine returnsInHanded_of_row (C := Tryd.checked) (s := OpenSpec.ofChange Rows.indexEntriesSpec) own started (by kernel_rfl) Tryd.func8
    (witness_row_at (enc := enc) (C := Tryd.checked) false (laidWorld os) ientsArgs rfl (by kernel_rfl) (by kernel_rfl) (by kernel_rfl)
      (OpenSpec.preRow_of_cond 8 hx (by kernel_rfl) (fun k hk => by cases hk) (by kernel_rfl) (ients_laid os))) ?_
  intro W base args ds gs before hval0 hW _ _ _ _ hsh _
  have hval : ∀ (j : Nat) t v, Tryd.f8.params[j]? = some t → args[j]? = some v → Value.okWide Tryd.prog W .any base t v := hval0
  have hW' := hW
  obtain ⟨p, q, hA0, hV, rfl, hfz, hnd⟩ := hW
  have hA : DataW.TrodAll enc Tryd.prog W 0 (fun _ => true) true Tryd.f8.params.toList args.toList ds p := hA0
  rw [Tryd.params8] at hA hval
  obtain ⟨v0, d0, rfl, rfl, h0⟩ := trodAll_one hA
  obtain ⟨rfl, rfl⟩ := trodVars_none hV
  obtain ⟨a0, len, cap, rfl⟩ := okWide_slice Tryd.underlying50 (hval 0 50 v0 rfl rfl)
  have h0k := h0
  obtain ⟨fuel, hf⟩ := h0
  clear hA0 hval0
  simp only [List.append_nil] at hW'
  have hlt : ∀ x ∈ p, x.block < W.heap.size := fun x hx => by simpa using hW'.lt x hx
  have hargs : ∀ (W' : World), Below W.heap.size W W' → DataW.Trod enc Tryd.prog W' 0 (fun b => decide (b < W.heap.size)) true 50 (.slice a0 len cap) d0 p :=
    fun W' hn => Below.trod laidOut (by kernel_rfl) (of_decide_eq_true (by kernel_rfl)) h0k hn hlt
  obtain ⟨l, rfl, hlm, hh, hfits⟩ := open_writes hf
  obtain ⟨m, hm⟩ := maxLen_cell hsh
  refine (indexEntries_calls l a0 cap m W hlm hh hfits hm).mono fun e W' ⟨he, hB⟩ => ?_
  subst he
  exact ⟨_, rfl, _, _, _, [], p, [], hW', trodAll_mk1 (shut_bool Tryd.underlying4 _), trodAll_mk1 (hargs _ hB), rfl, hB.frame _, fun h => by cases h⟩
theorem ients_said : Rows.IndexEntriesSaid :=
  OpenClaim.holds_of_cond 8 Tryd.f8 rfl rfl rfl rfl rfl rfl rfl ⟨rfl, rfl, rfl, rfl, rfl⟩ rfl rfl rfl rfl rfl (by kernel_rfl) Tryd.func8 (by kernel_rfl)
    (of_decide_eq_true (by kernel_rfl)) (by unfold Func.isWrapper; first | (rw [if_pos (by decide +kernel)]; kernel_rfl) | (rw [if_neg (by decide +kernel)]; exact ⟨rfl, rfl⟩))
    (fun os started H enc _ F => by rw [OpenClaim.pre_eq_preRow]; exact ients_lifted os started H enc F)
theorem ients_plain (f : FuncId) (fn : Func) (hf : Tryd.pinned.checked.prog.funcNamed "sentry/sentrylaw24.IndexEntries" = some f) (hfn : Tryd.pinned.checked.prog.funcs[f]? = some fn) :
    false = Tryd.pinned.checked.prog.looks [] ∧ ∀ (j : Nat) t, fn.params[j]? = some t → Tryd.pinned.checked.prog.wantsStandIn t = false := by
  obtain rfl : f = 8 := Option.some.inj ((show Tryd.prog.funcNamed "sentry/sentrylaw24.IndexEntries" = some 8 by kernel_rfl).symm.trans hf) |>.symm
  obtain rfl : fn = Tryd.f8 := (Option.some.inj (Tryd.func8.symm.trans hfn)).symm
  refine ⟨by kernel_rfl, fun j t ht => ?_⟩
  rw [Tryd.params8] at ht
  obtain rfl : t = 50 := by simpa using Array.mem_of_getElem? ht
  exact (show Tryd.prog.wantsStandIn 50 = false by kernel_rfl)
theorem ients_card : Rows.IndexEntriesCardSaid :=
  Claim7.holds_tied_plain_at .later [] _ _ _ _ ients_said (fun _ h => by cases h) (by kernel_rfl) (fun _ h => by cases h) indexEntries_row_tie rfl ⟨rfl, rfl⟩ (by kernel_rfl) rfl ients_plain (by kernel_rfl)
#print axioms ients_card
end Go.Proofs.YtnbalmnpcdnidaaDoor
