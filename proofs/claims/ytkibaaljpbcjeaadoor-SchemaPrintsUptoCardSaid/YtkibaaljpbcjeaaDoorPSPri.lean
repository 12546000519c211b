/- The law SchemaPrints holds for every schema, where what it reads is of bulk at most 1048576; its tied card. -/
import Derived.Test.YtkibaaljpbcjeaaDoorSP3
import Derived.Test.YtkibaaljpbcjeaaDoorSAr
namespace Go.Proofs.YtkibaaljpbcjeaaDoor
open Go.ChangeShapes Go.WideShapes Go.ChangeAt Go.RowKit Go.Deep
theorem cellsSchema : Tryd.prog.cellsOf 25 = 1 := by kernel_rfl
theorem list1 {l : List Value} (h : l.length = 1) : ∃ a, l = [a] := by
  match l, h with
  | [a], _ => exact ⟨a, rfl⟩
def printsArgs : Array Value := #[.agg #[.slice none 0 0]]
theorem prints_laid (os : Os) : laidMet Tryd.prog Rows.schemaPrintsUptoRow.laid ((laidWorld os).forCall (fun _ _ => 0) ⟨#[], printsArgs, []⟩).memory :=
  laidMet_of_run' 8 (by kernel_rfl) (by kernel_rfl)
theorem prints_reads (os : Os) {H : Type} (enc : TypeId × Value → H) : ∃ places, DataW.whole enc Tryd.prog ((laidWorld os).forCall (fun _ _ => 0) ⟨#[], printsArgs, []⟩).memory Tryd.f4.params.toList Rows.schemaPrintsSpec.vars false printsArgs.toList 8 = some ([.agg [.nil]], [], places) :=
  ⟨[], by kernel_rfl⟩
set_option maxRecDepth 100000 in
theorem prints_lifted (os : Os) (started : os.Started) (H : Type) (enc : TypeId × Value → H) (F : Stop.Interp) :
    ReturnsInHanded {} Tryd.checked os 4 .any ((Rows.OpenSpec.upto Rows.schemaPrintsSpec).preRow enc Tryd.prog Tryd.f4 Rows.schemaPrintsUptoRow.domain false Rows.schemaPrintsUptoRow.laid) (((Rows.OpenSpec.upto Rows.schemaPrintsSpec).at F).post enc Tryd.prog Tryd.f4 false true false false) := by
  obtain ⟨places, hx⟩ := prints_reads os enc
  refine returnsInHanded_of_row (C := Tryd.checked) (s := Rows.OpenSpec.upto Rows.schemaPrintsSpec) own started (by kernel_rfl) Tryd.func4
    (witness_row_at (enc := enc) (C := Tryd.checked) false (laidWorld os) printsArgs rfl (by kernel_rfl) (by kernel_rfl) (by kernel_rfl)
      (OpenSpec.preRow_of_cond 8 hx (by kernel_rfl) (fun k hk => by cases hk; kernel_rfl) (by kernel_rfl) (prints_laid os))) ?_
  intro W base args ds gs before hval0 hW k1 k2 k3 k4 hsh _
  have hval : ∀ (j : Nat) t v, Tryd.f4.params[j]? = some t → args[j]? = some v → Value.okWide Tryd.prog W .any base t v := hval0
  have hW' := hW
  obtain ⟨p, q, hA0, hV, rfl, hfz, hnd⟩ := hW
  have hA : DataW.TrodAll enc Tryd.prog W 0 (fun _ => true) true Tryd.f4.params.toList args.toList ds p := hA0
  rw [Tryd.params4] at hA hval
  obtain ⟨v0, d0, rfl, rfl, h0⟩ := trodAll_one hA
  obtain ⟨rfl, rfl⟩ := trodVars_none hV
  have hcond : Rows.uptoSmall H [d0] = true := by
    first
      | exact k1 _ rfl
      | exact k2 _ rfl
      | exact k3 _ rfl
  obtain ⟨cs, rfl, hsz⟩ := okWide_struct Tryd.underlying25 (hval 0 25 v0 rfl rfl)
  have h0k := h0
  obtain ⟨fuel, hf⟩ := h0
  clear hA0 hval0
  simp only [List.append_nil] at hW'
  have hlt : ∀ x ∈ p, x.block < W.heap.size := fun x hx => by simpa using hW'.lt x hx
  have hargs : ∀ (W' : World), Below W.heap.size W W' → DataW.Trod enc Tryd.prog W' 0 (fun b => decide (b < W.heap.size)) true 25 (.agg cs) d0 p :=
    fun W' hn => Below.trod laidOut (by kernel_rfl) (of_decide_eq_true (by kernel_rfl)) h0k hn hlt
  obtain ⟨c, hl⟩ := list1 (l := cs.toList) (by simpa [cellsSchema] using hsz)
  simp only [Value.cells, hl] at hf
  obtain ⟨ts, hS, hfit, hbulk⟩ := open_schema hf
  have hb : Rows.uptoBulk d0 + 0 ≤ 1048576 := of_decide_eq_true hcond
  have hcs : cs = #[c] := by rw [← Array.toList_inj, hl]
  subst hcs
  obtain ⟨m, hm⟩ := maxLen_cell hsh
  refine (schemaPrints_calls c ts m W hS hfit (Nat.le_trans hbulk (by show 16 * Rows.uptoBulk d0 ≤ _; omega)) hm).mono fun e W' ⟨he, hB⟩ => ?_
  subst he
  exact ⟨_, rfl, _, _, _, [], p, [], hW', trodAll_mk1 (shut_bool Tryd.underlying4 _), trodAll_mk1 (hargs _ hB), rfl, hB.frame _, fun h => by cases h⟩
theorem prints_said : Rows.SchemaPrintsUptoSaid :=
  OpenClaim.holds_of_cond 4 Tryd.f4 rfl rfl rfl rfl rfl rfl rfl ⟨rfl, rfl, rfl, rfl, rfl⟩ rfl rfl rfl rfl rfl (by kernel_rfl) Tryd.func4 (by kernel_rfl)
    (of_decide_eq_true (by kernel_rfl)) (by unfold Func.isWrapper; first | (rw [if_pos (by decide +kernel)]; kernel_rfl) | (rw [if_neg (by decide +kernel)]; exact ⟨rfl, rfl⟩))
    (fun os started H enc _ F => by rw [OpenClaim.pre_eq_preRow]; exact prints_lifted os started H enc F)
theorem prints_plain (f : FuncId) (fn : Func) (hf : Tryd.pinned.checked.prog.funcNamed "sentry/sentrylaw05.SchemaPrints" = some f) (hfn : Tryd.pinned.checked.prog.funcs[f]? = some fn) :
    false = Tryd.pinned.checked.prog.looks [] ∧ ∀ (j : Nat) t, fn.params[j]? = some t → Tryd.pinned.checked.prog.wantsStandIn t = false := by
  obtain rfl : f = 4 := Option.some.inj ((show Tryd.prog.funcNamed "sentry/sentrylaw05.SchemaPrints" = some 4 by kernel_rfl).symm.trans hf) |>.symm
  obtain rfl : fn = Tryd.f4 := (Option.some.inj (Tryd.func4.symm.trans hfn)).symm
  refine ⟨by kernel_rfl, fun j t ht => ?_⟩
  rw [Tryd.params4] at ht
  obtain rfl : t = 25 := by simpa using Array.mem_of_getElem? ht
  exact (show Tryd.prog.wantsStandIn 25 = false by kernel_rfl)
theorem prints_card : Rows.SchemaPrintsUptoCardSaid :=
  Claim7.holds_tied_plain_at .later [] _ _ _ _ prints_said (fun _ h => by cases h) (by kernel_rfl) (fun _ h => by cases h) schemaPrintsUpto_row_tie rfl ⟨rfl, rfl⟩ (by kernel_rfl) rfl prints_plain (by kernel_rfl)
#print axioms prints_card
end Go.Proofs.YtkibaaljpbcjeaaDoor
