/- The law SchemaBlanks holds for every schema and every slice of bytes, where what it reads is of bulk at most 1048576; its tied card. -/
import Derived.Test.YtkibaaljpbcjeaaDoorSP4
import Derived.Test.YtkibaaljpbcjeaaDoorSAr
namespace Go.Proofs.YtkibaaljpbcjeaaDoor
open Go.ChangeShapes Go.WideShapes Go.ChangeAt Go.RowKit Go.Deep
theorem cellsSchema : Tryd.prog.cellsOf 25 = 1 := by kernel_rfl
theorem cellsU8 : Tryd.prog.cellsOf 5 = 1 := by kernel_rfl
theorem u8_nat {n : Int} (h : (Lit.int .u8 n).wf = true) : ∃ m : Nat, n = (m : Int) ∧ m < 256 := by
  simp only [Lit.wf, Bool.and_eq_true, decide_eq_true_eq] at h
  obtain ⟨h1, h2⟩ := h
  have e1 : IntKind.u8.min = 0 := by decide
  have e2 : IntKind.u8.max = 255 := by decide
  rw [e1] at h1
  rw [e2] at h2
  exact ⟨n.toNat, by omega, by omega⟩
theorem list1 {l : List Value} (h : l.length = 1) : ∃ a, l = [a] := by
  match l, h with
  | [a], _ => exact ⟨a, rfl⟩
def blanksArgs : Array Value := #[.agg #[.slice none 0 0], .slice none 0 0]
theorem blanks_laid (os : Os) : laidMet Tryd.prog Rows.schemaBlanksUptoRow.laid ((laidWorld os).forCall (fun _ _ => 0) ⟨#[], blanksArgs, []⟩).memory :=
  laidMet_of_run' 8 (by kernel_rfl) (by kernel_rfl)
theorem blanks_reads (os : Os) {H : Type} (enc : TypeId × Value → H) : ∃ places, DataW.whole enc Tryd.prog ((laidWorld os).forCall (fun _ _ => 0) ⟨#[], blanksArgs, []⟩).memory Tryd.f6.params.toList Rows.schemaBlanksSpec.vars false blanksArgs.toList 8 = some ([.agg [.nil], .nil], [], places) :=
  ⟨[], by kernel_rfl⟩
set_option maxRecDepth 100000 in
theorem blanks_lifted (os : Os) (started : os.Started) (H : Type) (enc : TypeId × Value → H) (F : Stop.Interp) :
    ReturnsInHanded {} Tryd.checked os 6 .any ((Rows.OpenSpec.upto Rows.schemaBlanksSpec).preRow enc Tryd.prog Tryd.f6 Rows.schemaBlanksUptoRow.domain false Rows.schemaBlanksUptoRow.laid) (((Rows.OpenSpec.upto Rows.schemaBlanksSpec).at F).post enc Tryd.prog Tryd.f6 false true false false) := by
  obtain ⟨places, hx⟩ := blanks_reads os enc
  refine returnsInHanded_of_row (C := Tryd.checked) (s := Rows.OpenSpec.upto Rows.schemaBlanksSpec) own started (by kernel_rfl) Tryd.func6
    (witness_row_at (enc := enc) (C := Tryd.checked) false (laidWorld os) blanksArgs rfl (by kernel_rfl) (by kernel_rfl) (by kernel_rfl)
      (OpenSpec.preRow_of_cond 8 hx (by kernel_rfl) (fun k hk => by cases hk; kernel_rfl) (by kernel_rfl) (blanks_laid os))) ?_
  intro W base args ds gs before hval0 hW k1 k2 k3 k4 hsh _
  have hval : ∀ (j : Nat) t v, Tryd.f6.params[j]? = some t → args[j]? = some v → Value.okWide Tryd.prog W .any base t v := hval0
  have hW' := hW
  obtain ⟨p, q, hA0, hV, rfl, hfz, hnd⟩ := hW
  have hA : DataW.TrodAll enc Tryd.prog W 0 (fun _ => true) true Tryd.f6.params.toList args.toList ds p := hA0
  rw [Tryd.params6] at hA hval
  obtain ⟨v0, v1, d0, d1, p0, p1, rfl, rfl, rfl, h0, h1⟩ := trodAll_two hA
  obtain ⟨rfl, rfl⟩ := trodVars_none hV
  have hcond : Rows.uptoSmall H [d0, d1] = true := by
    first
      | exact k1 _ rfl
      | exact k2 _ rfl
      | exact k3 _ rfl
  obtain ⟨cs, rfl, hsz⟩ := okWide_struct Tryd.underlying25 (hval 0 25 v0 rfl rfl)
  obtain ⟨a0, len, cap, rfl⟩ := okWide_slice Tryd.underlying34 (hval 1 34 v1 rfl rfl)
  have h0k := h0
  have h1k := h1
  obtain ⟨fuel, hf⟩ := h0
  obtain ⟨fuel1, hf1⟩ := h1
  clear hA0 hval0
  simp only [List.append_nil] at hW'
  have hlt : ∀ x ∈ p0 ++ p1, x.block < W.heap.size := fun x hx => by simpa using hW'.lt x hx
  have hargs0 : ∀ (W' : World), Below W.heap.size W W' → DataW.Trod enc Tryd.prog W' 0 (fun b => decide (b < W.heap.size)) true 25 (.agg cs) d0 p0 :=
    fun W' hn => Below.trod laidOut (by kernel_rfl) (of_decide_eq_true (by kernel_rfl)) h0k hn fun x hx => hlt x (List.mem_append_left _ hx)
  have hargs1 : ∀ (W' : World), Below W.heap.size W W' → DataW.Trod enc Tryd.prog W' 0 (fun b => decide (b < W.heap.size)) true 34 (.slice a0 len cap) d1 p1 :=
    fun W' hn => Below.trod laidOut (by kernel_rfl) (of_decide_eq_true (by kernel_rfl)) h1k hn fun x hx => hlt x (List.mem_append_right _ hx)
  obtain ⟨c, hl⟩ := list1 (l := cs.toList) (by simpa [cellsSchema] using hsz)
  simp only [Value.cells, hl] at hf
  obtain ⟨ts, hS, hfit, hbulk⟩ := open_schema hf
  have hb : Rows.uptoBulk d0 + (Rows.uptoBulk d1 + 0) ≤ 1048576 := of_decide_eq_true hcond
  have hcs : cs = #[c] := by rw [← Array.toList_inj, hl]
  subst hcs
  obtain ⟨l, es, ds', hrow, hel, _, _, hps⟩ := open_rows (α := UInt8) (K := 1) (R := fun cs _ z => cs = [.int .u8 z.toNat]) Tryd.underlying34 cellsU8 (by decide) hf1 fun n cs y _ hcl hy => by
    obtain ⟨z, hz, _, hwf⟩ := DataW.trod_int Tryd.underlying5 hy
    obtain ⟨k, rfl, hk⟩ := u8_nat hwf
    refine ⟨UInt8.ofNat k, ?_⟩
    rw [hz, UInt8.toNat_ofNat', Nat.mod_eq_of_lt hk]
  have hH : HowAt W (.slice a0 len cap) l := by
    refine ⟨es, hrow, fun i z hz => ?_⟩
    obtain ⟨_, _, h⟩ := hps i z hz
    have hh := congrArg (fun (x : List Value) => x[0]?) h
    simp only [List.getElem?_take, List.getElem?_drop] at hh
    simpa using hh
  have hlm : l.length ≤ maxLen := hrow.1
  obtain ⟨m, hm⟩ := maxLen_cell hsh
  refine (schemaBlanks_calls c (.slice a0 len cap) ts l m W hS hfit (Nat.le_trans hbulk (by show 16 * Rows.uptoBulk d0 ≤ _; omega)) hH hlm hm).mono fun e W' ⟨he, hB⟩ => ?_
  subst he
  exact ⟨_, rfl, _, _, _, [], _, [], hW', trodAll_mk1 (shut_bool Tryd.underlying4 _), trodAll_mk2 (hargs0 _ hB) (hargs1 _ hB), rfl, hB.frame _, fun h => by cases h⟩
theorem blanks_said : Rows.SchemaBlanksUptoSaid :=
  OpenClaim.holds_of_cond 6 Tryd.f6 rfl rfl rfl rfl rfl rfl rfl ⟨rfl, rfl, rfl, rfl, rfl⟩ rfl rfl rfl rfl rfl (by kernel_rfl) Tryd.func6 (by kernel_rfl)
    (of_decide_eq_true (by kernel_rfl)) (by unfold Func.isWrapper; first | (rw [if_pos (by decide +kernel)]; kernel_rfl) | (rw [if_neg (by decide +kernel)]; exact ⟨rfl, rfl⟩))
    (fun os started H enc _ F => by rw [OpenClaim.pre_eq_preRow]; exact blanks_lifted os started H enc F)
theorem blanks_plain (f : FuncId) (fn : Func) (hf : Tryd.pinned.checked.prog.funcNamed "sentry/sentrylaw05.SchemaBlanks" = some f) (hfn : Tryd.pinned.checked.prog.funcs[f]? = some fn) :
    false = Tryd.pinned.checked.prog.looks [] ∧ ∀ (j : Nat) t, fn.params[j]? = some t → Tryd.pinned.checked.prog.wantsStandIn t = false := by
  obtain rfl : f = 6 := Option.some.inj ((show Tryd.prog.funcNamed "sentry/sentrylaw05.SchemaBlanks" = some 6 by kernel_rfl).symm.trans hf) |>.symm
  obtain rfl : fn = Tryd.f6 := (Option.some.inj (Tryd.func6.symm.trans hfn)).symm
  refine ⟨by kernel_rfl, fun j t ht => ?_⟩
  rw [Tryd.params6] at ht
  have h2 : t = 25 ∨ t = 34 := by simpa using Array.mem_of_getElem? ht
  rcases h2 with rfl | rfl
  · exact (show Tryd.prog.wantsStandIn 25 = false by kernel_rfl)
  · exact (show Tryd.prog.wantsStandIn 34 = false by kernel_rfl)
theorem blanks_card : Rows.SchemaBlanksUptoCardSaid :=
  Claim7.holds_tied_plain_at .later [] _ _ _ _ blanks_said (fun _ h => by cases h) (by kernel_rfl) (fun _ h => by cases h) schemaBlanksUpto_row_tie rfl ⟨rfl, rfl⟩ (by kernel_rfl) rfl blanks_plain (by kernel_rfl)
#print axioms blanks_card
end Go.Proofs.YtkibaaljpbcjeaaDoor
