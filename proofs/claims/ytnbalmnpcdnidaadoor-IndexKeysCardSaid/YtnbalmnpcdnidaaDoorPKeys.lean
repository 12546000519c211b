/- The law IndexKeys holds, for every tuple: no condition; its tied card. -/
import Derived.Test.YtnbalmnpcdnidaaDoorL6
import Derived.Test.YtnbalmnpcdnidaaDoorLaid
namespace Go.Proofs.YtnbalmnpcdnidaaDoor
open Go.ChangeShapes Go.WideShapes Go.ChangeAt Go.RowKit Go.Deep
def ikeysArgs : Array Value := #[Tup.zero.v]
theorem ikeys_laid (os : Os) : laidMet Tryd.prog Rows.indexKeysRow.laid ((laidWorld os).forCall (fun _ _ => 0) ⟨#[], ikeysArgs, []⟩).memory :=
  laidMet_of_run' 8 (by kernel_rfl) (by kernel_rfl)
theorem ikeys_reads (os : Os) {H : Type} (enc : TypeId × Value → H) : ∃ places, DataW.whole enc Tryd.prog ((laidWorld os).forCall (fun _ _ => 0) ⟨#[], ikeysArgs, []⟩).memory Tryd.f6.params.toList Rows.indexKeysSpec.vars false ikeysArgs.toList 8 = some ([Tup.zero.data], [], places) :=
  ⟨[], by kernel_rfl⟩
set_option maxRecDepth 100000 in
theorem ikeys_lifted (os : Os) (started : os.Started) (H : Type) (enc : TypeId × Value → H) (F : Stop.Interp) :
    ReturnsInHanded {} Tryd.checked os 6 .any ((OpenSpec.ofChange Rows.indexKeysSpec).preRow enc Tryd.prog Tryd.f6 Rows.indexKeysRow.domain false Rows.indexKeysRow.laid) (((OpenSpec.ofChange Rows.indexKeysSpec).at F).post enc Tryd.prog Tryd.f6 false true false false) := by
  obtain ⟨places, hx⟩ := ikeys_reads os enc
  refine returnsInHanded_of_row (C := Tryd.checked) (s := OpenSpec.ofChange Rows.indexKeysSpec) own started (by kernel_rfl) Tryd.func6
    (witness_row_at (enc := enc) (C := Tryd.checked) false (laidWorld os) ikeysArgs rfl (by kernel_rfl) (by kernel_rfl) (by kernel_rfl)
      (OpenSpec.preRow_of_cond 8 hx (by kernel_rfl) (fun k hk => by cases hk) (by kernel_rfl) (ikeys_laid os))) ?_
  intro W base args ds gs before hval0 hW _ _ _ _ hsh _
  have hval : ∀ (j : Nat) t v, Tryd.f6.params[j]? = some t → args[j]? = some v → Value.okWide Tryd.prog W .any base t v := hval0
  have hW' := hW
  obtain ⟨p, q, hA0, hV, rfl, hfz, hnd⟩ := hW
  have hA : DataW.TrodAll enc Tryd.prog W 0 (fun _ => true) true Tryd.f6.params.toList args.toList ds p := hA0
  rw [Tryd.params6] at hA hval
  obtain ⟨v0, d0, rfl, rfl, h0⟩ := trodAll_one hA
  obtain ⟨rfl, rfl⟩ := trodVars_none hV
  obtain ⟨t, rfl, rfl, rfl, ht⟩ := open_tup (hval 0 28 v0 rfl rfl) h0
  clear hA0 hval0
  simp only [List.append_nil] at hW'
  obtain ⟨m, hm⟩ := maxLen_cell hsh
  refine (indexKeys_calls t m W ht hm).mono fun e W' ⟨he, hg⟩ => ?_
  subst he
  exact ⟨_, rfl, post_of_below (pa := []) (pv := []) hW' (fun _ _ _ => trodAll_mk1 (shut_bool Tryd.underlying4 _)) (fun sp _ => trodAll_mk1 (shut_tup ht)) (fun _ _ => rfl) rfl
    hg (ok_one (by kernel_rfl) rfl (okWide_bool_mk Tryd.underlying4 _))⟩
theorem ikeys_said : Rows.IndexKeysSaid :=
  OpenClaim.holds_of_cond 6 Tryd.f6 rfl rfl rfl rfl rfl rfl rfl ⟨rfl, rfl, rfl, rfl, rfl⟩ rfl rfl rfl rfl rfl (by kernel_rfl) Tryd.func6 (by kernel_rfl)
    (of_decide_eq_true (by kernel_rfl)) (by unfold Func.isWrapper; first | (rw [if_pos (by decide +kernel)]; kernel_rfl) | (rw [if_neg (by decide +kernel)]; exact ⟨rfl, rfl⟩))
    (fun os started H enc _ F => by rw [OpenClaim.pre_eq_preRow]; exact ikeys_lifted os started H enc F)
theorem ikeys_plain (f : FuncId) (fn : Func) (hf : Tryd.pinned.checked.prog.funcNamed "sentry/sentrylaw24.IndexKeys" = some f) (hfn : Tryd.pinned.checked.prog.funcs[f]? = some fn) :
    false = Tryd.pinned.checked.prog.looks [] ∧ ∀ (j : Nat) t, fn.params[j]? = some t → Tryd.pinned.checked.prog.wantsStandIn t = false := by
  obtain rfl : f = 6 := Option.some.inj ((show Tryd.prog.funcNamed "sentry/sentrylaw24.IndexKeys" = some 6 by kernel_rfl).symm.trans hf) |>.symm
  obtain rfl : fn = Tryd.f6 := (Option.some.inj (Tryd.func6.symm.trans hfn)).symm
  refine ⟨by kernel_rfl, fun j t ht => ?_⟩
  rw [Tryd.params6] at ht
  obtain rfl : t = 28 := by simpa using Array.mem_of_getElem? ht
  exact (show Tryd.prog.wantsStandIn 28 = false by kernel_rfl)
theorem ikeys_card : Rows.IndexKeysCardSaid :=
  Claim7.holds_tied_plain_at .later [] _ _ _ _ ikeys_said (fun _ h => by cases h) (by kernel_rfl) (fun _ h => by cases h) indexKeys_row_tie rfl ⟨rfl, rfl⟩ (by kernel_rfl) rfl ikeys_plain (by kernel_rfl)
#print axioms ikeys_card
end Go.Proofs.YtnbalmnpcdnidaaDoor
