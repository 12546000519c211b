/- A condition as an argument: how it comes in; the law CondBlanks holds, for every condition and number: its tied card. -/
import Derived.Test.YtfhdecdlkmibmaaDoorCLd
namespace Go.Proofs.YtfhdecdlkmibmaaDoor
open Go.ChangeShapes Go.WideShapes Go.ChangeAt Go.RowKit Go.Deep
theorem laidOut : laidOutB Tryd.prog = true := by kernel_rfl
theorem cellsStr : Tryd.prog.cellsOf 9 = 1 := by kernel_rfl
theorem cellsInt : Tryd.prog.cellsOf 3 = 1 := by kernel_rfl
theorem cellsI64 : Tryd.prog.cellsOf 2 = 1 := by kernel_rfl
theorem cellsCond : Tryd.prog.cellsOf 25 = 4 := by kernel_rfl
theorem cellsConds : Tryd.prog.cellsOf 23 = 1 := by kernel_rfl
section
variable {H : Type} {enc : TypeId × Value → H} {w : World} {base : Nat} {spare : Nat → Bool} {held : Bool}
/-- a slice's elements, each of K cells -/
theorem open_rows {α : Type} {t e : TypeId} (ht : Tryd.prog.underlying t = some (.slice e)) {K : Nat} (hK : Tryd.prog.cellsOf e = K) (hK0 : 0 < K) {R : List Value → DataW H → α → Prop} {fuel : Nat} {c : Value} {x : DataW H × List MemPlace} (h : DataW.trod enc Tryd.prog w base spare held fuel t [c] = some x)
    (hel : ∀ (n : Nat) (cs : List Value) (y : DataW H × List MemPlace), n < fuel → cs.length = K → DataW.trod enc Tryd.prog w base spare held n e cs = some y → ∃ z, R cs y.1 z) :
    ∃ (zs : List α) (cs : List Value) (ds : List (DataW H)), RowV w c zs.length cs ∧ cs.length = zs.length * K ∧ ds.length = zs.length ∧ Rows.uptoBulkAll ds + 1 ≤ Rows.uptoBulk x.1 ∧ ∀ (i : Nat) (z : α), zs[i]? = some z → ∃ d, ds[i]? = some d ∧ R ((cs.drop (i * K)).take K) d z := by
  rcases DataW.trod_slice ht h with ⟨hcs, hx⟩ | ⟨a, len, cap, elems, rest, n, hn, hcs, hx, hb, hl, hm, hlen, hi, _, _⟩
  · simp at hcs
    subst hcs
    exact ⟨[], [], [], ⟨Nat.zero_le _, .inl ⟨none, 0, rfl, rfl⟩⟩, by simp, rfl, by rw [hx]; exact Nat.le_refl _, fun i z hz => by simp at hz⟩
  · simp at hcs
    subst hcs
    have hbk : Rows.uptoBulkAll (elems.map (·.1)) + 1 ≤ Rows.uptoBulk x.1 := by
      rw [hx]
      show _ ≤ Rows.uptoBulkAll (elems.map (·.1)) + Rows.uptoBulkAll (rest.map (·.1)) + 1
      omega
    by_cases h0 : len = 0
    · subst h0
      exact ⟨[], [], elems.map (·.1), ⟨Nat.zero_le _, .inl ⟨some a, cap, rfl, rfl⟩⟩, by simp, by rw [List.length_map, hlen]; rfl, hbk, fun i z hz => by simp at hz⟩
    have each : ∀ i, i < len → ∃ (cs' : List Value) (z : α), cs'.length = K ∧ (∀ j, j < K → w.cell? (a.add (i * K + j)) = cs'[j]?) ∧ ∃ d, (elems.map (·.1))[i]? = some d ∧ R cs' d z := fun i hil => by
      have hx := hi i hil
      have hei : elems[i]? = some (elems[i]'(by omega)) := List.getElem?_eq_getElem (by omega)
      rw [hei] at hx
      obtain ⟨cs', h1, h2⟩ := Option.bind_eq_some_iff.1 hx
      rw [hK] at h1
      obtain ⟨_, hcl, hat⟩ := World.cells?_some h1
      obtain ⟨z, hz⟩ := hel n cs' _ (by omega) hcl h2
      exact ⟨cs', z, hcl, fun j hj => by rw [← hat j hj, Go.Deep.add_add], _, by rw [List.getElem?_map, hei]; rfl, hz⟩
    -- the address is a block's
    obtain ⟨ab, ao, spot⟩ := a
    obtain ⟨c0, z0, h1, h2, _⟩ := each 0 (by omega)
    have hc0 : w.cell? ((⟨ab, ao, spot⟩ : Addr).add (0 * K + 0)) = some c0[0] := by rw [h2 0 hK0]; exact List.getElem?_eq_getElem _
    have hspot : spot = none := by simpa [Addr.add] using World.cell?_spot hc0
    subst hspot
    have hlt : ab < w.heap.size := by
      have := World.block_lt_of_cell? w _ hc0
      rwa [Addr.add_lit] at this
    have hall : ∀ i, ∃ q : List Value × Option α, i < len → q.1.length = K ∧ (∀ j, j < K → w.cell? ((⟨ab, ao, none⟩ : Addr).add (i * K + j)) = q.1[j]?) ∧ ∃ z, q.2 = some z ∧ ∃ d, (elems.map (·.1))[i]? = some d ∧ R q.1 d z := fun i => by
      by_cases hil : i < len
      · obtain ⟨cs', z, g1, g2, g3⟩ := each i hil
        exact ⟨(cs', some z), fun _ => ⟨g1, g2, z, rfl, g3⟩⟩
      · exact ⟨([], none), fun h => absurd h hil⟩
    obtain ⟨f, hf⟩ := Classical.axiomOfChoice hall
    have hz : ∀ i, i < len → ∃ z, (f i).2 = some z ∧ ∃ d, (elems.map (·.1))[i]? = some d ∧ R (f i).1 d z := fun i hil => (hf i hil).2.2
    have hone : ∀ i, i < len → ∃ z : α, (f i).2 = some z := fun i hil => by obtain ⟨z, e, _⟩ := hz i hil; exact ⟨z, e⟩
    refine ⟨(List.range len).filterMap fun i => (f i).2, (List.range (len * K)).map fun j => (w.cell? ⟨ab, ao + j, none⟩).getD (.bool false), elems.map (·.1), ?_⟩
    have hfm : ∀ n, n ≤ len → ((List.range n).filterMap fun i => (f i).2).length = n ∧ ∀ i, i < n → ((List.range n).filterMap fun i => (f i).2)[i]? = (f i).2 := by
      intro n
      induction n with
      | zero => intro _; exact ⟨rfl, fun i hi => by omega⟩
      | succ n ih =>
        intro hn
        obtain ⟨i1, i2⟩ := ih (by omega)
        obtain ⟨z, hz⟩ := hone n (by omega)
        have e : (List.range (n + 1)).filterMap (fun i => (f i).2) = (List.range n).filterMap (fun i => (f i).2) ++ [z] := by
          rw [List.range_succ, List.filterMap_append]
          simp [hz]
        rw [e]
        refine ⟨by rw [List.length_append, i1]; rfl, fun i hi => ?_⟩
        by_cases hin : i < n
        · rw [List.getElem?_append_left (by omega)]; exact i2 i hin
        · obtain rfl : i = n := by omega
          rw [List.getElem?_append_right (by omega), i1, Nat.sub_self, hz]; rfl
    obtain ⟨hL, hget⟩ := hfm len (Nat.le_refl _)
    have hcell : ∀ i j, i < len → j < K → w.cell? ⟨ab, ao + (i * K + j), none⟩ = (f i).1[j]? := fun i j hil hj => by
      have := (hf i hil).2.1 j hj
      rwa [Addr.add_lit] at this
    have hsome : ∀ q, q < len * K → ∃ u, w.cell? ⟨ab, ao + q, none⟩ = some u := fun q hq => by
      have h1 : q / K < len := (Nat.div_lt_iff_lt_mul hK0).2 hq
      have h2 : q % K < K := Nat.mod_lt _ hK0
      have e : q / K * K + q % K = q := by rw [Nat.mul_comm]; exact Nat.div_add_mod q K
      have := hcell (q / K) (q % K) h1 h2
      rw [e] at this
      rw [this, List.getElem?_eq_getElem (by rw [(hf _ h1).1]; exact h2)]
      exact ⟨_, rfl⟩
    rw [hL]
    refine ⟨⟨Nat.le_trans hl hm, .inr ⟨ab, ao, cap, rfl, hl, fun q u hu => ⟨hlt, ?_⟩⟩⟩, by simp, by rw [List.length_map, hlen], hbk, fun i z hiz => ?_⟩
    · rw [List.getElem?_map] at hu
      by_cases hq : q < len * K
      · rw [List.getElem?_range hq] at hu
        obtain ⟨u', hu'⟩ := hsome q hq
        simp only [Option.map_some, hu', Option.getD_some] at hu
        rw [hu']; exact hu
      · rw [List.getElem?_eq_none (by simp; omega)] at hu; cases hu
    · have hil : i < len := by
        have := (List.getElem?_eq_some_iff.1 hiz).1
        omega
      rw [hget i hil] at hiz
      obtain ⟨z', e1, e2⟩ := hz i hil
      rw [hiz] at e1
      obtain rfl := Option.some.inj e1
      have e : (((List.range (len * K)).map fun j => (w.cell? ⟨ab, ao + j, none⟩).getD (.bool false)).drop (i * K)).take K = (f i).1 := by
        apply List.ext_getElem?
        intro j
        by_cases hj : j < K
        · have hlt2 : i * K + j < len * K := by
            have : (i + 1) * K ≤ len * K := Nat.mul_le_mul_right _ hil
            rw [Nat.add_mul] at this; omega
          rw [List.getElem?_take, if_pos hj, List.getElem?_drop, List.getElem?_map, List.getElem?_range hlt2]
          simp only [Option.map_some]
          have hc := hcell i j hil hj
          rw [hc, List.getElem?_eq_getElem (by rw [(hf i hil).1]; exact hj)]
          rfl
        · rw [List.getElem?_take, if_neg hj, List.getElem?_eq_none (by rw [(hf i hil).1]; omega)]
      rw [e]; exact e2
theorem strV_mk (s : ByteArray) : Value.string s = strV s.data.toList := rfl
theorem list4 {l : List Value} (h : l.length = 4) : ∃ a b c d, l = [a, b, c, d] := by
  match l, h with
  | [a, b, c, d], _ => exact ⟨a, b, c, d, rfl⟩
set_option maxRecDepth 100000 in
theorem open_cond : ∀ (fuel : Nat) (cs : List Value) (x : DataW H × List MemPlace), cs.length = 4 → DataW.trod enc Tryd.prog w base spare held fuel 25 cs = some x → ∃ r : CT, CV w cs r ∧ r.fits := by
  intro fuel
  induction fuel using Nat.strongRecOn with
  | _ fuel ih =>
    intro cs x hl h
    obtain ⟨c0, c1, c2, c3, rfl⟩ := list4 hl
    obtain ⟨xs, n, hfn, hx, _, hlen, hg⟩ := DataW.trod_struct Tryd.underlying25 h
    match xs, hlen with
    | [y0, y1, y2, y3], _ =>
      obtain ⟨k, e0, _⟩ := DataW.trod_int Tryd.underlying3 (by simpa [cellsInt] using hg 0 _ rfl : DataW.trod enc Tryd.prog w base spare held n 3 [c0] = some y0)
      obtain ⟨m, e1, _⟩ := DataW.trod_int Tryd.underlying2 (by simpa [cellsI64] using hg 1 _ rfl : DataW.trod enc Tryd.prog w base spare held n 2 [c1] = some y1)
      obtain ⟨b, e2, _, k2⟩ := DataW.trod_string Tryd.underlying9 (by simpa [cellsStr] using hg 2 _ rfl : DataW.trod enc Tryd.prog w base spare held n 9 [c2] = some y2)
      have h3 : DataW.trod enc Tryd.prog w base spare held n 23 [c3] = some y3 := by simpa [cellsConds] using hg 3 _ rfl
      obtain ⟨ps, ds, es, hrow, hdl, _, _, hps'⟩ := open_rows (α := CT) (R := fun cs _ r => CV w cs r ∧ r.fits) Tryd.underlying23 cellsCond (by decide) h3 fun m cs y hm hcl hy => ih m (by omega) cs y hcl hy
      have hps : ∀ (i : Nat) (p : CT), ps[i]? = some p → CV w ((ds.drop (i * 4)).take 4) p ∧ p.fits := fun i p hi => by obtain ⟨d, _, h⟩ := hps' i p hi; exact h
      simp only [List.cons.injEq, and_true] at e0 e1 e2
      subst e0 e1 e2
      refine ⟨.node k m b.data.toList ps, ?_, ?_⟩
      · have := CV.mk (w := w) (k := k) (n := m) (s := b.data.toList) hrow hdl fun i p hi => (hps i p hi).1
        rw [← strV_mk] at this
        exact this
      · refine .mk (by rw [← Lib.size_eq]; exact k2) fun p hp => ?_
        obtain ⟨i, hi⟩ := List.getElem?_of_mem hp
        exact (hps i p hi).2
end
def blanksArgs : Array Value := #[.agg #[.int .i64 0, .int .i64 0, .string ⟨#[]⟩, .slice none 0 0], .int .u8 0]
theorem cblanks_laid (os : Os) : laidMet Tryd.prog Rows.condBlanksRow.laid ((laidWorld os).forCall (fun _ _ => 0) ⟨#[], blanksArgs, []⟩).memory :=
  laid_again os blanksArgs
theorem cblanks_reads (os : Os) {H : Type} (enc : TypeId × Value → H) : ∃ places, DataW.whole enc Tryd.prog ((laidWorld os).forCall (fun _ _ => 0) ⟨#[], blanksArgs, []⟩).memory Tryd.f4.params.toList Rows.condBlanksSpec.vars false blanksArgs.toList 8 = some ([.agg [.lit (.int .i64 0), .lit (.int .i64 0), .lit (.string []), .nil], .lit (.int .u8 0)], [], places) :=
  ⟨[], by kernel_rfl⟩
set_option maxRecDepth 100000 in
theorem cblanks_lifted (os : Os) (started : os.Started) (H : Type) (enc : TypeId × Value → H) (F : Stop.Interp) :
    ReturnsInHanded {} Tryd.checked os 4 .any ((OpenSpec.ofChange Rows.condBlanksSpec).preRow enc Tryd.prog Tryd.f4 Rows.condBlanksRow.domain false Rows.condBlanksRow.laid) (((OpenSpec.ofChange Rows.condBlanksSpec).at F).post enc Tryd.prog Tryd.f4 false true false false) := by
  obtain ⟨places, hx⟩ := cblanks_reads os enc
  refine returnsInHanded_of_row (C := Tryd.checked) (s := OpenSpec.ofChange Rows.condBlanksSpec) own started (by kernel_rfl) Tryd.func4
    (witness_row_at (enc := enc) (C := Tryd.checked) false (laidWorld os) blanksArgs rfl (by kernel_rfl) (by kernel_rfl) (by kernel_rfl)
      (OpenSpec.preRow_of_cond 8 hx (by kernel_rfl) (fun k hk => by cases hk) (by kernel_rfl) (cblanks_laid os))) ?_
  intro W base args ds gs before hval0 hW _ _ _ hlaid _ _
  have hval : ∀ (j : Nat) t v, Tryd.f4.params[j]? = some t → args[j]? = some v → Value.okWide Tryd.prog W .any base t v := hval0
  have hW' := hW
  obtain ⟨p, q, hA0, hV, rfl, hfz, hnd⟩ := hW
  have hA : DataW.TrodAll enc Tryd.prog W 0 (fun _ => true) true Tryd.f4.params.toList args.toList ds p := hA0
  rw [Tryd.params4] at hA hval
  obtain ⟨v0, v1, d0, d1, p0, p1, rfl, rfl, rfl, h0, h1⟩ := trodAll_two hA
  obtain ⟨rfl, rfl⟩ := trodVars_none hV
  obtain ⟨cs, rfl, hsz⟩ := okWide_struct Tryd.underlying25 (hval 0 25 v0 rfl rfl)
  obtain ⟨n, rfl, rfl, rfl, hn⟩ := open_int Tryd.underlying5 (hval 1 5 v1 rfl rfl) h1
  obtain ⟨k, rfl, hk⟩ := u8_nat hn
  have h0k := h0
  obtain ⟨fuel, hf⟩ := h0
  clear hA0 hval0
  simp only [List.append_nil] at hW'
  have hlt : ∀ x ∈ p0, x.block < W.heap.size := fun x hx => by simpa using hW'.lt x (by simpa using hx)
  have hargs0 : ∀ (W' : World), Below W.heap.size W W' → DataW.Trod enc Tryd.prog W' 0 (fun b => decide (b < W.heap.size)) true 25 (.agg cs) d0 p0 :=
    fun W' hn => Below.trod laidOut (by kernel_rfl) (of_decide_eq_true (by kernel_rfl)) h0k hn fun x hx => hlt x hx
  obtain ⟨c0, c1, c2, c3, hl⟩ := list4 (l := cs.toList) (by simpa [cellsCond] using hsz)
  simp only [Value.cells, hl] at hf
  obtain ⟨r, hR, hfit⟩ := open_cond _ _ _ rfl hf
  have hcs : cs = [c0, c1, c2, c3].toArray := by rw [← Array.toList_inj, hl]
  have hC := blanks_calls r [c0, c1, c2, c3] k hk W hR hfit (std_of_laid hlaid)
  rw [← hcs] at hC
  refine hC.mono fun e W' ⟨he, hB⟩ => ?_
  subst he
  exact ⟨_, rfl, _, _, _, [], _, [], hW', trodAll_mk1 (shut_bool Tryd.underlying4 _), trodAll_mk2 (hargs0 _ hB) (shut_int Tryd.underlying5 hn), rfl, hB.frame _, fun h => by cases h⟩
theorem cblanks_said : Rows.CondBlanksSaid :=
  OpenClaim.holds_of_cond 4 Tryd.f4 rfl rfl rfl rfl rfl rfl rfl ⟨rfl, rfl, rfl, rfl, rfl⟩ rfl rfl rfl rfl rfl (by kernel_rfl) Tryd.func4 (by kernel_rfl)
    (of_decide_eq_true (by kernel_rfl)) (by unfold Func.isWrapper; first | (rw [if_pos (by decide +kernel)]; kernel_rfl) | (rw [if_neg (by decide +kernel)]; exact ⟨rfl, rfl⟩))
    (fun os started H enc _ F => by rw [OpenClaim.pre_eq_preRow]; exact cblanks_lifted os started H enc F)
theorem cblanks_plain (f : FuncId) (fn : Func) (hf : Tryd.pinned.checked.prog.funcNamed "sentry/sentrylaw08.CondBlanks" = some f) (hfn : Tryd.pinned.checked.prog.funcs[f]? = some fn) :
    true = Tryd.pinned.checked.prog.looks [] ∧ ∀ (j : Nat) t, fn.params[j]? = some t → Tryd.pinned.checked.prog.wantsStandIn t = false := by
  obtain rfl : f = 4 := Option.some.inj ((show Tryd.prog.funcNamed "sentry/sentrylaw08.CondBlanks" = some 4 by kernel_rfl).symm.trans hf) |>.symm
  obtain rfl : fn = Tryd.f4 := (Option.some.inj (Tryd.func4.symm.trans hfn)).symm
  refine ⟨by kernel_rfl, fun j t ht => ?_⟩
  rw [Tryd.params4] at ht
  have h2 : t = 25 ∨ t = 5 := by simpa using Array.mem_of_getElem? ht
  rcases h2 with rfl | rfl
  · exact (show Tryd.prog.wantsStandIn 25 = false by kernel_rfl)
  · exact (show Tryd.prog.wantsStandIn 5 = false by kernel_rfl)
theorem cblanks_card : Rows.CondBlanksCardSaid :=
  Claim7.holds_tied_plain_at .later [] _ _ _ _ cblanks_said (fun _ h => by cases h) (by kernel_rfl) (fun _ h => by cases h) condBlanks_row_tie rfl ⟨rfl, rfl⟩ (by kernel_rfl) rfl cblanks_plain (by kernel_rfl)
#print axioms cblanks_card
end Go.Proofs.YtfhdecdlkmibmaaDoor
