/- A condition as an argument: how it comes in. The end of a card: how what is told is read; a world in which the library's tables and errors hold what their initialisers lay; what the row's condition gives. The law WeighOpposes holds, for every condition, numbers, text and flag: no condition; its tied card. -/
import Derived.Test.YtdfgbkilaepolaaGreatDoorPO18
import Derived.Deep.Slices
import Derived.Test.YtdfgbkilaepolaaGreatDoorRows
import Derived.Test.YtdfgbkilaepolaaGreatDoorShelfB
import Derived.Test.YtdfgbkilaepolaaGreatDoorCards
import Derived.Test.YtdfgbkilaepolaaGreatDoorTie
import Derived.ProofKit
import Derived.Deep.Strs
import Derived.Deep.DeepHandedRow
import Derived.Lib.LaidTab
import Derived.Stop.LaidErr
import Derived.Test.YtdfgbkilaepolaaGreatDoorPO26
namespace Go.Proofs.YtdfgbkilaepolaaGreatDoor
open Go.ChangeShapes Go.WideShapes Go.ChangeAt Go.RowKit Go.Deep
theorem laidOut : laidOutB Tryz.prog = true := by kernel_rfl
theorem cellsStr : Tryz.prog.cellsOf 9 = 1 := by kernel_rfl
theorem cellsInt : Tryz.prog.cellsOf 3 = 1 := by kernel_rfl
theorem cellsI64 : Tryz.prog.cellsOf 2 = 1 := by kernel_rfl
theorem cellsCond : Tryz.prog.cellsOf 28 = 4 := by kernel_rfl
theorem cellsConds : Tryz.prog.cellsOf 26 = 1 := by kernel_rfl
theorem list4 {l : List Value} (h : l.length = 4) : ∃ a b c d, l = [a, b, c, d] := by
  match l, h with
  | [a, b, c, d], _ => exact ⟨a, b, c, d, rfl⟩
section
variable {H : Type} {enc : TypeId × Value → H} {w : World} {base : Nat} {spare : Nat → Bool} {held : Bool}
/-- a slice's elements, each of K cells -/
theorem open_rows {α : Type} {t e : TypeId} (ht : Tryz.prog.underlying t = some (.slice e)) {K : Nat} (hK : Tryz.prog.cellsOf e = K) (hK0 : 0 < K) {R : List Value → DataW H → α → Prop} {fuel : Nat} {c : Value} {x : DataW H × List MemPlace} (h : DataW.trod enc Tryz.prog w base spare held fuel t [c] = some x)
    (hel : ∀ (n : Nat) (cs : List Value) (y : DataW H × List MemPlace), n < fuel → cs.length = K → DataW.trod enc Tryz.prog w base spare held n e cs = some y → ∃ z, R cs y.1 z) :
    ∃ (zs : List α) (cs : List Value) (ds : List (DataW H)), RowV w c zs.length cs ∧ cs.length = zs.length * K ∧ ds.length = zs.length ∧ Rows.uptoBulkAll ds + 1 ≤ Rows.uptoBulk x.1 ∧ ∀ (i : Nat) (z : α), zs[i]? = some z → ∃ d, ds[i]? = some d ∧ R ((cs.drop (i * K)).take K) d z := by
  rcases DataW.trod_slice ht h with ⟨hcs, hx⟩ | ⟨a, len, cap, elems, rest, n, hn, hcs, hx, hb, hl, hm, hlen, hi, _, _⟩
  · simp at hcs
    subst hcs
    exact ⟨[], [], [], ⟨Nat.zero_le _, .inl ⟨none, 0, rfl, rfl⟩⟩, by simp, rfl, by rw [hx]; exact Nat.le_refl _, fun i z hz => by simp at hz⟩
  · simp at hcs
    subst hcs
    have hbk : Rows.uptoBulkAll (elems.map (·.1)) + 1 ≤ Rows.uptoBulk x.1 := by
      rw [hx]
      show _ ≤ Rows.uptoBulkAll (elems.map (·.1)) + Rows.uptoBulkAll (rest.map (·.1)) + 1
      omega
    by_cases h0 : len = 0
    · subst h0
      exact ⟨[], [], elems.map (·.1), ⟨Nat.zero_le _, .inl ⟨some a, cap, rfl, rfl⟩⟩, by simp, by rw [List.length_map, hlen]; rfl, hbk, fun i z hz => by simp at hz⟩
    have each : ∀ i, i < len → ∃ (cs' : List Value) (z : α), cs'.length = K ∧ (∀ j, j < K → w.cell? (a.add (i * K + j)) = cs'[j]?) ∧ ∃ d, (elems.map (·.1))[i]? = some d ∧ R cs' d z := fun i hil => by
      have hx := hi i hil
      have hei : elems[i]? = some (elems[i]'(by omega)) := List.getElem?_eq_getElem (by omega)
      rw [hei] at hx
      obtain ⟨cs', h1, h2⟩ := Option.bind_eq_some_iff.1 hx
      rw [hK] at h1
      obtain ⟨_, hcl, hat⟩ := World.cells?_some h1
      obtain ⟨z, hz⟩ := hel n cs' _ (by omega) hcl h2
      exact ⟨cs', z, hcl, fun j hj => by rw [← hat j hj, Go.Deep.add_add], _, by rw [List.getElem?_map, hei]; rfl, hz⟩
    -- the address is a block's
    obtain ⟨ab, ao, spot⟩ := a
    obtain ⟨c0, z0, h1, h2, _⟩ := each 0 (by omega)
    have hc0 : w.cell? ((⟨ab, ao, spot⟩ : Addr).add (0 * K + 0)) = some c0[0] := by rw [h2 0 hK0]; exact List.getElem?_eq_getElem _
    have hspot : spot = none := by simpa [Addr.add] using World.cell?_spot hc0
    subst hspot
    have hlt : ab < w.heap.size := by
      have := World.block_lt_of_cell? w _ hc0
      rwa [Addr.add_lit] at this
    have hall : ∀ i, ∃ q : List Value × Option α, i < len → q.1.length = K ∧ (∀ j, j < K → w.cell? ((⟨ab, ao, none⟩ : Addr).add (i * K + j)) = q.1[j]?) ∧ ∃ z, q.2 = some z ∧ ∃ d, (elems.map (·.1))[i]? = some d ∧ R q.1 d z := fun i => by
      by_cases hil : i < len
      · obtain ⟨cs', z, g1, g2, g3⟩ := each i hil
        exact ⟨(cs', some z), fun _ => ⟨g1, g2, z, rfl, g3⟩⟩
      · exact ⟨([], none), fun h => absurd h hil⟩
    obtain ⟨f, hf⟩ := Classical.axiomOfChoice hall
    have hz : ∀ i, i < len → ∃ z, (f i).2 = some z ∧ ∃ d, (elems.map (·.1))[i]? = some d ∧ R (f i).1 d z := fun i hil => (hf i hil).2.2
    have hone : ∀ i, i < len → ∃ z : α, (f i).2 = some z := fun i hil => by obtain ⟨z, e, _⟩ := hz i hil; exact ⟨z, e⟩
    refine ⟨(List.range len).filterMap fun i => (f i).2, (List.range (len * K)).map fun j => (w.cell? ⟨ab, ao + j, none⟩).getD (.bool false), elems.map (·.1), ?_⟩
    have hfm : ∀ n, n ≤ len → ((List.range n).filterMap fun i => (f i).2).length = n ∧ ∀ i, i < n → ((List.range n).filterMap fun i => (f i).2)[i]? = (f i).2 := by
      intro n
      induction n with
      | zero => intro _; exact ⟨rfl, fun i hi => by omega⟩
      | succ n ih =>
        intro hn
        obtain ⟨i1, i2⟩ := ih (by omega)
        obtain ⟨z, hz⟩ := hone n (by omega)
        have e : (List.range (n + 1)).filterMap (fun i => (f i).2) = (List.range n).filterMap (fun i => (f i).2) ++ [z] := by
          rw [List.range_succ, List.filterMap_append]
          simp [hz]
        rw [e]
        refine ⟨by rw [List.length_append, i1]; rfl, fun i hi => ?_⟩
        by_cases hin : i < n
        · rw [List.getElem?_append_left (by omega)]; exact i2 i hin
        · obtain rfl : i = n := by omega
          rw [List.getElem?_append_right (by omega), i1, Nat.sub_self, hz]; rfl
    obtain ⟨hL, hget⟩ := hfm len (Nat.le_refl _)
    have hcell : ∀ i j, i < len → j < K → w.cell? ⟨ab, ao + (i * K + j), none⟩ = (f i).1[j]? := fun i j hil hj => by
      have := (hf i hil).2.1 j hj
      rwa [Addr.add_lit] at this
    have hsome : ∀ q, q < len * K → ∃ u, w.cell? ⟨ab, ao + q, none⟩ = some u := fun q hq => by
      have h1 : q / K < len := (Nat.div_lt_iff_lt_mul hK0).2 hq
      have h2 : q % K < K := Nat.mod_lt _ hK0
      have e : q / K * K + q % K = q := by rw [Nat.mul_comm]; exact Nat.div_add_mod q K
      have := hcell (q / K) (q % K) h1 h2
      rw [e] at this
      rw [this, List.getElem?_eq_getElem (by rw [(hf _ h1).1]; exact h2)]
      exact ⟨_, rfl⟩
    rw [hL]
    refine ⟨⟨Nat.le_trans hl hm, .inr ⟨ab, ao, cap, rfl, hl, fun q u hu => ⟨hlt, ?_⟩⟩⟩, by simp, by rw [List.length_map, hlen], hbk, fun i z hiz => ?_⟩
    · rw [List.getElem?_map] at hu
      by_cases hq : q < len * K
      · rw [List.getElem?_range hq] at hu
        obtain ⟨u', hu'⟩ := hsome q hq
        simp only [Option.map_some, hu', Option.getD_some] at hu
        rw [hu']; exact hu
      · rw [List.getElem?_eq_none (by simp; omega)] at hu; cases hu
    · have hil : i < len := by
        have := (List.getElem?_eq_some_iff.1 hiz).1
        omega
      rw [hget i hil] at hiz
      obtain ⟨z', e1, e2⟩ := hz i hil
      rw [hiz] at e1
      obtain rfl := Option.some.inj e1
      have e : (((List.range (len * K)).map fun j => (w.cell? ⟨ab, ao + j, none⟩).getD (.bool false)).drop (i * K)).take K = (f i).1 := by
        apply List.ext_getElem?
        intro j
        by_cases hj : j < K
        · have hlt2 : i * K + j < len * K := by
            have : (i + 1) * K ≤ len * K := Nat.mul_le_mul_right _ hil
            rw [Nat.add_mul] at this; omega
          rw [List.getElem?_take, if_pos hj, List.getElem?_drop, List.getElem?_map, List.getElem?_range hlt2]
          simp only [Option.map_some]
          have hc := hcell i j hil hj
          rw [hc, List.getElem?_eq_getElem (by rw [(hf i hil).1]; exact hj)]
          rfl
        · rw [List.getElem?_take, if_neg hj, List.getElem?_eq_none (by rw [(hf i hil).1]; omega)]
      rw [e]; exact e2
set_option maxRecDepth 100000 in
theorem open_cond : ∀ (fuel : Nat) (cs : List Value) (x : DataW H × List MemPlace), cs.length = 4 → DataW.trod enc Tryz.prog w base spare held fuel 28 cs = some x → ∃ r : CT, CV w cs r ∧ r.fits := by
  intro fuel
  induction fuel using Nat.strongRecOn with
  | _ fuel ih =>
    intro cs x hl h
    obtain ⟨c0, c1, c2, c3, rfl⟩ := list4 hl
    obtain ⟨xs, n, hfn, hx, _, hlen, hg⟩ := DataW.trod_struct Tryz.underlying28 h
    match xs, hlen with
    | [y0, y1, y2, y3], _ =>
      obtain ⟨k, e0, _⟩ := DataW.trod_int Tryz.underlying3 (by simpa [cellsInt] using hg 0 _ rfl : DataW.trod enc Tryz.prog w base spare held n 3 [c0] = some y0)
      obtain ⟨m, e1, _⟩ := DataW.trod_int Tryz.underlying2 (by simpa [cellsI64] using hg 1 _ rfl : DataW.trod enc Tryz.prog w base spare held n 2 [c1] = some y1)
      obtain ⟨a, e2, r2', k2⟩ := DataW.trod_string Tryz.underlying9 (by simpa [cellsStr] using hg 2 _ rfl : DataW.trod enc Tryz.prog w base spare held n 9 [c2] = some y2)
      have h3 : DataW.trod enc Tryz.prog w base spare held n 26 [c3] = some y3 := by simpa [cellsConds] using hg 3 _ rfl
      obtain ⟨ps, ds, es, hrow, hdl, hel, hbk, hps'⟩ := open_rows (α := CT) (R := fun cs _ r => CV w cs r ∧ r.fits) Tryz.underlying26 cellsCond (by decide) h3 fun m cs y hm hcl hy => ih m (by omega) cs y hcl hy
      have hps : ∀ (i : Nat) (p : CT), ps[i]? = some p → CV w ((ds.drop (i * 4)).take 4) p ∧ p.fits := fun i p hi => by obtain ⟨d, _, h⟩ := hps' i p hi; exact h
      simp only [List.cons.injEq, and_true] at e0 e1 e2
      subst e0 e1 e2
      refine ⟨.node k m a.data.toList ps, ?_, ?_⟩
      · have := CV.mk (w := w) (k := k) (n := m) (s := a.data.toList) hrow hdl fun i p hi => (hps i p hi).1
        rw [show strV a.data.toList = .string a by unfold strV; rw [Array.toArray_toList]] at this
        exact this
      · refine .mk (by rw [← Lib.size_eq]; exact k2) fun p hp => ?_
        obtain ⟨i, hi⟩ := List.getElem?_of_mem hp
        exact (hps i p hi).2
theorem trodAll_five {t0 t1 t2 t3 t4 : TypeId} {P : Program} {args : Array Value} {ds : List (DataW H)} {ps : List MemPlace} (h : DataW.TrodAll enc P w base spare held [t0, t1, t2, t3, t4] args.toList ds ps) :
    ∃ v0 v1 v2 v3 v4 d0 d1 d2 d3 d4 p0 p1 p2 p3 p4, args = #[v0, v1, v2, v3, v4] ∧ ds = [d0, d1, d2, d3, d4] ∧ ps = p0 ++ p1 ++ p2 ++ p3 ++ p4 ∧ DataW.Trod enc P w base spare held t0 v0 d0 p0 ∧ DataW.Trod enc P w base spare held t1 v1 d1 p1 ∧ DataW.Trod enc P w base spare held t2 v2 d2 p2 ∧ DataW.Trod enc P w base spare held t3 v3 d3 p3 ∧ DataW.Trod enc P w base spare held t4 v4 d4 p4 := by
  obtain ⟨v0, vs0, d0, ds0, p0, q0, hargs, rfl, rfl, hd0, hr0⟩ := trodAll_cons h
  obtain ⟨v1, vs1, d1, ds1, p1, q1, rfl, rfl, rfl, hd1, hr1⟩ := trodAll_cons hr0
  obtain ⟨v2, vs2, d2, ds2, p2, q2, rfl, rfl, rfl, hd2, hr2⟩ := trodAll_cons hr1
  obtain ⟨v3, vs3, d3, ds3, p3, q3, rfl, rfl, rfl, hd3, hr3⟩ := trodAll_cons hr2
  obtain ⟨v4, vs4, d4, ds4, p4, q4, rfl, rfl, rfl, hd4, hr4⟩ := trodAll_cons hr3
  obtain ⟨rfl, rfl, rfl⟩ := trodAll_nil hr4
  exact ⟨v0, v1, v2, v3, v4, d0, d1, d2, d3, d4, p0, p1, p2, p3, p4, by cases args; simp_all, rfl, by simp, hd0, hd1, hd2, hd3, hd4⟩
theorem trodAll_mk5 {t0 t1 t2 t3 t4 : TypeId} {P : Program} {v0 v1 v2 v3 v4 : Value} {d0 d1 d2 d3 d4 : DataW H} {p0 p1 p2 p3 p4 : List MemPlace} (h0 : DataW.Trod enc P w base spare held t0 v0 d0 p0) (h1 : DataW.Trod enc P w base spare held t1 v1 d1 p1) (h2 : DataW.Trod enc P w base spare held t2 v2 d2 p2) (h3 : DataW.Trod enc P w base spare held t3 v3 d3 p3) (h4 : DataW.Trod enc P w base spare held t4 v4 d4 p4) :
    DataW.TrodAll enc P w base spare held [t0, t1, t2, t3, t4] [v0, v1, v2, v3, v4] [d0, d1, d2, d3, d4] (p0 ++ (p1 ++ (p2 ++ (p3 ++ p4)))) := ⟨p0, p1 ++ (p2 ++ (p3 ++ p4)), h0, trodAll_mk4 h1 h2 h3 h4, rfl⟩
end
end Go.Proofs.YtdfgbkilaepolaaGreatDoor
namespace Go.Proofs.YtdfgbkilaepolaaGreatDoor
open Go.ChangeShapes Go.WideShapes Go.ChangeAt Go.RowKit Go.Deep
section
variable {H : Type} {enc : TypeId × Value → H} {P : Program}
end
theorem own : ownKnob Tryz.prog.godebug = none := by kernel_rfl
open Go.ChangeMaps (open_string shut_string)
def layCells (cs : Array Value) : Obj → Obj
  | .cells _ t frozen => .cells cs t frozen
  | o => o
def litCell : DataW Unit → Value
  | .lit (.int k z) => .int k z
  | _ => .int .u8 0
def litCells : DataW Unit → Array Value
  | .agg ps => (ps.map litCell).toArray
  | _ => #[]
abbrev synS : ByteArray := { data := #[105, 110, 118, 97, 108, 105, 100, 32, 115, 121, 110, 116, 97, 120] }
abbrev rngS : ByteArray := { data := #[118, 97, 108, 117, 101, 32, 111, 117, 116, 32, 111, 102, 32, 114, 97, 110, 103, 101] }
/-- so many blocks has the settled world -/
noncomputable def lowB : Nat := (World.holding Tryz.prog default ⟨#[], #[], []⟩).heap.size
/-- a world in which the three tables and the two errors of the library hold what their initialisers lay -/
noncomputable def laidWorld (os : Os) : World :=
  { World.holding Tryz.prog os ⟨#[.cells #[.string rngS] 203, .cells #[.string synS] 203], #[], []⟩ with heap := (((((World.holding Tryz.prog os ⟨#[.cells #[.string rngS] 203, .cells #[.string synS] 203], #[], []⟩).heap.modify 2 (layCells (litCells Rows.laid_math_bits_deBruijn32tab))).modify 3 (layCells (litCells Rows.laid_math_bits_deBruijn64tab))).modify 0 (layCells (litCells Rows.laid_internal_strconv_uint64pow10))).modify 5 (layCells #[.iface 201 (.pointer (some ⟨lowB, 0, none⟩))])).modify 4 (layCells #[.iface 201 (.pointer (some ⟨lowB + 1, 0, none⟩))]) }
abbrev laidList : List (String × DataW Unit) := [("math/bits.deBruijn32tab", Rows.laid_math_bits_deBruijn32tab), ("math/bits.deBruijn64tab", Rows.laid_math_bits_deBruijn64tab), ("internal/strconv.uint64pow10", Rows.laid_internal_strconv_uint64pow10), ("strconv.ErrRange", Rows.laid_strconv_ErrRange), ("strconv.ErrSyntax", Rows.laid_strconv_ErrSyntax)]
theorem pow10_is : (Rows.laid_internal_strconv_uint64pow10 : DataW Unit) = Lib.tabData .u64 Lib.pow10Tab := by
  simp [Rows.laid_internal_strconv_uint64pow10, Lib.tabData, Lib.pow10Tab, List.range_succ]
theorem tb_of_laid {W : World} (h : laidMet Tryz.prog laidList W) : Tb W.heap.size W := by
  have h3 := h.tail.tail
  rw [pow10_is] at h3
  exact Lib.tabBelow_of_tabIs (Lib.tabIs_of_head (g := 0) (by kernel_rfl) (by kernel_rfl) Tryz.underlying176 Tryz.underlying157 (by kernel_rfl) (by kernel_rfl) h3)
theorem starE : "*" ++ "errors.errorString" = "*errors.errorString" := by decide
theorem rowE (u : TypeId) (h : Tryz.prog.typeName? 3 u = some "*errors.errorString") : u = 201 :=
  typeName_ptr_named (nm := "errors.errorString") (by rw [starE]; kernel_rfl) (by kernel_rfl) (by decide) u (by rw [starE]; exact h)
theorem gER : Tryz.prog.globalNamed "strconv.ErrRange" = some 5 := by kernel_rfl
theorem err_of_laid {W : World} (h : laidMet Tryz.prog laidList W) : ErrAt W := by
  obtain ⟨a, s, hv, -, -, -⟩ := laid_sentinel h.tail.tail.tail gER (by kernel_rfl) Tryz.underlying115 rowE Tryz.underlying201 Tryz.underlying203 rfl rfl Tryz.underlying9 (by kernel_rfl) (by kernel_rfl)
  have h0 := World.var?_cell gER hv 0
  exact ⟨_, by simpa using h0, .inr ⟨_, _, rfl⟩⟩
theorem std_of_laid {W : World} (h : laidMet Tryz.prog laidList W) : Std W := ⟨err_of_laid h, tb_of_laid h⟩
end Go.Proofs.YtdfgbkilaepolaaGreatDoor
namespace Go.Proofs.YtdfgbkilaepolaaGreatDoor
open Go.ChangeShapes Go.WideShapes Go.ChangeAt Go.RowKit Go.Deep
open Go.ChangeMaps (open_string shut_string)
def woppArgs : Array Value := #[.agg #[.int .i64 0, .int .i64 0, .string ⟨#[]⟩, .slice none 0 0], .int .i64 0, .int .i64 0, .string ⟨#[]⟩, .bool false]
theorem wopp_laid (os : Os) : laidMet Tryz.prog Rows.weighOpposesRow.laid ((laidWorld os).forCall (fun _ _ => 0) ⟨#[], woppArgs, []⟩).memory :=
  laidMet_of_run' 8 (by kernel_rfl) (by kernel_rfl)
theorem wopp_reads (os : Os) {H : Type} (enc : TypeId × Value → H) : ∃ places, DataW.whole enc Tryz.prog ((laidWorld os).forCall (fun _ _ => 0) ⟨#[], woppArgs, []⟩).memory Tryz.f4.params.toList Rows.weighOpposesSpec.vars false woppArgs.toList 8 = some ([.agg [.lit (.int .i64 0), .lit (.int .i64 0), .lit (.string []), .nil], .lit (.int .i64 0), .lit (.int .i64 0), .lit (.string []), .lit (.bool false)], [], places) :=
  ⟨[], by kernel_rfl⟩
set_option maxRecDepth 100000 in
theorem wopp_lifted (os : Os) (started : os.Started) (H : Type) (enc : TypeId × Value → H) (F : Stop.Interp) :
    ReturnsInHanded {} Tryz.checked os 4 .any ((OpenSpec.ofChange Rows.weighOpposesSpec).preRow enc Tryz.prog Tryz.f4 Rows.weighOpposesRow.domain false Rows.weighOpposesRow.laid) (((OpenSpec.ofChange Rows.weighOpposesSpec).at F).post enc Tryz.prog Tryz.f4 false true false false) := by
  obtain ⟨places, hx⟩ := wopp_reads os enc
  refine returnsInHanded_of_row (C := Tryz.checked) (s := OpenSpec.ofChange Rows.weighOpposesSpec) own started (by kernel_rfl) Tryz.func4
    (witness_row_at (enc := enc) (C := Tryz.checked) false (laidWorld os) woppArgs rfl (by kernel_rfl) (by kernel_rfl) (by kernel_rfl)
      (OpenSpec.preRow_of_cond 8 hx (by kernel_rfl) (fun k hk => by cases hk) (by kernel_rfl) (wopp_laid os))) ?_
  intro W base args ds gs before hval0 hW _ _ _ hlaid _ _
  have hval : ∀ (j : Nat) t v, Tryz.f4.params[j]? = some t → args[j]? = some v → Value.okWide Tryz.prog W .any base t v := hval0
  have hW' := hW
  obtain ⟨p, q, hA0, hV, rfl, hfz, hnd⟩ := hW
  have hA : DataW.TrodAll enc Tryz.prog W 0 (fun _ => true) true Tryz.f4.params.toList args.toList ds p := hA0
  rw [Tryz.params4] at hA hval
  obtain ⟨v0, v1, v2, v3, v4, d0, d1, d2, d3, d4, p0, p1, p2, p3, p4, rfl, rfl, rfl, h0, h1, h2, h3, h4⟩ := trodAll_five hA
  obtain ⟨rfl, rfl⟩ := trodVars_none hV
  obtain ⟨cs0, rfl, hsz0⟩ := okWide_struct Tryz.underlying28 (hval 0 28 v0 rfl rfl)
  obtain ⟨a, rfl, rfl, rfl, ha⟩ := open_int Tryz.underlying2 (hval 1 2 v1 rfl rfl) h1
  obtain ⟨b, rfl, rfl, rfl, hb⟩ := open_int Tryz.underlying2 (hval 2 2 v2 rfl rfl) h2
  obtain ⟨s, rfl, rfl, rfl, hs⟩ := open_string Tryz.underlying9 (hval 3 9 v3 rfl rfl) h3
  obtain ⟨f, rfl, rfl, rfl⟩ := open_bool Tryz.underlying4 (hval 4 4 v4 rfl rfl) h4
  have h0k := h0
  obtain ⟨fuel0, hf0⟩ := h0
  clear hA0 hval0
  simp only [List.append_nil] at hW'
  have hlt : ∀ x ∈ p0, x.block < W.heap.size := fun x hx => by simpa using hW'.lt x hx
  have hargs0 : ∀ (W' : World), Below W.heap.size W W' → DataW.Trod enc Tryz.prog W' 0 (fun b => decide (b < W.heap.size)) true 28 (.agg cs0) d0 p0 :=
    fun W' hn => Below.trod laidOut (by kernel_rfl) (of_decide_eq_true (by kernel_rfl)) h0k hn hlt
  simp only [Value.cells] at hf0
  obtain ⟨r, hR, hfit⟩ := open_cond fuel0 cs0.toList _ (by simpa [cellsCond] using hsz0) hf0
  refine (opposes_calls r hfit cs0.toList W hR (std_of_laid hlaid) a b s f).mono fun e W' ⟨he, hB⟩ => ?_
  subst he
  exact ⟨_, rfl, _, _, _, [], _, [], hW', trodAll_mk1 (shut_bool Tryz.underlying4 _), trodAll_mk5 (hargs0 _ hB) (shut_int Tryz.underlying2 ha) (shut_int Tryz.underlying2 hb) (shut_string Tryz.underlying9 hs) (shut_bool Tryz.underlying4 _), rfl, hB.frame _, fun h => by cases h⟩
theorem wopp_said : Rows.WeighOpposesSaid :=
  OpenClaim.holds_of_cond 4 Tryz.f4 rfl rfl rfl rfl rfl rfl rfl ⟨rfl, rfl, rfl, rfl, rfl⟩ rfl rfl rfl rfl rfl (by kernel_rfl) Tryz.func4 (by kernel_rfl)
    (of_decide_eq_true (by kernel_rfl)) (by unfold Func.isWrapper; first | (rw [if_pos (by decide +kernel)]; kernel_rfl) | (rw [if_neg (by decide +kernel)]; exact ⟨rfl, rfl⟩))
    (fun os started H enc _ F => by rw [OpenClaim.pre_eq_preRow]; exact wopp_lifted os started H enc F)
theorem wopp_plain (f : FuncId) (fn : Func) (hf : Tryz.pinned.checked.prog.funcNamed "sentry/sentrylaw10.WeighOpposes" = some f) (hfn : Tryz.pinned.checked.prog.funcs[f]? = some fn) :
    true = Tryz.pinned.checked.prog.looks [] ∧ ∀ (j : Nat) t, fn.params[j]? = some t → Tryz.pinned.checked.prog.wantsStandIn t = false := by
  obtain rfl : f = 4 := Option.some.inj ((show Tryz.prog.funcNamed "sentry/sentrylaw10.WeighOpposes" = some 4 by kernel_rfl).symm.trans hf) |>.symm
  obtain rfl : fn = Tryz.f4 := (Option.some.inj (Tryz.func4.symm.trans hfn)).symm
  refine ⟨by kernel_rfl, fun j t ht => ?_⟩
  rw [Tryz.params4] at ht
  have hm : t = 28 ∨ t = 2 ∨ t = 9 ∨ t = 4 := by
    have := Array.mem_of_getElem? ht
    simp at this
    rcases this with h | h | h | h <;> simp [h]
  rcases hm with rfl | rfl | rfl | rfl
  · exact (show Tryz.prog.wantsStandIn 28 = false by kernel_rfl)
  · exact (show Tryz.prog.wantsStandIn 2 = false by kernel_rfl)
  · exact (show Tryz.prog.wantsStandIn 9 = false by kernel_rfl)
  · exact (show Tryz.prog.wantsStandIn 4 = false by kernel_rfl)
theorem wopp_card : Rows.WeighOpposesCardSaid :=
  Claim7.holds_tied_plain_at .later [] _ _ _ _ wopp_said (fun _ h => by cases h) (by kernel_rfl) (fun _ h => by cases h) weighOpposes_row_tie rfl ⟨rfl, rfl⟩ (by kernel_rfl) rfl wopp_plain (by kernel_rfl)
#print axioms wopp_card
end Go.Proofs.YtdfgbkilaepolaaGreatDoor
