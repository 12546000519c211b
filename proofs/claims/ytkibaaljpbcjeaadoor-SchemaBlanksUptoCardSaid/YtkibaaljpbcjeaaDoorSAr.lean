/- A schema as an argument: how it comes in. -/
import Derived.Test.YtkibaaljpbcjeaaDoorSLaid
import Derived.Test.YtkibaaljpbcjeaaDoorSFx
import Derived.Deep.Slices
namespace Go.Proofs.YtkibaaljpbcjeaaDoor
open Go.ChangeShapes Go.WideShapes Go.ChangeAt Go.RowKit Go.Deep
theorem laidOut : laidOutB Tryd.prog = true := by kernel_rfl
theorem cellsStr : Tryd.prog.cellsOf 9 = 1 := by kernel_rfl
theorem cellsInt : Tryd.prog.cellsOf 3 = 1 := by kernel_rfl
theorem cellsRule : Tryd.prog.cellsOf 42 = 4 := by kernel_rfl
theorem cellsRel : Tryd.prog.cellsOf 44 = 5 := by kernel_rfl
theorem cellsType : Tryd.prog.cellsOf 39 = 2 := by kernel_rfl
theorem cellsRules : Tryd.prog.cellsOf 40 = 1 := by kernel_rfl
theorem cellsRels : Tryd.prog.cellsOf 37 = 1 := by kernel_rfl
theorem cellsTypes : Tryd.prog.cellsOf 23 = 1 := by kernel_rfl
/-- no name in it is longer than a string may be -/
inductive RT.fits : RT → Prop
  | mk {k : Int} {a b : List UInt8} {ps : List RT} (ha : a.length ≤ maxLen) (hb : b.length ≤ maxLen) (hp : ∀ p ∈ ps, RT.fits p) : RT.fits (.node k a b ps)
section
variable {H : Type} {enc : TypeId × Value → H} {w : World} {base : Nat} {spare : Nat → Bool} {held : Bool}
/-- a slice's elements, each of K cells -/
theorem open_rows {α : Type} {t e : TypeId} (ht : Tryd.prog.underlying t = some (.slice e)) {K : Nat} (hK : Tryd.prog.cellsOf e = K) (hK0 : 0 < K) {R : List Value → DataW H → α → Prop} {fuel : Nat} {c : Value} {x : DataW H × List MemPlace} (h : DataW.trod enc Tryd.prog w base spare held fuel t [c] = some x)
    (hel : ∀ (n : Nat) (cs : List Value) (y : DataW H × List MemPlace), n < fuel → cs.length = K → DataW.trod enc Tryd.prog w base spare held n e cs = some y → ∃ z, R cs y.1 z) :
    ∃ (zs : List α) (cs : List Value) (ds : List (DataW H)), RowV w c zs.length cs ∧ cs.length = zs.length * K ∧ ds.length = zs.length ∧ Rows.uptoBulkAll ds + 1 ≤ Rows.uptoBulk x.1 ∧ ∀ (i : Nat) (z : α), zs[i]? = some z → ∃ d, ds[i]? = some d ∧ R ((cs.drop (i * K)).take K) d z := by
  rcases DataW.trod_slice ht h with ⟨hcs, hx⟩ | ⟨a, len, cap, elems, rest, n, hn, hcs, hx, hb, hl, hm, hlen, hi, _, _⟩
  · simp at hcs
    subst hcs
    exact ⟨[], [], [], ⟨Nat.zero_le _, .inl ⟨none, 0, rfl, rfl⟩⟩, by simp, rfl, by rw [hx]; exact Nat.le_refl _, fun i z hz => by simp at hz⟩
  · simp at hcs
    subst hcs
    have hbk : Rows.uptoBulkAll (elems.map (·.1)) + 1 ≤ Rows.uptoBulk x.1 := by
      rw [hx]
      show _ ≤ Rows.uptoBulkAll (elems.map (·.1)) + Rows.uptoBulkAll (rest.map (·.1)) + 1
      omega
    by_cases h0 : len = 0
    · subst h0
      exact ⟨[], [], elems.map (·.1), ⟨Nat.zero_le _, .inl ⟨some a, cap, rfl, rfl⟩⟩, by simp, by rw [List.length_map, hlen]; rfl, hbk, fun i z hz => by simp at hz⟩
    have each : ∀ i, i < len → ∃ (cs' : List Value) (z : α), cs'.length = K ∧ (∀ j, j < K → w.cell? (a.add (i * K + j)) = cs'[j]?) ∧ ∃ d, (elems.map (·.1))[i]? = some d ∧ R cs' d z := fun i hil => by
      have hx := hi i hil
      have hei : elems[i]? = some (elems[i]'(by omega)) := List.getElem?_eq_getElem (by omega)
      rw [hei] at hx
      obtain ⟨cs', h1, h2⟩ := Option.bind_eq_some_iff.1 hx
      rw [hK] at h1
      obtain ⟨_, hcl, hat⟩ := World.cells?_some h1
      obtain ⟨z, hz⟩ := hel n cs' _ (by omega) hcl h2
      exact ⟨cs', z, hcl, fun j hj => by rw [← hat j hj, Go.Deep.add_add], _, by rw [List.getElem?_map, hei]; rfl, hz⟩
    -- the address is a block's
    obtain ⟨ab, ao, spot⟩ := a
    obtain ⟨c0, z0, h1, h2, _⟩ := each 0 (by omega)
    have hc0 : w.cell? ((⟨ab, ao, spot⟩ : Addr).add (0 * K + 0)) = some c0[0] := by rw [h2 0 hK0]; exact List.getElem?_eq_getElem _
    have hspot : spot = none := by simpa [Addr.add] using World.cell?_spot hc0
    subst hspot
    have hlt : ab < w.heap.size := by
      have := World.block_lt_of_cell? w _ hc0
      rwa [Addr.add_lit] at this
    have hall : ∀ i, ∃ q : List Value × Option α, i < len → q.1.length = K ∧ (∀ j, j < K → w.cell? ((⟨ab, ao, none⟩ : Addr).add (i * K + j)) = q.1[j]?) ∧ ∃ z, q.2 = some z ∧ ∃ d, (elems.map (·.1))[i]? = some d ∧ R q.1 d z := fun i => by
      by_cases hil : i < len
      · obtain ⟨cs', z, g1, g2, g3⟩ := each i hil
        exact ⟨(cs', some z), fun _ => ⟨g1, g2, z, rfl, g3⟩⟩
      · exact ⟨([], none), fun h => absurd h hil⟩
    obtain ⟨f, hf⟩ := Classical.axiomOfChoice hall
    have hz : ∀ i, i < len → ∃ z, (f i).2 = some z ∧ ∃ d, (elems.map (·.1))[i]? = some d ∧ R (f i).1 d z := fun i hil => (hf i hil).2.2
    have hone : ∀ i, i < len → ∃ z : α, (f i).2 = some z := fun i hil => by obtain ⟨z, e, _⟩ := hz i hil; exact ⟨z, e⟩
    refine ⟨(List.range len).filterMap fun i => (f i).2, (List.range (len * K)).map fun j => (w.cell? ⟨ab, ao + j, none⟩).getD (.bool false), elems.map (·.1), ?_⟩
    have hfm : ∀ n, n ≤ len → ((List.range n).filterMap fun i => (f i).2).length = n ∧ ∀ i, i < n → ((List.range n).filterMap fun i => (f i).2)[i]? = (f i).2 := by
      intro n
      induction n with
      | zero => intro _; exact ⟨rfl, fun i hi => by omega⟩
      | succ n ih =>
        intro hn
        obtain ⟨i1, i2⟩ := ih (by omega)
        obtain ⟨z, hz⟩ := hone n (by omega)
        have e : (List.range (n + 1)).filterMap (fun i => (f i).2) = (List.range n).filterMap (fun i => (f i).2) ++ [z] := by
          rw [List.range_succ, List.filterMap_append]
          simp [hz]
        rw [e]
        refine ⟨by rw [List.length_append, i1]; rfl, fun i hi => ?_⟩
        by_cases hin : i < n
        · rw [List.getElem?_append_left (by omega)]; exact i2 i hin
        · obtain rfl : i = n := by omega
          rw [List.getElem?_append_right (by omega), i1, Nat.sub_self, hz]; rfl
    obtain ⟨hL, hget⟩ := hfm len (Nat.le_refl _)
    have hcell : ∀ i j, i < len → j < K → w.cell? ⟨ab, ao + (i * K + j), none⟩ = (f i).1[j]? := fun i j hil hj => by
      have := (hf i hil).2.1 j hj
      rwa [Addr.add_lit] at this
    have hsome : ∀ q, q < len * K → ∃ u, w.cell? ⟨ab, ao + q, none⟩ = some u := fun q hq => by
      have h1 : q / K < len := (Nat.div_lt_iff_lt_mul hK0).2 hq
      have h2 : q % K < K := Nat.mod_lt _ hK0
      have e : q / K * K + q % K = q := by rw [Nat.mul_comm]; exact Nat.div_add_mod q K
      have := hcell (q / K) (q % K) h1 h2
      rw [e] at this
      rw [this, List.getElem?_eq_getElem (by rw [(hf _ h1).1]; exact h2)]
      exact ⟨_, rfl⟩
    rw [hL]
    refine ⟨⟨Nat.le_trans hl hm, .inr ⟨ab, ao, cap, rfl, hl, fun q u hu => ⟨hlt, ?_⟩⟩⟩, by simp, by rw [List.length_map, hlen], hbk, fun i z hiz => ?_⟩
    · rw [List.getElem?_map] at hu
      by_cases hq : q < len * K
      · rw [List.getElem?_range hq] at hu
        obtain ⟨u', hu'⟩ := hsome q hq
        simp only [Option.map_some, hu', Option.getD_some] at hu
        rw [hu']; exact hu
      · rw [List.getElem?_eq_none (by simp; omega)] at hu; cases hu
    · have hil : i < len := by
        have := (List.getElem?_eq_some_iff.1 hiz).1
        omega
      rw [hget i hil] at hiz
      obtain ⟨z', e1, e2⟩ := hz i hil
      rw [hiz] at e1
      obtain rfl := Option.some.inj e1
      have e : (((List.range (len * K)).map fun j => (w.cell? ⟨ab, ao + j, none⟩).getD (.bool false)).drop (i * K)).take K = (f i).1 := by
        apply List.ext_getElem?
        intro j
        by_cases hj : j < K
        · have hlt2 : i * K + j < len * K := by
            have : (i + 1) * K ≤ len * K := Nat.mul_le_mul_right _ hil
            rw [Nat.add_mul] at this; omega
          rw [List.getElem?_take, if_pos hj, List.getElem?_drop, List.getElem?_map, List.getElem?_range hlt2]
          simp only [Option.map_some]
          have hc := hcell i j hil hj
          rw [hc, List.getElem?_eq_getElem (by rw [(hf i hil).1]; exact hj)]
          rfl
        · rw [List.getElem?_take, if_neg hj, List.getElem?_eq_none (by rw [(hf i hil).1]; omega)]
      rw [e]; exact e2
/-- a sum of weights -/
theorem sum_bulk {α : Type} (f : α → Nat) (F : List α → Nat) (hF0 : F [] = 0) (hF : ∀ z zs, F (z :: zs) = f z + F zs) : ∀ (zs : List α) (ds : List (DataW H)), ds.length = zs.length → (∀ (i : Nat) (z : α), zs[i]? = some z → ∃ d, ds[i]? = some d ∧ f z ≤ 16 * Rows.uptoBulk d) → F zs ≤ 16 * Rows.uptoBulkAll ds
  | [], ds, _, _ => by rw [hF0]; exact Nat.zero_le _
  | z :: zs, [], hl, _ => by simp at hl
  | z :: zs, d :: ds, hl, h => by
    obtain ⟨d', h1, h2⟩ := h 0 z rfl
    obtain rfl := Option.some.inj h1
    have ih := sum_bulk f F hF0 hF zs ds (by simpa using hl) fun i z hz => h (i + 1) z hz
    rw [hF]
    show _ ≤ 16 * (Rows.uptoBulk d + Rows.uptoBulkAll ds)
    omega
theorem bulk_pos : ∀ d : DataW H, 1 ≤ Rows.uptoBulk d := by
  intro d
  cases d with
  | lit l => cases l <;> first | exact Nat.le_refl _ | (show 1 ≤ _ + 1; omega)
  | _ => first | exact Nat.le_refl _ | (show 1 ≤ _ + 1; omega)
theorem bulk_str (s : ByteArray) : Rows.uptoBulk (.lit (.string s.data.toList) : DataW H) = s.data.toList.length + 1 := rfl
theorem list4 {l : List Value} (h : l.length = 4) : ∃ a b c d, l = [a, b, c, d] := by
  match l, h with
  | [a, b, c, d], _ => exact ⟨a, b, c, d, rfl⟩
theorem list5 {l : List Value} (h : l.length = 5) : ∃ a b c d e, l = [a, b, c, d, e] := by
  match l, h with
  | [a, b, c, d, e], _ => exact ⟨a, b, c, d, e, rfl⟩
theorem list2 {l : List Value} (h : l.length = 2) : ∃ a b, l = [a, b] := by
  match l, h with
  | [a, b], _ => exact ⟨a, b, rfl⟩
set_option maxRecDepth 100000 in
theorem open_rule : ∀ (fuel : Nat) (cs : List Value) (x : DataW H × List MemPlace), cs.length = 4 → DataW.trod enc Tryd.prog w base spare held fuel 42 cs = some x → ∃ r : RT, (RV w cs r ∧ r.fits) ∧ r.wt + 8 ≤ 16 * Rows.uptoBulk x.1 := by
  intro fuel
  induction fuel using Nat.strongRecOn with
  | _ fuel ih =>
    intro cs x hl h
    obtain ⟨c0, c1, c2, c3, rfl⟩ := list4 hl
    obtain ⟨xs, n, hfn, hx, _, hlen, hg⟩ := DataW.trod_struct Tryd.underlying42 h
    match xs, hlen with
    | [y0, y1, y2, y3], _ =>
      obtain ⟨k, e0, _⟩ := DataW.trod_int Tryd.underlying3 (by simpa [cellsInt] using hg 0 _ rfl : DataW.trod enc Tryd.prog w base spare held n 3 [c0] = some y0)
      obtain ⟨a, e1, r1', k1⟩ := DataW.trod_string Tryd.underlying9 (by simpa [cellsStr] using hg 1 _ rfl : DataW.trod enc Tryd.prog w base spare held n 9 [c1] = some y1)
      obtain ⟨b, e2, r2', k2⟩ := DataW.trod_string Tryd.underlying9 (by simpa [cellsStr] using hg 2 _ rfl : DataW.trod enc Tryd.prog w base spare held n 9 [c2] = some y2)
      have h3 : DataW.trod enc Tryd.prog w base spare held n 40 [c3] = some y3 := by simpa [cellsRules] using hg 3 _ rfl
      obtain ⟨ps, ds, es, hrow, hdl, hel, hbk, hps'⟩ := open_rows (α := RT) (R := fun cs d r => (RV w cs r ∧ r.fits) ∧ r.wt + 8 ≤ 16 * Rows.uptoBulk d) Tryd.underlying40 cellsRule (by decide) h3 fun m cs y hm hcl hy => ih m (by omega) cs y hcl hy
      have hps : ∀ (i : Nat) (p : RT), ps[i]? = some p → RV w ((ds.drop (i * 4)).take 4) p ∧ p.fits := fun i p hi => by obtain ⟨d, _, h, _⟩ := hps' i p hi; exact h
      have hsum := sum_bulk (fun p : RT => p.wt + 8) wtL wtL_nil (fun z zs => by conv => lhs; unfold wtL) ps es hel fun i p hi => by obtain ⟨d, h1, _, h2⟩ := hps' i p hi; exact ⟨d, h1, h2⟩
      simp only [List.cons.injEq, and_true] at e0 e1 e2
      subst e0 e1 e2
      refine ⟨.node k a.data.toList b.data.toList ps, ⟨?_, ?_⟩, ?_⟩
      · have := RV.mk (w := w) (k := k) (a := a.data.toList) (b := b.data.toList) hrow hdl fun i p hi => (hps i p hi).1
        rw [← strV_mk, ← strV_mk] at this
        exact this
      · refine .mk (by rw [← Lib.size_eq]; exact k1) (by rw [← Lib.size_eq]; exact k2) fun p hp => ?_
        obtain ⟨i, hi⟩ := List.getElem?_of_mem hp
        exact (hps i p hi).2
      · rw [RT.wt_eq, hx]
        have b0 := bulk_pos y0.1
        have b1 := bulk_str (H := H) a
        have b2 := bulk_str (H := H) b
        have r1 : y1.1 = .lit (.string a.data.toList) := by rw [r1']
        have r2 : y2.1 = .lit (.string b.data.toList) := by rw [r2']
        rw [← r1] at b1
        rw [← r2] at b2
        show a.data.toList.length + b.data.toList.length + 8 + wtL ps + 8 ≤ 16 * (Rows.uptoBulk y0.1 + (Rows.uptoBulk y1.1 + (Rows.uptoBulk y2.1 + (Rows.uptoBulk y3.1 + 0))) + 1)
        omega
/-- no name of a schema is longer than a string may be -/
def fitsS (ts : List TyD) : Prop := ∀ t ∈ ts, t.1.length ≤ maxLen ∧ ∀ x ∈ t.2, x.1.length ≤ maxLen ∧ x.2.fits
def relR (w : World) (cs : List Value) (x : RelD) : Prop := (∃ rc, cs = strV x.1 :: rc ∧ RV w rc x.2) ∧ x.1.length ≤ maxLen ∧ x.2.fits
set_option maxRecDepth 100000 in
theorem open_rel (fuel : Nat) (cs : List Value) (x : DataW H × List MemPlace) (hl : cs.length = 5) (h : DataW.trod enc Tryd.prog w base spare held fuel 44 cs = some x) : ∃ z : RelD, relR w cs z ∧ z.1.length + z.2.wt + 8 ≤ 16 * Rows.uptoBulk x.1 := by
  obtain ⟨c0, c1, c2, c3, c4, rfl⟩ := list5 hl
  obtain ⟨xs, n, hfn, hx, _, hlen, hg⟩ := DataW.trod_struct Tryd.underlying44 h
  match xs, hlen with
  | [y0, y1], _ =>
    obtain ⟨a, e1, r1', k1⟩ := DataW.trod_string Tryd.underlying9 (by simpa [cellsStr] using hg 0 _ rfl : DataW.trod enc Tryd.prog w base spare held n 9 [c0] = some y0)
    obtain ⟨r, ⟨hr, hf⟩, hbk⟩ := open_rule n [c1, c2, c3, c4] y1 rfl (by simpa [cellsRule] using hg 1 _ rfl)
    simp only [List.cons.injEq, and_true] at e1
    subst e1
    refine ⟨(a.data.toList, r), ⟨⟨_, by rw [strV_mk], hr⟩, by rw [← Lib.size_eq]; exact k1, hf⟩, ?_⟩
    have b1 := bulk_str (H := H) a
    have r1 : y0.1 = .lit (.string a.data.toList) := by rw [r1']
    rw [← r1] at b1
    rw [hx]
    show a.data.toList.length + r.wt + 8 ≤ 16 * (Rows.uptoBulk y0.1 + (Rows.uptoBulk y1.1 + 0) + 1)
    omega
def tyR (w : World) (cs : List Value) (t : TyD) : Prop := (∃ u rcs, cs = [strV t.1, u] ∧ RowV w u t.2.length rcs ∧ RelsV w rcs t.2) ∧ t.1.length ≤ maxLen ∧ ∀ x ∈ t.2, x.1.length ≤ maxLen ∧ x.2.fits
set_option maxRecDepth 100000 in
theorem open_type (fuel : Nat) (cs : List Value) (x : DataW H × List MemPlace) (hl : cs.length = 2) (h : DataW.trod enc Tryd.prog w base spare held fuel 39 cs = some x) : ∃ z : TyD, tyR w cs z ∧ z.1.length + 16 + relsW z.2 ≤ 16 * Rows.uptoBulk x.1 := by
  obtain ⟨c0, c1, rfl⟩ := list2 hl
  obtain ⟨xs, n, hfn, hx, _, hlen, hg⟩ := DataW.trod_struct Tryd.underlying39 h
  match xs, hlen with
  | [y0, y1], _ =>
    obtain ⟨a, e1, r1', k1⟩ := DataW.trod_string Tryd.underlying9 (by simpa [cellsStr] using hg 0 _ rfl : DataW.trod enc Tryd.prog w base spare held n 9 [c0] = some y0)
    have h3 : DataW.trod enc Tryd.prog w base spare held n 37 [c1] = some y1 := by simpa [cellsRels] using hg 1 _ rfl
    obtain ⟨rels, ds, es, hrow, hdl, hel, hbk, hps'⟩ := open_rows (α := RelD) (R := fun cs d z => relR w cs z ∧ z.1.length + z.2.wt + 8 ≤ 16 * Rows.uptoBulk d) Tryd.underlying37 cellsRel (by decide) h3 fun m cs y _ hcl hy => open_rel m cs y hcl hy
    have hps : ∀ (i : Nat) (z : RelD), rels[i]? = some z → relR w ((ds.drop (i * 5)).take 5) z := fun i p hi => by obtain ⟨d, _, h, _⟩ := hps' i p hi; exact h
    have hsum := sum_bulk (fun z : RelD => z.1.length + z.2.wt + 8) relsW relsW_nil (fun z zs => by obtain ⟨m, r⟩ := z; conv => lhs; unfold relsW) rels es hel fun i p hi => by obtain ⟨d, h1, _, h2⟩ := hps' i p hi; exact ⟨d, h1, h2⟩
    simp only [List.cons.injEq, and_true] at e1
    subst e1
    refine ⟨(a.data.toList, rels), ⟨⟨c1, ds, by rw [strV_mk], hrow, hdl, fun i n r hi => (hps i (n, r) hi).1⟩, by rw [← Lib.size_eq]; exact k1, fun x hx => ?_⟩, ?_⟩
    · obtain ⟨i, hi⟩ := List.getElem?_of_mem hx
      exact (hps i x hi).2
    · have b1 := bulk_str (H := H) a
      have r1 : y0.1 = .lit (.string a.data.toList) := by rw [r1']
      rw [← r1] at b1
      rw [hx]
      show a.data.toList.length + 16 + relsW rels ≤ 16 * (Rows.uptoBulk y0.1 + (Rows.uptoBulk y1.1 + 0) + 1)
      omega
set_option maxRecDepth 100000 in
theorem open_schema {fuel : Nat} {c : Value} {x : DataW H × List MemPlace} (h : DataW.trod enc Tryd.prog w base spare held fuel 25 [c] = some x) : ∃ ts : List TyD, SchV w c ts ∧ fitsS ts ∧ tysW ts ≤ 16 * Rows.uptoBulk x.1 := by
  obtain ⟨xs, n, hfn, hx, _, hlen, hg⟩ := DataW.trod_struct Tryd.underlying25 h
  match xs, hlen with
  | [y0], _ =>
    have h3 : DataW.trod enc Tryd.prog w base spare held n 23 [c] = some y0 := by simpa [cellsTypes] using hg 0 _ rfl
    obtain ⟨ts, ds, es, hrow, hdl, hel, hbk, hps'⟩ := open_rows (α := TyD) (R := fun cs d z => tyR w cs z ∧ z.1.length + 16 + relsW z.2 ≤ 16 * Rows.uptoBulk d) Tryd.underlying23 cellsType (by decide) h3 fun m cs y _ hcl hy => open_type m cs y hcl hy
    have hps : ∀ (i : Nat) (z : TyD), ts[i]? = some z → tyR w ((ds.drop (i * 2)).take 2) z := fun i p hi => by obtain ⟨d, _, h, _⟩ := hps' i p hi; exact h
    have hsum := sum_bulk (fun z : TyD => z.1.length + 16 + relsW z.2) tysW tysW_nil (fun z zs => by obtain ⟨m, r⟩ := z; conv => lhs; unfold tysW) ts es hel fun i p hi => by obtain ⟨d, h1, _, h2⟩ := hps' i p hi; exact ⟨d, h1, h2⟩
    refine ⟨ts, ⟨ds, hrow, hdl, fun i n rels hi => ?_⟩, fun t ht => ?_, ?_⟩
    · obtain ⟨⟨u, rcs, h1, h2, h3⟩, _⟩ := hps i (n, rels) hi
      exact ⟨u, rcs, h1, h2, h3⟩
    · obtain ⟨i, hi⟩ := List.getElem?_of_mem ht
      exact ⟨(hps i t hi).2.1, (hps i t hi).2.2⟩
    · rw [hx]
      show tysW ts ≤ 16 * (Rows.uptoBulk y0.1 + 0 + 1)
      omega
end
end Go.Proofs.YtkibaaljpbcjeaaDoor
