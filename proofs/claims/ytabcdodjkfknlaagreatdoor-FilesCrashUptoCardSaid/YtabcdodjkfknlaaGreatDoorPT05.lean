/- Versions and edits as arguments: how they come in. The law FilesTorn holds for every version, edit and cut, where what it reads is of bulk at most 1048576; its tied card. -/
import Derived.Test.YtabcdodjkfknlaaGreatDoorPN28
import Derived.Test.YtabcdodjkfknlaaGreatDoorPT04
namespace Go.Proofs.YtabcdodjkfknlaaGreatDoor
open Go.ChangeShapes Go.WideShapes Go.ChangeAt Go.RowKit Go.Deep
theorem cellsStr : Tryz.prog.cellsOf 9 = 1 := by kernel_rfl
theorem cellsInt : Tryz.prog.cellsOf 3 = 1 := by kernel_rfl
theorem cellsU64 : Tryz.prog.cellsOf 28 = 1 := by kernel_rfl
theorem cellsTbl : Tryz.prog.cellsOf 76 = 5 := by kernel_rfl
theorem cellsTbls : Tryz.prog.cellsOf 27 = 1 := by kernel_rfl
theorem cellsInts : Tryz.prog.cellsOf 31 = 1 := by kernel_rfl
theorem cellsVer : Tryz.prog.cellsOf 30 = 5 := by kernel_rfl
theorem cellsEdt : Tryz.prog.cellsOf 33 = 6 := by kernel_rfl
theorem u64_nat {n : Int} (h : (Lit.int .u64 n).wf = true) : ∃ m : Nat, n = (m : Int) ∧ m < 18446744073709551616 := by
  simp only [Lit.wf, Bool.and_eq_true, decide_eq_true_eq] at h
  obtain ⟨h1, h2⟩ := h
  have e1 : IntKind.u64.min = 0 := by decide
  have e2 : IntKind.u64.max = 18446744073709551615 := by decide
  rw [e1] at h1
  rw [e2] at h2
  exact ⟨n.toNat, by omega, by omega⟩
section
variable {H : Type} {enc : TypeId × Value → H} {w : World} {base : Nat} {spare : Nat → Bool} {held : Bool}
theorem bulk_pos : ∀ d : DataW H, 1 ≤ Rows.uptoBulk d := by
  intro d
  cases d with
  | lit l => cases l <;> first | exact Nat.le_refl _ | (show 1 ≤ _ + 1; omega)
  | _ => first | exact Nat.le_refl _ | (show 1 ≤ _ + 1; omega)
theorem bulk_mem : ∀ {ds : List (DataW H)} {i : Nat} {d : DataW H}, ds[i]? = some d → Rows.uptoBulk d ≤ Rows.uptoBulkAll ds
  | [], _, _, h => by simp at h
  | d :: ds, 0, d', h => by
    obtain rfl := Option.some.inj h
    show _ ≤ Rows.uptoBulk _ + Rows.uptoBulkAll ds
    omega
  | d :: ds, i + 1, d', h => by
    have := bulk_mem (ds := ds) (i := i) (d := d') (by simpa using h)
    show _ ≤ Rows.uptoBulk d + Rows.uptoBulkAll ds
    omega
theorem bulk_len : ∀ ds : List (DataW H), ds.length ≤ Rows.uptoBulkAll ds
  | [] => Nat.le_refl _
  | d :: ds => by
    have := bulk_len ds
    have := bulk_pos d
    show ds.length + 1 ≤ Rows.uptoBulk d + Rows.uptoBulkAll ds
    omega
theorem bulk_two : ∀ ds : List (DataW H), (∀ (i : Nat) (d : DataW H), ds[i]? = some d → 2 ≤ Rows.uptoBulk d) → 2 * ds.length ≤ Rows.uptoBulkAll ds
  | [], _ => Nat.le_refl _
  | d :: ds, h => by
    have h1 := bulk_two ds fun i d' hd => h (i + 1) d' (by simpa using hd)
    have h2 := h 0 d rfl
    show 2 * (ds.length + 1) ≤ Rows.uptoBulk d + Rows.uptoBulkAll ds
    omega
/-- a slice's elements, of a kind -/
theorem open_rowsK {α : Type} (r : RowK α) (ok : r.Ok Tryz.prog) (hK : Tryz.prog.cellsOf r.e = r.K) {Q : α → DataW H → Prop} {fuel : Nat} {c : Value} {x : DataW H × List MemPlace} (h : DataW.trod enc Tryz.prog w base spare held fuel r.s [c] = some x)
    (hel : ∀ (n : Nat) (cs : List Value) (y : DataW H × List MemPlace), cs.length = r.K → DataW.trod enc Tryz.prog w base spare held n r.e cs = some y → ∃ z, cs = r.en z ∧ Q z y.1) :
    ∃ (zs : List α) (ds : List (DataW H)) (p : Option Addr) (cap : Nat), c = .slice p zs.length cap ∧ zs.length ≤ cap ∧ (p = none → cap = 0) ∧ r.At w p zs ∧ ds.length = zs.length ∧ Rows.uptoBulkAll ds + 1 ≤ Rows.uptoBulk x.1 ∧ ∀ (i : Nat) (z : α), zs[i]? = some z → ∃ d, ds[i]? = some d ∧ Q z d := by
  rcases DataW.trod_slice ok.hs h with ⟨hcs, hx⟩ | ⟨a, len, cap, elems, rest, n, hn, hcs, hx, hb, hl, hm, hlen, hi, _, _⟩
  · simp at hcs
    subst hcs
    exact ⟨[], [], none, 0, rfl, Nat.le_refl _, fun _ => rfl, (fun k x hx => (by cases hx)), rfl, by rw [hx]; exact Nat.le_refl _, fun i z hz => by simp at hz⟩
  · simp at hcs
    subst hcs
    have hbk : Rows.uptoBulkAll (elems.map (·.1)) + 1 ≤ Rows.uptoBulk x.1 := by
      rw [hx]
      show _ ≤ Rows.uptoBulkAll (elems.map (·.1)) + Rows.uptoBulkAll (rest.map (·.1)) + 1
      omega
    have each : ∀ i, i < len → ∃ z : α, (∀ j, j < r.K → w.cell? (a.add (i * r.K + j)) = (r.en z)[j]?) ∧ ∃ d, (elems.map (·.1))[i]? = some d ∧ Q z d := fun i hil => by
      have hx := hi i hil
      have hei : elems[i]? = some (elems[i]'(by omega)) := List.getElem?_eq_getElem (by omega)
      rw [hei] at hx
      obtain ⟨cs', h1, h2⟩ := Option.bind_eq_some_iff.1 hx
      rw [hK] at h1
      obtain ⟨_, hcl, hat⟩ := World.cells?_some h1
      obtain ⟨z, rfl, hz⟩ := hel n cs' _ hcl h2
      exact ⟨z, fun j hj => by rw [← hat j hj, Go.Deep.add_add], _, by rw [List.getElem?_map, hei]; rfl, hz⟩
    have hall : ∀ i, ∃ q : Option α, i < len → ∃ z, q = some z ∧ (∀ j, j < r.K → w.cell? (a.add (i * r.K + j)) = (r.en z)[j]?) ∧ ∃ d, (elems.map (·.1))[i]? = some d ∧ Q z d := fun i => by
      by_cases hil : i < len
      · obtain ⟨z, g1, g2⟩ := each i hil
        exact ⟨some z, fun _ => ⟨z, rfl, g1, g2⟩⟩
      · exact ⟨none, fun h => absurd h hil⟩
    obtain ⟨f, hf⟩ := Classical.axiomOfChoice hall
    have hfm : ∀ n, n ≤ len → ((List.range n).filterMap f).length = n ∧ ∀ i, i < n → ((List.range n).filterMap f)[i]? = f i := by
      intro n
      induction n with
      | zero => intro _; exact ⟨rfl, fun i hi => by omega⟩
      | succ n ih =>
        intro hn
        obtain ⟨i1, i2⟩ := ih (by omega)
        obtain ⟨z, hz, _⟩ := hf n (by omega)
        have e : (List.range (n + 1)).filterMap f = (List.range n).filterMap f ++ [z] := by
          rw [List.range_succ, List.filterMap_append]
          simp [hz]
        rw [e]
        refine ⟨by rw [List.length_append, i1]; rfl, fun i hi => ?_⟩
        by_cases hin : i < n
        · rw [List.getElem?_append_left (by omega)]; exact i2 i hin
        · obtain rfl : i = n := by omega
          rw [List.getElem?_append_right (by omega), i1, Nat.sub_self, hz]; rfl
    obtain ⟨hL, hget⟩ := hfm len (Nat.le_refl _)
    have hat : ∀ (i : Nat) (z : α), ((List.range len).filterMap f)[i]? = some z → (∀ j, j < r.K → w.cell? (a.add (i * r.K + j)) = (r.en z)[j]?) ∧ ∃ d, (elems.map (·.1))[i]? = some d ∧ Q z d := fun i z hiz => by
      have hil : i < len := by
        have := (List.getElem?_eq_some_iff.1 hiz).1
        omega
      rw [hget i hil] at hiz
      obtain ⟨z', e1, e2⟩ := hf i hil
      rw [hiz] at e1
      obtain rfl := Option.some.inj e1
      exact e2
    refine ⟨(List.range len).filterMap f, elems.map (·.1), some a, cap, by rw [hL], by rw [hL]; exact hl, (fun e => (by cases e)), fun k z hz => ?_, by rw [List.length_map, hlen, hL], hbk, fun i z hz => (hat i z hz).2⟩
    obtain ⟨h1, _⟩ := hat k z hz
    have hen := ok.len z
    refine ⟨a, rfl, ?_, fun j u hu => ?_⟩
    · have h2 := h1 0 ok.pos
      rw [List.getElem?_eq_getElem (by rw [hen]; exact ok.pos)] at h2
      have := World.block_lt_of_cell? w _ h2
      rwa [addK_blk] at this
    · have hj := (List.getElem?_eq_some_iff.1 hu).1
      rw [hen] at hj
      rw [h1 j hj, hu]
theorem list5 {l : List Value} (h : l.length = 5) : ∃ a b c d e, l = [a, b, c, d, e] := by
  match l, h with
  | [a, b, c, d, e], _ => exact ⟨a, b, c, d, e, rfl⟩
theorem list6 {l : List Value} (h : l.length = 6) : ∃ a b c d e f, l = [a, b, c, d, e, f] := by
  match l, h with
  | [a, b, c, d, e, f], _ => exact ⟨a, b, c, d, e, f, rfl⟩
/-- a table: its numbers the language's, its texts no longer than its bulk -/
def tblQ (z : Tbl) (d : DataW H) : Prop := 2 ≤ Rows.uptoBulk d ∧ z.lang ∧ z.first.size ≤ Rows.uptoBulk d ∧ z.last.size ≤ Rows.uptoBulk d
set_option maxRecDepth 100000 in
theorem open_tbl (fuel : Nat) (cs : List Value) (x : DataW H × List MemPlace) (hl : cs.length = 5) (h : DataW.trod enc Tryz.prog w base spare held fuel 76 cs = some x) : ∃ z : Tbl, cs = Tbl.cells z ∧ tblQ z x.1 := by
  obtain ⟨c0, c1, c2, c3, c4, rfl⟩ := list5 hl
  obtain ⟨xs, n, hfn, hx, _, hlen, hg⟩ := DataW.trod_struct Tryz.underlying76 h
  match xs, hlen with
  | [y0, y1, y2, y3, y4], _ =>
    obtain ⟨k0, e0, _, w0⟩ := DataW.trod_int Tryz.underlying3 (by simpa [cellsInt] using hg 0 _ rfl : DataW.trod enc Tryz.prog w base spare held n 3 [c0] = some y0)
    obtain ⟨k1, e1, _, w1⟩ := DataW.trod_int Tryz.underlying3 (by simpa [cellsInt] using hg 1 _ rfl : DataW.trod enc Tryz.prog w base spare held n 3 [c1] = some y1)
    obtain ⟨k2, e2, _, w2⟩ := DataW.trod_int Tryz.underlying3 (by simpa [cellsInt] using hg 2 _ rfl : DataW.trod enc Tryz.prog w base spare held n 3 [c2] = some y2)
    obtain ⟨a, e3, r3, _⟩ := DataW.trod_string Tryz.underlying9 (by simpa [cellsStr] using hg 3 _ rfl : DataW.trod enc Tryz.prog w base spare held n 9 [c3] = some y3)
    obtain ⟨b, e4, r4, _⟩ := DataW.trod_string Tryz.underlying9 (by simpa [cellsStr] using hg 4 _ rfl : DataW.trod enc Tryz.prog w base spare held n 9 [c4] = some y4)
    simp only [List.cons.injEq, and_true] at e0 e1 e2 e3 e4
    subst e0 e1 e2 e3 e4
    have b3 : Rows.uptoBulk y3.1 = a.data.toList.length + 1 := by rw [r3]; rfl
    have b4 : Rows.uptoBulk y4.1 = b.data.toList.length + 1 := by rw [r4]; rfl
    have s3 := Lib.size_eq a
    have s4 := Lib.size_eq b
    obtain ⟨i0, j0⟩ := i64_bd w0
    obtain ⟨i1, j1⟩ := i64_bd w1
    obtain ⟨i2, j2⟩ := i64_bd w2
    have hb : Rows.uptoBulk x.1 = Rows.uptoBulk y0.1 + (Rows.uptoBulk y1.1 + (Rows.uptoBulk y2.1 + (Rows.uptoBulk y3.1 + (Rows.uptoBulk y4.1 + 0)))) + 1 := by rw [hx]; rfl
    refine ⟨⟨k0, k1, k2, a, b⟩, rfl, by omega, ⟨i0, j0, i1, j1, i2, j2⟩, ?_, ?_⟩
    · show a.size ≤ _; omega
    · show b.size ≤ _; omega
theorem open_int1 (fuel : Nat) (cs : List Value) (x : DataW H × List MemPlace) (_hl : cs.length = 1) (h : DataW.trod enc Tryz.prog w base spare held fuel 3 cs = some x) : ∃ z : Int, cs = rkI.en z ∧ (-9223372036854775808 ≤ z ∧ z < 9223372036854775808) := by
  obtain ⟨k0, e0, _, w0⟩ := DataW.trod_int Tryz.underlying3 h
  exact ⟨k0, e0, i64_bd w0⟩
set_option maxRecDepth 100000 in
theorem open_ver {fuel : Nat} {cs : Array Value} {x : DataW H × List MemPlace} (hl : cs.size = 5) (h : DataW.trod enc Tryz.prog w base spare held fuel 30 cs.toList = some x) (hb : Rows.uptoBulk x.1 ≤ 1048576) :
    ∃ (p : Option Addr) (c : Nat) (v : Ver), cs = #[.slice p v.tables.length c, .int .u64 v.floor, .int .u64 v.head, .int .i64 v.log, .int .i64 v.next] ∧ VerArg w p c v := by
  obtain ⟨c0, c1, c2, c3, c4, hcs⟩ := list5 (l := cs.toList) (by simpa using hl)
  rw [hcs] at h
  obtain ⟨xs, n, hfn, hx, _, hlen, hg⟩ := DataW.trod_struct Tryz.underlying30 h
  match xs, hlen with
  | [y0, y1, y2, y3, y4], _ =>
    have h0 : DataW.trod enc Tryz.prog w base spare held n 27 [c0] = some y0 := by simpa [cellsTbls] using hg 0 _ rfl
    obtain ⟨k1, e1, _, w1⟩ := DataW.trod_int Tryz.underlying28 (by simpa [cellsU64] using hg 1 _ rfl : DataW.trod enc Tryz.prog w base spare held n 28 [c1] = some y1)
    obtain ⟨k2, e2, _, w2⟩ := DataW.trod_int Tryz.underlying28 (by simpa [cellsU64] using hg 2 _ rfl : DataW.trod enc Tryz.prog w base spare held n 28 [c2] = some y2)
    obtain ⟨k3, e3, _, w3⟩ := DataW.trod_int Tryz.underlying3 (by simpa [cellsInt] using hg 3 _ rfl : DataW.trod enc Tryz.prog w base spare held n 3 [c3] = some y3)
    obtain ⟨k4, e4, _, w4⟩ := DataW.trod_int Tryz.underlying3 (by simpa [cellsInt] using hg 4 _ rfl : DataW.trod enc Tryz.prog w base spare held n 3 [c4] = some y4)
    obtain ⟨zs, ds, p, cap, rfl, hcap, _, hat, hdl, hbk, hq⟩ := open_rowsK rkT rkT_ok cellsTbl (Q := tblQ) h0 open_tbl
    simp only [List.cons.injEq, and_true] at e1 e2 e3 e4
    obtain ⟨m1, rfl, b1⟩ := u64_nat w1
    obtain ⟨m2, rfl, b2⟩ := u64_nat w2
    obtain ⟨i3, j3⟩ := i64_bd w3
    obtain ⟨i4, j4⟩ := i64_bd w4
    have hbb : Rows.uptoBulk x.1 = Rows.uptoBulk y0.1 + (Rows.uptoBulk y1.1 + (Rows.uptoBulk y2.1 + (Rows.uptoBulk y3.1 + (Rows.uptoBulk y4.1 + 0)))) + 1 := by rw [hx]; rfl
    have hlen1 := bulk_two ds fun i d hd => by
      have hlt := (List.getElem?_eq_some_iff.1 hd).1
      obtain ⟨d', h1, h2, _⟩ := hq i _ (List.getElem?_eq_getElem (by omega))
      obtain rfl := Option.some.inj (hd.symm.trans h1)
      exact h2
    have hin : ∀ t ∈ zs, t.lang ∧ t.first.size ≤ 1048576 ∧ t.last.size ≤ 1048576 := fun t ht => by
      obtain ⟨i, hi⟩ := List.getElem?_of_mem ht
      obtain ⟨d, h1, _, h2, h3, h4⟩ := hq i t hi
      have := bulk_mem h1
      exact ⟨h2, by omega, by omega⟩
    refine ⟨p, cap, ⟨zs, m1, m2, k3, k4⟩, ?_, ⟨⟨p, cap, rfl, hat⟩, by show zs.length ≤ _; omega, fun t ht => (hin t ht).1, b1, b2, i3, j3, i4, j4⟩, hcap, fun t ht => by have := (hin t ht).2; omega⟩
    rw [← Array.toList_inj, hcs, e1, e2, e3, e4]
set_option maxRecDepth 100000 in
theorem open_edt {fuel : Nat} {cs : Array Value} {x : DataW H × List MemPlace} (hl : cs.size = 6) (h : DataW.trod enc Tryz.prog w base spare held fuel 33 cs.toList = some x) (hb : Rows.uptoBulk x.1 ≤ 1048576) :
    ∃ (p q : Option Addr) (c d : Nat) (v : Edt), cs = #[.slice p v.add.length c, .slice q v.drop.length d, .int .u64 v.floor, .int .u64 v.head, .int .i64 v.log, .int .i64 v.next] ∧ EdtArg w p q d v := by
  obtain ⟨c0, c5, c1, c2, c3, c4, hcs⟩ := list6 (l := cs.toList) (by simpa using hl)
  rw [hcs] at h
  obtain ⟨xs, n, hfn, hx, _, hlen, hg⟩ := DataW.trod_struct Tryz.underlying33 h
  match xs, hlen with
  | [y0, y5, y1, y2, y3, y4], _ =>
    have h0 : DataW.trod enc Tryz.prog w base spare held n 27 [c0] = some y0 := by simpa [cellsTbls] using hg 0 _ rfl
    have h5 : DataW.trod enc Tryz.prog w base spare held n 31 [c5] = some y5 := by simpa [cellsInts] using hg 1 _ rfl
    obtain ⟨k1, e1, _, w1⟩ := DataW.trod_int Tryz.underlying28 (by simpa [cellsU64] using hg 2 _ rfl : DataW.trod enc Tryz.prog w base spare held n 28 [c1] = some y1)
    obtain ⟨k2, e2, _, w2⟩ := DataW.trod_int Tryz.underlying28 (by simpa [cellsU64] using hg 3 _ rfl : DataW.trod enc Tryz.prog w base spare held n 28 [c2] = some y2)
    obtain ⟨k3, e3, _, w3⟩ := DataW.trod_int Tryz.underlying3 (by simpa [cellsInt] using hg 4 _ rfl : DataW.trod enc Tryz.prog w base spare held n 3 [c3] = some y3)
    obtain ⟨k4, e4, _, w4⟩ := DataW.trod_int Tryz.underlying3 (by simpa [cellsInt] using hg 5 _ rfl : DataW.trod enc Tryz.prog w base spare held n 3 [c4] = some y4)
    obtain ⟨zs, ds, p, cap, rfl, hcap, _, hat, hdl, hbk, hq⟩ := open_rowsK rkT rkT_ok cellsTbl (Q := tblQ) h0 open_tbl
    obtain ⟨ns, dn, q, qcap, rfl, _, hqn, hatn, hdn, hbn, hqq⟩ := open_rowsK rkI rkI_ok cellsInt (Q := fun z _ => -9223372036854775808 ≤ z ∧ z < 9223372036854775808) h5 open_int1
    simp only [List.cons.injEq, and_true] at e1 e2 e3 e4
    obtain ⟨m1, rfl, b1⟩ := u64_nat w1
    obtain ⟨m2, rfl, b2⟩ := u64_nat w2
    obtain ⟨i3, j3⟩ := i64_bd w3
    obtain ⟨i4, j4⟩ := i64_bd w4
    have hbb : Rows.uptoBulk x.1 = Rows.uptoBulk y0.1 + (Rows.uptoBulk y5.1 + (Rows.uptoBulk y1.1 + (Rows.uptoBulk y2.1 + (Rows.uptoBulk y3.1 + (Rows.uptoBulk y4.1 + 0))))) + 1 := by rw [hx]; rfl
    have hlen1 := bulk_two ds fun i d hd => by
      have hlt := (List.getElem?_eq_some_iff.1 hd).1
      obtain ⟨d', h1, h2, _⟩ := hq i _ (List.getElem?_eq_getElem (by omega))
      obtain rfl := Option.some.inj (hd.symm.trans h1)
      exact h2
    have hlen2 := bulk_len dn
    have hin : ∀ t ∈ zs, t.lang ∧ t.first.size ≤ 1048576 ∧ t.last.size ≤ 1048576 := fun t ht => by
      obtain ⟨i, hi⟩ := List.getElem?_of_mem ht
      obtain ⟨d, h1, _, h2, h3, h4⟩ := hq i t hi
      have := bulk_mem h1
      exact ⟨h2, by omega, by omega⟩
    have hinn : ∀ t ∈ ns, -9223372036854775808 ≤ t ∧ t < 9223372036854775808 := fun t ht => by
      obtain ⟨i, hi⟩ := List.getElem?_of_mem ht
      obtain ⟨d, _, h2⟩ := hqq i t hi
      exact h2
    refine ⟨p, q, cap, qcap, ⟨zs, ns, m1, m2, k3, k4⟩, ?_, ⟨hat, hatn, hqn, ⟨by show zs.length ≤ _; omega, by show ns.length ≤ _; omega⟩, fun t ht => (hin t ht).1, hinn, ⟨b1, b2, i3, j3, i4, j4⟩, fun t ht => by have := (hin t ht).2; omega⟩⟩
    rw [← Array.toList_inj, hcs, e1, e2, e3, e4]
end
end Go.Proofs.YtabcdodjkfknlaaGreatDoor
namespace Go.Proofs.YtabcdodjkfknlaaGreatDoor
open Go.ChangeShapes Go.WideShapes Go.ChangeAt Go.RowKit Go.Deep
theorem u16_nat {n : Int} (h : (Lit.int .u16 n).wf = true) : ∃ m : Nat, n = (m : Int) ∧ m < 65536 := by
  simp only [Lit.wf, Bool.and_eq_true, decide_eq_true_eq] at h
  obtain ⟨h1, h2⟩ := h
  have e1 : IntKind.u16.min = 0 := by decide
  have e2 : IntKind.u16.max = 65535 := by decide
  rw [e1] at h1
  rw [e2] at h2
  exact ⟨n.toNat, by omega, by omega⟩
def ftornArgs : Array Value := #[.agg #[.slice none 0 0, .int .u64 0, .int .u64 0, .int .i64 0, .int .i64 0], .agg #[.slice none 0 0, .slice none 0 0, .int .u64 0, .int .u64 0, .int .i64 0, .int .i64 0], .int .u16 0]
theorem ftorn_laid (os : Os) : laidMet Tryz.prog Rows.filesTornUptoRow.laid ((laidWorld os).forCall (fun _ _ => 0) ⟨#[], ftornArgs, []⟩).memory :=
  laidMet_of_run' 8 (by kernel_rfl) (by kernel_rfl)
theorem ftorn_reads (os : Os) {H : Type} (enc : TypeId × Value → H) : ∃ places, DataW.whole enc Tryz.prog ((laidWorld os).forCall (fun _ _ => 0) ⟨#[], ftornArgs, []⟩).memory Tryz.f4.params.toList Rows.filesTornSpec.vars false ftornArgs.toList 8 = some ([.agg [.nil, .lit (.int .u64 0), .lit (.int .u64 0), .lit (.int .i64 0), .lit (.int .i64 0)], .agg [.nil, .nil, .lit (.int .u64 0), .lit (.int .u64 0), .lit (.int .i64 0), .lit (.int .i64 0)], .lit (.int .u16 0)], [], places) :=
  ⟨[], by kernel_rfl⟩
set_option maxRecDepth 100000 in
theorem ftorn_lifted (os : Os) (started : os.Started) (H : Type) (enc : TypeId × Value → H) (F : Stop.Interp) :
    ReturnsInHanded {} Tryz.checked os 4 .any ((Rows.OpenSpec.upto Rows.filesTornSpec).preRow enc Tryz.prog Tryz.f4 Rows.filesTornUptoRow.domain false Rows.filesTornUptoRow.laid) (((Rows.OpenSpec.upto Rows.filesTornSpec).at F).post enc Tryz.prog Tryz.f4 false true false false) := by
  obtain ⟨places, hx⟩ := ftorn_reads os enc
  refine returnsInHanded_of_row (C := Tryz.checked) (s := Rows.OpenSpec.upto Rows.filesTornSpec) own started (by kernel_rfl) Tryz.func4
    (witness_row_at (enc := enc) (C := Tryz.checked) false (laidWorld os) ftornArgs rfl (by kernel_rfl) (by kernel_rfl) (by kernel_rfl)
      (OpenSpec.preRow_of_cond 8 hx (by kernel_rfl) (fun k hk => by cases hk; kernel_rfl) (by kernel_rfl) (ftorn_laid os))) ?_
  intro W base args ds gs before hval0 hW k1 k2 k3 hlaid hsh _
  have hval : ∀ (j : Nat) t v, Tryz.f4.params[j]? = some t → args[j]? = some v → Value.okWide Tryz.prog W .any base t v := hval0
  have hW' := hW
  obtain ⟨p, q, hA0, hV, rfl, hfz, hnd⟩ := hW
  have hA : DataW.TrodAll enc Tryz.prog W 0 (fun _ => true) true Tryz.f4.params.toList args.toList ds p := hA0
  rw [Tryz.params4] at hA hval
  obtain ⟨v0, v1, v2, d0, d1, d2, p0, p1, p2, rfl, rfl, rfl, h0, h1, h2⟩ := trodAll_three hA
  obtain ⟨rfl, rfl⟩ := trodVars_none hV
  have hcond : Rows.uptoSmall H [d0, d1, d2] = true := by
    first
      | exact k1 _ rfl
      | exact k2 _ rfl
      | exact k3 _ rfl
  obtain ⟨cs0, rfl, hsz0⟩ := okWide_struct Tryz.underlying30 (hval 0 30 v0 rfl rfl)
  obtain ⟨cs1, rfl, hsz1⟩ := okWide_struct Tryz.underlying33 (hval 1 33 v1 rfl rfl)
  obtain ⟨n, rfl, rfl, rfl, hn⟩ := open_int Tryz.underlying34 (hval 2 34 v2 rfl rfl) h2
  obtain ⟨cut, rfl, hcut⟩ := u16_nat hn
  have h0k := h0
  have h1k := h1
  obtain ⟨fuel0, hf0⟩ := h0
  obtain ⟨fuel1, hf1⟩ := h1
  clear hA0 hval0
  simp only [List.append_nil] at hW'
  have hlt : ∀ x ∈ p0 ++ p1, x.block < W.heap.size := fun x hx => by simpa using hW'.lt x hx
  have hargs0 : ∀ (W' : World), Below W.heap.size W W' → DataW.Trod enc Tryz.prog W' 0 (fun b => decide (b < W.heap.size)) true 30 (.agg cs0) d0 p0 :=
    fun W' hn => Below.trod laidOut (by kernel_rfl) (of_decide_eq_true (by kernel_rfl)) h0k hn fun x hx => hlt x (List.mem_append.2 (.inl hx))
  have hargs1 : ∀ (W' : World), Below W.heap.size W W' → DataW.Trod enc Tryz.prog W' 0 (fun b => decide (b < W.heap.size)) true 33 (.agg cs1) d1 p1 :=
    fun W' hn => Below.trod laidOut (by kernel_rfl) (of_decide_eq_true (by kernel_rfl)) h1k hn fun x hx => hlt x (List.mem_append.2 (.inr hx))
  have hb : Rows.uptoBulk d0 + (Rows.uptoBulk d1 + (Rows.uptoBulk (.lit (.int .u16 (cut : Int)) : DataW H) + 0)) ≤ 1048576 := of_decide_eq_true hcond
  simp only [Value.cells] at hf0 hf1
  obtain ⟨pv, cv, v, rfl, hv⟩ := open_ver (by simpa [cellsVer] using hsz0) hf0 (by show Rows.uptoBulk d0 ≤ _; omega)
  obtain ⟨pa, q, ca, dd, x, rfl, hxx⟩ := open_edt (by simpa [cellsEdt] using hsz1) hf1 (by show Rows.uptoBulk d1 ≤ _; omega)
  refine (filesTorn_calls pv q pa cv ca dd v x cut W (std_of_laid hlaid hsh) hv hxx hcut).mono fun e W' ⟨he, hB⟩ => ?_
  subst he
  exact ⟨_, rfl, _, _, _, [], _, [], hW', trodAll_mk1 (shut_bool Tryz.underlying4 _), trodAll_mk3 (hargs0 _ hB) (hargs1 _ hB) (shut_int Tryz.underlying34 hn), rfl, hB.frame _, fun h => by cases h⟩
theorem ftorn_said : Rows.FilesTornUptoSaid :=
  OpenClaim.holds_of_cond 4 Tryz.f4 rfl rfl rfl rfl rfl rfl rfl ⟨rfl, rfl, rfl, rfl, rfl⟩ rfl rfl rfl rfl rfl (by kernel_rfl) Tryz.func4 (by kernel_rfl)
    (of_decide_eq_true (by kernel_rfl)) (by unfold Func.isWrapper; first | (rw [if_pos (by decide +kernel)]; kernel_rfl) | (rw [if_neg (by decide +kernel)]; exact ⟨rfl, rfl⟩))
    (fun os started H enc _ F => by rw [OpenClaim.pre_eq_preRow]; exact ftorn_lifted os started H enc F)
theorem ftorn_plain (f : FuncId) (fn : Func) (hf : Tryz.pinned.checked.prog.funcNamed "sentry/sentrylaw21.FilesTorn" = some f) (hfn : Tryz.pinned.checked.prog.funcs[f]? = some fn) :
    true = Tryz.pinned.checked.prog.looks [] ∧ ∀ (j : Nat) t, fn.params[j]? = some t → Tryz.pinned.checked.prog.wantsStandIn t = false := by
  obtain rfl : f = 4 := Option.some.inj ((show Tryz.prog.funcNamed "sentry/sentrylaw21.FilesTorn" = some 4 by kernel_rfl).symm.trans hf) |>.symm
  obtain rfl : fn = Tryz.f4 := (Option.some.inj (Tryz.func4.symm.trans hfn)).symm
  refine ⟨by kernel_rfl, fun j t ht => ?_⟩
  rw [Tryz.params4] at ht
  have hm : t = 30 ∨ t = 33 ∨ t = 34 := by simpa using Array.mem_of_getElem? ht
  rcases hm with rfl | rfl | rfl
  · exact (show Tryz.prog.wantsStandIn 30 = false by kernel_rfl)
  · exact (show Tryz.prog.wantsStandIn 33 = false by kernel_rfl)
  · exact (show Tryz.prog.wantsStandIn 34 = false by kernel_rfl)
theorem ftorn_card : Rows.FilesTornUptoCardSaid :=
  Claim7.holds_tied_plain_at .later [] _ _ _ _ ftorn_said (fun _ h => by cases h) (by kernel_rfl) (fun _ h => by cases h) filesTornUpto_row_tie rfl ⟨rfl, rfl⟩ (by kernel_rfl) rfl ftorn_plain (by kernel_rfl)
#print axioms ftorn_card
end Go.Proofs.YtabcdodjkfknlaaGreatDoor
