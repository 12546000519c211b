/- Walks: the document's disk: Used, List, Read. -/
import Derived.Test.YtgclancneohpbaaRW7
import Derived.Test.YtgclancneohpbaaDAt
import Derived.Deep.QuietTactic
import Derived.BigQuiet
namespace Go.Proofs.Ytgclancneohpbaa
open Go.RowKit Go.Maps Go.Shelf Go.Sort
attribute [local go_sem ↓] dapp_op
theorem fcells_at : ∀ (dv : List Value) (F : List File) (i : Nat) (u : Value) (x : File), dv[i]? = some u → F[i]? = some x → (fcells dv F)[i * 2]? = some u ∧ (fcells dv F)[i * 2 + 1]? = some (.int .i64 x.safe)
  | [], _, i, u, x, h, _ => by simp at h
  | _ :: _, [], i, u, x, _, h => by simp at h
  | d :: dv, f :: F, 0, u, x, h, h' => by
    obtain rfl : d = u := by simpa using h
    obtain rfl : f = x := by simpa using h'
    exact ⟨rfl, rfl⟩
  | d :: dv, f :: F, i + 1, u, x, h, h' => by
    obtain ⟨h1, h2⟩ := fcells_at dv F i u x (by simpa using h) (by simpa using h')
    have e : fcells (d :: dv) (f :: F) = d :: .int .i64 f.safe :: fcells dv F := rfl
    rw [e, show (i + 1) * 2 = i * 2 + 1 + 1 by omega]
    exact ⟨by simpa using h1, by simpa using h2⟩
theorem fcells_len {dv : List Value} {F : List File} (h : dv.length = F.length) : (fcells dv F).length = F.length * 2 := by
  unfold fcells
  rw [List.length_flatMap]
  have : (dv.zip F).length = F.length := by rw [List.length_zip]; omega
  rw [show (List.map (fun a : Value × File => [a.1, .int .i64 a.2.safe].length) (dv.zip F)) = List.map (fun _ => 2) (dv.zip F) from rfl, List.map_const', List.sum_replicate_nat, this]
section
variable {w w' : World} {B g : Nat} {vF vD vS vA : Value} {dv : List Value} {F : List File} {d s : RDir} {A : List RAct} {r : RD}
/-- one file of a disk -/
theorem RRest.file (h : RRest w B vF vD vS vA dv F d s A) {i : Nat} (hi : i < F.length) : ∃ f c x p c', vF = .slice (some ⟨f, 0, none⟩) F.length c ∧ F[i]? = some x ∧ dv[i]? = some (.slice p x.data.length c') ∧ DataAt w (.slice p x.data.length c') x.data ∧ w.cell? ⟨f, i * 2, none⟩ = some (.slice p x.data.length c') ∧ w.cell? ⟨f, i * 2 + 1, none⟩ = some (.int .i64 x.safe) ∧ (∀ j, w.frozen? ⟨f, j, none⟩ = false) ∧ f < w.heap.size := by
  have hx := List.getElem?_eq_getElem hi
  obtain ⟨u, h1, h2⟩ := h.data i _ hx
  obtain ⟨p, c', rfl⟩ := RowAt.slice h2
  obtain ⟨q, c, rfl⟩ := own_slice h.files
  have hq : ∃ f, q = some ⟨f, 0, none⟩ := by
    obtain ⟨_, ⟨e, e0⟩ | ⟨f, _, _, e, _⟩⟩ := h.files
    · omega
    · injection e with e1; exact ⟨f, e1⟩
  obtain ⟨f, rfl⟩ := hq
  obtain ⟨k1, k2⟩ := fcells_at dv F i _ _ h1 hx
  have hf := h.files
  exact ⟨f, c, F[i], p, c', rfl, hx, h1, h2, (hf.cellAt _ (by omega)).trans k1, (hf.cellAt _ (by omega)).trans k2, hf.frozenAt, (hf.lt f rfl).2⟩
end
theorem rsum_take (F : List File) {d : RDir} {k : Nat} {n : List UInt8 × Nat} (h : d[k]? = some n) : rsum F (rnums (d.take (k + 1))) = rsum F (rnums (d.take k)) + rsize F n.2 := by
  unfold rnums
  rw [List.take_add_one, h, List.map_append, rsum_append]
  show _ + rsum F [n.2] = _
  rw [rsum_cons]; rfl
theorem rsum_le {F : List File} {c : Nat} (h : ∀ x ∈ F, x.data.length ≤ c) (l : List Nat) : rsum F l ≤ l.length * c := by
  induction l with
  | nil => exact Nat.zero_le _
  | cons i l ih =>
    rw [rsum_cons, List.length_cons, Nat.add_mul, Nat.one_mul]
    have : rsize F i ≤ c := by
      unfold rsize
      rw [List.getD_eq_getElem?_getD]
      cases hx : F[i]? with
      | none => exact Nat.zero_le _
      | some x => exact h x (List.mem_of_getElem? hx)
    omega
set_option maxHeartbeats 2000000 in
set_option maxRecDepth 100000 in
theorem rused_calls (r : RD) (B g m : Nat) (vF vD vS vA : Value) (dv : List Value) (w : World) (h : RDat w B g vF vD vS vA dv r) (hk : RDok r m) (hm : m ≤ 4000) :
    Calls Try.prog 34 #[.pointer (some ⟨g, 0, none⟩)] w fun e w' => e = .returned (.int .i64 r.usedA) ∧ Below w.heap.size w w' := by
  have hE : r.usedA = if r.down then 0 else (r.used : Int) := rfl
  have qc := h.blk.cell
  have hgl := h.blk.lt
  cases hdn : r.down
  · rw [hdn, if_neg (by decide)] at hE
    rw [hE]
    have hd1 := h.rest.dir
    obtain ⟨pD, cD, rfl⟩ := hd1.slice
    have hdl := hk.dir
    have hnd := Lib.hid hk.nd
    have hU := Lib.hid (rsum_le (fun x hx => (hk.small x hx).2) : ∀ l : List Nat, rsum r.files l ≤ l.length * (m * 65536))
    have hsz := Lib.hid hk.small
    have hr := Lib.hid h.rest
    have hu : r.used = rsum r.files (rnums r.dir) := rfl
    rw [hu]
    rw [hdn] at qc
    have qc' := Lib.hid qc
    clear h hE hd1 hu hk
    go_enter Try.func34, Try.ntmps34
    go_wp2_with fail
    clear qc
    go_loopw [3, 5, 15] (fun sm _ i wr => ∃ k : Nat, k ≤ r.dir.length ∧ i = .int .i64 k ∧ sm = .int .i64 (rsum r.files (rnums (r.dir.take k)) : Nat) ∧ Below w.heap.size w wr) (fun _ _ i _ => r.dir.length - (intOf i).toNat)
    case atStart => exact ⟨0, Nat.zero_le _, rfl, rfl, Below.refl _ _⟩
    case round =>
      obtain ⟨k, hlen, rfl, rfl, hB⟩ := hrel
      have hz := hB.size
      have hle : rsum r.files (rnums (r.dir.take k)) ≤ 4000 * (4000 * 65536) := by
        refine Nat.le_trans (hU.out _) (Nat.mul_le_mul ?_ (Nat.mul_le_mul_right _ hm))
        unfold rnums; rw [List.length_map, List.length_take]; omega
      by_cases hlt : k < r.dir.length
      · obtain ⟨g1, c1, n, t, hv, hc, hg, hdk, ht, q0, q1⟩ := (hr.out.dir.later hB).name hlt
        obtain ⟨rfl, rfl⟩ : pD = some ⟨g1, 0, none⟩ ∧ cD = c1 := by simpa using hv
        obtain ⟨f, c, x, p, c', rfl, hx, _, _, r0, _, _, hfl⟩ := (hr.out.later hB).file (hnd.out n (List.mem_of_getElem? hdk))
        have hst := rsum_take r.files hdk
        have hrs : rsize r.files n.2 = x.data.length := by unfold rsize; rw [List.getD_eq_getElem?_getD, hx]; rfl
        rw [hrs] at hst
        have hxl : x.data.length ≤ 4000 * 65536 := Nat.le_trans ((hsz.out x (List.mem_of_getElem? hx)).2) (Nat.mul_le_mul_right _ hm)
        have hfn : n.2 < r.files.length := hnd.out n (List.mem_of_getElem? hdk)
        have hst' := Lib.hid hst
        have BA := hB.alloc hz (.cells #[.string t, .int .i64 n.2] 108)
        have bn := (Blk.new wr 108 #[.string t, .int .i64 n.2]).cell
        have qg : ∀ i, wr.cell? ⟨g, i, none⟩ = (#[.int .i64 r.cap, .bool false, .int .i64 r.left, .slice (some ⟨f, 0, none⟩) r.files.length c, .slice (some ⟨g1, 0, none⟩) r.dir.length cD, vS, vA] : Array Value)[i]? := fun i => (hB.cell (p := ⟨g, i, none⟩) hgl).trans (qc'.out i)
        have hgr : g < wr.heap.size := by omega
        clear hv hdk ht hst hrs hx
        generalize rsum r.files (rnums (r.dir.take k)) = S0 at *
        go_wp2_with fail
        go_quiet (fail)
        rename_i nq
        go_wp2_with fail
        go_roundw
        case rel => exact ⟨k + 1, by omega, by go_num, by rw [hst'.out]; go_num, bdrewN BA nq⟩
        case measure => simp [intOf]; omega
      · have he : r.dir.take k = r.dir := List.take_of_length_le (by omega)
        have he' := Lib.hid he
        clear he
        go_wp2_with fail
        go_ret
        exact ⟨by rw [he'.out]; rfl, hB⟩
  · rw [hdn, if_pos rfl] at hE
    rw [hE]
    rw [hdn] at qc
    clear h hE hk
    go_enter Try.func34, Try.ntmps34
    go_wp2_with fail
    go_ret
    exact ⟨rfl, Below.refl _ _⟩
theorem info_str1 : (Try.prog.info? 9).map (fun i => (i.zero, i.size, i.bytes)) = some (some (.string ⟨#[]⟩), 1, 16) := by kernel_rfl
theorem spush {w : World} {base : Nat} {v : Value} {l : List (List UInt8)} (h : w.ownsRow base 9 1 v l.length (l.map encStr)) (hl : l.length ≤ 1000000) (hb : base ≤ w.heap.size) {o : Nat} {s : ByteArray} (ho : Blk w o 9 #[.string s]) :
    ∃ p c w', (dappOp #[34, 34] 34 #[v, .slice (some ⟨o, 0, none⟩) 1 1]).run Try.prog w = .ok (.slice p (l.length + 1) c) w' ∧ w'.ownsRow base 9 1 (.slice p (l.length + 1) c) (l ++ [s.data.toList]).length ((l ++ [s.data.toList]).map encStr) ∧ Below base w w' := by
  obtain ⟨i0, hi, hz0, hz1, hz2⟩ := info_parts info_str1
  obtain ⟨v', w', h2, h3, h4, _, h5⟩ := run_append_own_at (P := Try.prog) w base 34 34 9 i0 (.string ⟨#[]⟩) 1 16 Try.underlying34 hi hz0 hz1 hz2 rfl (by decide) v l.length _ h ⟨o, 0, none⟩ 1 1 [.string s] rfl (by
      intro j u hj
      rw [addr_at, ho.cell j, ← hj]
      simp) (by
      intro u hu
      simp at hu
      subst hu; rfl) (by unfold maxLen; omega) (by omega) hb
  obtain ⟨p, c, rfl⟩ := own_slice h3
  refine ⟨p, c, w', h2, ?_, (Keeps.refl (fun k => v.ownBlock = some k) w |>.grown h4 (fun k e => .inl e)).below (fun k _ e => (h.lt k e).1) hb⟩
  rw [List.map_append, List.length_append]
  have e : encStr s.data.toList = .string s := by unfold encStr; simp
  rw [List.map_singleton, e]
  exact h3
set_option maxHeartbeats 2000000 in
set_option maxRecDepth 100000 in
theorem rlist_calls (r : RD) (B g m : Nat) (vF vD vS vA : Value) (dv : List Value) (w : World) (h : RDat w B g vF vD vS vA dv r) (hk : RDok r m) (hm : m ≤ 4000) :
    Calls Try.prog 36 #[.pointer (some ⟨g, 0, none⟩)] w (NamesPost w r.list) := by
  have hE : r.list = if r.down then [] else r.dir.map Prod.fst := rfl
  have qc := h.blk.cell
  have hgl := h.blk.lt
  cases hdn : r.down
  · rw [hdn, if_neg (by decide)] at hE
    rw [hE]
    have hd1 := h.rest.dir
    obtain ⟨pD, cD, rfl⟩ := hd1.slice
    have hdl := hk.dir
    have hr := Lib.hid hd1
    rw [hdn] at qc
    clear h hE hd1 hk
    go_enter Try.func36, Try.ntmps36
    go_wp2_with fail
    clear qc
    go_loopw [3, 5, 15] (fun v _ i wr => ∃ k : Nat, k ≤ r.dir.length ∧ i = .int .i64 k ∧ wr.ownsRow w.heap.size 9 1 v ((r.dir.take k).map Prod.fst).length (((r.dir.take k).map Prod.fst).map encStr) ∧ Below w.heap.size w wr) (fun _ _ i _ => r.dir.length - (intOf i).toNat)
    case atStart => exact ⟨0, Nat.zero_le _, rfl, World.ownsRow_nil _ _ _ _, Below.refl _ _⟩
    case round =>
      obtain ⟨k, hlen, rfl, ho, hB⟩ := hrel
      have hz := hB.size
      obtain ⟨po, co, rfl⟩ := own_slice ho
      by_cases hlt : k < r.dir.length
      · obtain ⟨g1, c1, n, t, hv, hc, hg, hdk, ht, q0, q1⟩ := (hr.out.later hB).name hlt
        obtain ⟨rfl, rfl⟩ : pD = some ⟨g1, 0, none⟩ ∧ cD = c1 := by simpa using hv
        have BA := hB.alloc hz (.cells #[.string t, .int .i64 n.2] 108)
        have bn := (Blk.new wr 108 #[.string t, .int .i64 n.2]).cell
        have hll : ((r.dir.take k).map Prod.fst).length ≤ 4000 := by rw [List.length_map, List.length_take]; omega
        have hoA := (ho.alloc (.cells #[.string t, .int .i64 n.2] 108)).alloc (.cells #[.string t] 9)
        obtain ⟨p2, c2, w2, e1, ho2, B2⟩ := spush hoA (by omega) (by simp; omega) (Blk.new (wr.alloc (.cells #[.string t, .int .i64 n.2] 108)) 9 #[.string t])
        simp only [World.size_alloc] at e1
        have hB2 := (BA.alloc (by simp; omega) (.cells #[.string t] 9)).trans B2
        have hnext : (r.dir.take k).map Prod.fst ++ [t.data.toList] = (r.dir.take (k + 1)).map Prod.fst := by rw [List.take_add_one, hdk, List.map_append, ht]; rfl
        rw [hnext] at ho2
        have ho2' := Lib.hid ho2
        clear hv hdk ht hnext ho hoA ho2 B2 BA
        generalize ((r.dir.take k).map Prod.fst).length = L0 at *
        go_wp2_with fail
        go_roundw
        case rel => exact ⟨k + 1, by omega, by go_num, ho2'.out, hB2⟩
        case measure => simp [intOf]; omega
      · have he : (r.dir.take k).map Prod.fst = r.dir.map Prod.fst := by rw [List.take_of_length_le (by omega)]
        rw [he] at ho
        have ho' := Lib.hid ho
        have hll : (r.dir.map Prod.fst).length ≤ 4000 := by rw [List.length_map]; omega
        have hll' := Lib.hid hll
        rw [he]
        clear he ho hll
        go_wp2_with fail
        go_ret
        exact ⟨_, rfl, ho'.out, Nat.le_trans hll'.out (by decide), hB⟩
  · rw [hdn, if_pos rfl] at hE
    rw [hE]
    rw [hdn] at qc
    clear h hE hk
    go_enter Try.func36, Try.ntmps36
    go_wp2_with fail
    go_ret
    exact ⟨_, rfl, World.ownsRow_nil _ _ _ _, by decide, Below.refl _ _⟩
end Go.Proofs.Ytgclancneohpbaa
