/- Walks: the document's disk: Used, List, Read. Walks: the document's disk: Read, Sync. Walks: the document's disk: Append. A disk and the blocks that are its own: the calls on it, and what stands. The program's disk and the document's, beside one another. -/
import Derived.Test.YtabcdodjkfknlaaGreatDoorPL18
import Derived.Test.YtabcdodjkfknlaaGreatDoorPL15
import Derived.Deep.QuietTactic
import Derived.BigQuiet
import Derived.Deep.RegionHeld3
import Derived.IntWalk
namespace Go.Proofs.YtabcdodjkfknlaaGreatDoor
open Go.RowKit Go.Maps Go.Shelf Go.Sort
attribute [local go_sem ↓] dapp_op
theorem fcells_at : ∀ (dv : List Value) (F : List File) (i : Nat) (u : Value) (x : File), dv[i]? = some u → F[i]? = some x → (fcells dv F)[i * 2]? = some u ∧ (fcells dv F)[i * 2 + 1]? = some (.int .i64 x.safe)
  | [], _, i, u, x, h, _ => by simp at h
  | _ :: _, [], i, u, x, _, h => by simp at h
  | d :: dv, f :: F, 0, u, x, h, h' => by
    obtain rfl : d = u := by simpa using h
    obtain rfl : f = x := by simpa using h'
    exact ⟨rfl, rfl⟩
  | d :: dv, f :: F, i + 1, u, x, h, h' => by
    obtain ⟨h1, h2⟩ := fcells_at dv F i u x (by simpa using h) (by simpa using h')
    have e : fcells (d :: dv) (f :: F) = d :: .int .i64 f.safe :: fcells dv F := rfl
    rw [e, show (i + 1) * 2 = i * 2 + 1 + 1 by omega]
    exact ⟨by simpa using h1, by simpa using h2⟩
section
variable {w w' : World} {B g : Nat} {vF vD vS vA : Value} {dv : List Value} {F : List File} {d s : RDir} {A : List RAct} {r : RD}
/-- one file of a disk -/
theorem RRest.file (h : RRest w B vF vD vS vA dv F d s A) {i : Nat} (hi : i < F.length) : ∃ f c x p c', vF = .slice (some ⟨f, 0, none⟩) F.length c ∧ F[i]? = some x ∧ dv[i]? = some (.slice p x.data.length c') ∧ DataAt w (.slice p x.data.length c') x.data ∧ w.cell? ⟨f, i * 2, none⟩ = some (.slice p x.data.length c') ∧ w.cell? ⟨f, i * 2 + 1, none⟩ = some (.int .i64 x.safe) ∧ (∀ j, w.frozen? ⟨f, j, none⟩ = false) ∧ f < w.heap.size := by
  have hx := List.getElem?_eq_getElem hi
  obtain ⟨u, h1, h2⟩ := h.data i _ hx
  obtain ⟨p, c', rfl⟩ := RowAt.slice h2
  obtain ⟨q, c, rfl⟩ := own_slice h.files
  have hq : ∃ f, q = some ⟨f, 0, none⟩ := by
    obtain ⟨_, ⟨e, e0⟩ | ⟨f, _, _, e, _⟩⟩ := h.files
    · omega
    · injection e with e1; exact ⟨f, e1⟩
  obtain ⟨f, rfl⟩ := hq
  obtain ⟨k1, k2⟩ := fcells_at dv F i _ _ h1 hx
  have hf := h.files
  exact ⟨f, c, F[i], p, c', rfl, hx, h1, h2, (hf.cellAt _ (by omega)).trans k1, (hf.cellAt _ (by omega)).trans k2, hf.frozenAt, (hf.lt f rfl).2⟩
end
theorem rsum_take (F : List File) {d : RDir} {k : Nat} {n : List UInt8 × Nat} (h : d[k]? = some n) : rsum F (rnums (d.take (k + 1))) = rsum F (rnums (d.take k)) + rsize F n.2 := by
  unfold rnums
  rw [List.take_add_one, h, List.map_append, rsum_append]
  show _ + rsum F [n.2] = _
  rw [rsum_cons]; rfl
theorem rsum_le {F : List File} {c : Nat} (h : ∀ x ∈ F, x.data.length ≤ c) (l : List Nat) : rsum F l ≤ l.length * c := by
  induction l with
  | nil => exact Nat.zero_le _
  | cons i l ih =>
    rw [rsum_cons, List.length_cons, Nat.add_mul, Nat.one_mul]
    have : rsize F i ≤ c := by
      unfold rsize
      rw [List.getD_eq_getElem?_getD]
      cases hx : F[i]? with
      | none => exact Nat.zero_le _
      | some x => exact h x (List.mem_of_getElem? hx)
    omega
set_option maxHeartbeats 2000000 in
set_option maxRecDepth 100000 in
theorem rused_calls (r : RD) (B g m : Nat) (vF vD vS vA : Value) (dv : List Value) (w : World) (h : RDat w B g vF vD vS vA dv r) (hk : RDok r m) (hm : m ≤ 4000) :
    Calls Tryz.prog 118 #[.pointer (some ⟨g, 0, none⟩)] w fun e w' => e = .returned (.int .i64 r.usedA) ∧ Below w.heap.size w w' := by
  have hE : r.usedA = if r.down then 0 else (r.used : Int) := rfl
  have qc := h.blk.cell
  have hgl := h.blk.lt
  cases hdn : r.down
  · rw [hdn, if_neg (by decide)] at hE
    rw [hE]
    have hd1 := h.rest.dir
    obtain ⟨pD, cD, rfl⟩ := hd1.slice
    have hdl := hk.dir
    have hnd := Lib.hid hk.nd
    have hU := Lib.hid (rsum_le (fun x hx => (hk.small x hx).2) : ∀ l : List Nat, rsum r.files l ≤ l.length * (m * 65536))
    have hsz := Lib.hid hk.small
    have hr := Lib.hid h.rest
    have hu : r.used = rsum r.files (rnums r.dir) := rfl
    rw [hu]
    rw [hdn] at qc
    have qc' := Lib.hid qc
    clear h hE hd1 hu hk
    go_enter Tryz.func118, Tryz.ntmps118
    go_wp2_with fail
    clear qc
    go_loopw [3, 5, 15] (fun sm _ i wr => ∃ k : Nat, k ≤ r.dir.length ∧ i = .int .i64 k ∧ sm = .int .i64 (rsum r.files (rnums (r.dir.take k)) : Nat) ∧ Below w.heap.size w wr) (fun _ _ i _ => r.dir.length - (intOf i).toNat)
    case atStart => exact ⟨0, Nat.zero_le _, rfl, rfl, Below.refl _ _⟩
    case round =>
      obtain ⟨k, hlen, rfl, rfl, hB⟩ := hrel
      have hz := hB.size
      have hle : rsum r.files (rnums (r.dir.take k)) ≤ 4000 * (4000 * 65536) := by
        refine Nat.le_trans (hU.out _) (Nat.mul_le_mul ?_ (Nat.mul_le_mul_right _ hm))
        unfold rnums; rw [List.length_map, List.length_take]; omega
      by_cases hlt : k < r.dir.length
      · obtain ⟨g1, c1, n, t, hv, hc, hg, hdk, ht, q0, q1⟩ := (hr.out.dir.later hB).name hlt
        obtain ⟨rfl, rfl⟩ : pD = some ⟨g1, 0, none⟩ ∧ cD = c1 := by simpa using hv
        obtain ⟨f, c, x, p, c', rfl, hx, _, _, r0, _, _, hfl⟩ := (hr.out.later hB).file (hnd.out n (List.mem_of_getElem? hdk))
        have hst := rsum_take r.files hdk
        have hrs : rsize r.files n.2 = x.data.length := by unfold rsize; rw [List.getD_eq_getElem?_getD, hx]; rfl
        rw [hrs] at hst
        have hxl : x.data.length ≤ 4000 * 65536 := Nat.le_trans ((hsz.out x (List.mem_of_getElem? hx)).2) (Nat.mul_le_mul_right _ hm)
        have hfn : n.2 < r.files.length := hnd.out n (List.mem_of_getElem? hdk)
        have hst' := Lib.hid hst
        have BA := hB.alloc hz (.cells #[.string t, .int .i64 n.2] 131)
        have bn := (Blk.new wr 131 #[.string t, .int .i64 n.2]).cell
        have qg : ∀ i, wr.cell? ⟨g, i, none⟩ = (#[.int .i64 r.cap, .bool false, .int .i64 r.left, .slice (some ⟨f, 0, none⟩) r.files.length c, .slice (some ⟨g1, 0, none⟩) r.dir.length cD, vS, vA] : Array Value)[i]? := fun i => (hB.cell (p := ⟨g, i, none⟩) hgl).trans (qc'.out i)
        have hgr : g < wr.heap.size := by omega
        clear hv hdk ht hst hrs hx
        generalize rsum r.files (rnums (r.dir.take k)) = S0 at *
        go_wp2_with fail
        go_quiet (fail)
        rename_i nq
        go_wp2_with fail
        go_roundw
        case rel => exact ⟨k + 1, by omega, by go_num, by rw [hst'.out]; go_num, bdrewN BA nq⟩
        case measure => simp [intOf]; omega
      · have he : r.dir.take k = r.dir := List.take_of_length_le (by omega)
        have he' := Lib.hid he
        clear he
        go_wp2_with fail
        go_ret
        exact ⟨by rw [he'.out]; rfl, hB⟩
  · rw [hdn, if_pos rfl] at hE
    rw [hE]
    rw [hdn] at qc
    clear h hE hk
    go_enter Tryz.func118, Tryz.ntmps118
    go_wp2_with fail
    go_ret
    exact ⟨rfl, Below.refl _ _⟩
theorem info_str1 : (Tryz.prog.info? 9).map (fun i => (i.zero, i.size, i.bytes)) = some (some (.string ⟨#[]⟩), 1, 16) := by kernel_rfl
theorem spush {w : World} {base : Nat} {v : Value} {l : List (List UInt8)} (h : w.ownsRow base 9 1 v l.length (l.map encStr)) (hl : l.length ≤ 1000000) (hb : base ≤ w.heap.size) {o : Nat} {s : ByteArray} (ho : Blk w o 9 #[.string s]) :
    ∃ p c w', (dappOp #[51, 51] 51 #[v, .slice (some ⟨o, 0, none⟩) 1 1]).run Tryz.prog w = .ok (.slice p (l.length + 1) c) w' ∧ w'.ownsRow base 9 1 (.slice p (l.length + 1) c) (l ++ [s.data.toList]).length ((l ++ [s.data.toList]).map encStr) ∧ Below base w w' := by
  obtain ⟨i0, hi, hz0, hz1, hz2⟩ := info_parts info_str1
  obtain ⟨v', w', h2, h3, h4, _, h5⟩ := run_append_own_at (P := Tryz.prog) w base 51 51 9 i0 (.string ⟨#[]⟩) 1 16 Tryz.underlying51 hi hz0 hz1 hz2 rfl (by decide) v l.length _ h ⟨o, 0, none⟩ 1 1 [.string s] rfl (by
      intro j u hj
      rw [addr_at, ho.cell j, ← hj]
      simp) (by
      intro u hu
      simp at hu
      subst hu; rfl) (by unfold maxLen; omega) (by omega) hb
  obtain ⟨p, c, rfl⟩ := own_slice h3
  refine ⟨p, c, w', h2, ?_, (Keeps.refl (fun k => v.ownBlock = some k) w |>.grown h4 (fun k e => .inl e)).below (fun k _ e => (h.lt k e).1) hb⟩
  rw [List.map_append, List.length_append]
  have e : encStr s.data.toList = .string s := by unfold encStr; simp
  rw [List.map_singleton, e]
  exact h3
set_option maxHeartbeats 2000000 in
set_option maxRecDepth 100000 in
theorem rlist_calls (r : RD) (B g m : Nat) (vF vD vS vA : Value) (dv : List Value) (w : World) (h : RDat w B g vF vD vS vA dv r) (hk : RDok r m) (hm : m ≤ 4000) :
    Calls Tryz.prog 33 #[.pointer (some ⟨g, 0, none⟩)] w (NamesPost w r.list) := by
  have hE : r.list = if r.down then [] else r.dir.map Prod.fst := rfl
  have qc := h.blk.cell
  have hgl := h.blk.lt
  cases hdn : r.down
  · rw [hdn, if_neg (by decide)] at hE
    rw [hE]
    have hd1 := h.rest.dir
    obtain ⟨pD, cD, rfl⟩ := hd1.slice
    have hdl := hk.dir
    have hr := Lib.hid hd1
    rw [hdn] at qc
    clear h hE hd1 hk
    go_enter Tryz.func33, Tryz.ntmps33
    go_wp2_with fail
    clear qc
    go_loopw [3, 5, 15] (fun v _ i wr => ∃ k : Nat, k ≤ r.dir.length ∧ i = .int .i64 k ∧ wr.ownsRow w.heap.size 9 1 v ((r.dir.take k).map Prod.fst).length (((r.dir.take k).map Prod.fst).map encStr) ∧ Below w.heap.size w wr) (fun _ _ i _ => r.dir.length - (intOf i).toNat)
    case atStart => exact ⟨0, Nat.zero_le _, rfl, World.ownsRow_nil _ _ _ _, Below.refl _ _⟩
    case round =>
      obtain ⟨k, hlen, rfl, ho, hB⟩ := hrel
      have hz := hB.size
      obtain ⟨po, co, rfl⟩ := own_slice ho
      by_cases hlt : k < r.dir.length
      · obtain ⟨g1, c1, n, t, hv, hc, hg, hdk, ht, q0, q1⟩ := (hr.out.later hB).name hlt
        obtain ⟨rfl, rfl⟩ : pD = some ⟨g1, 0, none⟩ ∧ cD = c1 := by simpa using hv
        have BA := hB.alloc hz (.cells #[.string t, .int .i64 n.2] 131)
        have bn := (Blk.new wr 131 #[.string t, .int .i64 n.2]).cell
        have hll : ((r.dir.take k).map Prod.fst).length ≤ 4000 := by rw [List.length_map, List.length_take]; omega
        have hoA := (ho.alloc (.cells #[.string t, .int .i64 n.2] 131)).alloc (.cells #[.string t] 9)
        obtain ⟨p2, c2, w2, e1, ho2, B2⟩ := spush hoA (by omega) (by simp; omega) (Blk.new (wr.alloc (.cells #[.string t, .int .i64 n.2] 131)) 9 #[.string t])
        simp only [World.size_alloc] at e1
        have hB2 := (BA.alloc (by simp; omega) (.cells #[.string t] 9)).trans B2
        have hnext : (r.dir.take k).map Prod.fst ++ [t.data.toList] = (r.dir.take (k + 1)).map Prod.fst := by rw [List.take_add_one, hdk, List.map_append, ht]; rfl
        rw [hnext] at ho2
        have ho2' := Lib.hid ho2
        clear hv hdk ht hnext ho hoA ho2 B2 BA
        generalize ((r.dir.take k).map Prod.fst).length = L0 at *
        go_wp2_with fail
        go_roundw
        case rel => exact ⟨k + 1, by omega, by go_num, ho2'.out, hB2⟩
        case measure => simp [intOf]; omega
      · have he : (r.dir.take k).map Prod.fst = r.dir.map Prod.fst := by rw [List.take_of_length_le (by omega)]
        rw [he] at ho
        have ho' := Lib.hid ho
        have hll : (r.dir.map Prod.fst).length ≤ 4000 := by rw [List.length_map]; omega
        have hll' := Lib.hid hll
        rw [he]
        clear he ho hll
        go_wp2_with fail
        go_ret
        exact ⟨_, rfl, ho'.out, Nat.le_trans hll'.out (by decide), hB⟩
  · rw [hdn, if_pos rfl] at hE
    rw [hE]
    rw [hdn] at qc
    clear h hE hk
    go_enter Tryz.func33, Tryz.ntmps33
    go_wp2_with fail
    go_ret
    exact ⟨_, rfl, World.ownsRow_nil _ _ _ _, by decide, Below.refl _ _⟩
end Go.Proofs.YtabcdodjkfknlaaGreatDoor
namespace Go.Proofs.YtabcdodjkfknlaaGreatDoor
open Go.RowKit Go.Maps Go.Shelf
theorem fcells_set0 : ∀ (dv : List Value) (F : List File) (i : Nat) (u : Value) (x : File) (l : List UInt8), dv.length = F.length → F[i]? = some x → fcells (dv.set i u) (F.set i ⟨l, x.safe⟩) = (fcells dv F).set (i * 2) u
  | _, [], i, u, x, l, _, h => by simp at h
  | [], _ :: _, i, u, x, l, h, _ => by simp at h
  | d :: dv, f :: F, 0, u, x, l, _, h' => by
    obtain rfl : f = x := by simpa using h'
    rfl
  | d :: dv, f :: F, i + 1, u, x, l, h, h' => by
    have ih := fcells_set0 dv F i u x l (by simpa using h) (by simpa using h')
    have e : fcells (d :: dv) (f :: F) = d :: .int .i64 f.safe :: fcells dv F := rfl
    have e2 : fcells ((d :: dv).set (i + 1) u) ((f :: F).set (i + 1) ⟨l, x.safe⟩) = d :: .int .i64 f.safe :: fcells (dv.set i u) (F.set i ⟨l, x.safe⟩) := rfl
    rw [e, e2, ih, show (i + 1) * 2 = i * 2 + 1 + 1 by omega, List.set_cons_succ, List.set_cons_succ]
section
variable {w w' : World} {B g : Nat} {vD vS vA : Value} {dv : List Value} {r : RD}
/-- one file's bytes are others -/
theorem RDat.fset0 {f c : Nat} (h : RDat w B g (.slice (some ⟨f, 0, none⟩) r.files.length c) vD vS vA dv r) {i : Nat} {x : File} (hx : r.files[i]? = some x) {u : Value} {l : List UInt8} (hu : DataAt w u l) (hB : ∀ j, u.ownBlock = some j → B ≤ j) :
    RDat (w.setCell ⟨f, i * 2, none⟩ u) B g (.slice (some ⟨f, 0, none⟩) r.files.length c) vD vS vA (dv.set i u) { r with files := r.files.set i ⟨l, x.safe⟩ } := by
  have hk := kset w f (i * 2) u
  obtain ⟨n1, n2, n3, n4, n5⟩ := h.farF (j := f) rfl
  have hlen := h.rest.len
  have hil := (List.getElem?_eq_some_iff.1 hx).1
  obtain ⟨cur, hcur⟩ := own_blk h.rest.files f rfl
  have hs := (h.rest.files.stored (i * 2) u).1
  refine ⟨h.blk.keeps hk (fun e => n1 e.symm), ⟨?_, by rw [List.length_set]; show _ = (r.files.set _ _).length; rw [List.length_set]; exact hlen, fun j y hy => ?_, h.rest.dir.keeps hk fun j hj e => n3 (by rw [hj, e]), h.rest.safe.keeps hk fun j hj e => n4 (by rw [hj, e]), own_keeps h.rest.acts hk fun j hj e => n2 (by rw [hj, e])⟩, fun j hj => ?_⟩
  · show World.ownsRow _ _ _ _ _ (r.files.set i ⟨l, x.safe⟩).length (fcells (dv.set i u) (r.files.set i ⟨l, x.safe⟩))
    rw [List.length_set, fcells_set0 _ _ _ _ _ _ hlen hx]; exact hs
  · have hy' : (r.files.set i ⟨l, x.safe⟩)[j]? = some y := hy
    by_cases e : j = i
    · subst e
      rw [List.getElem?_set_self hil] at hy'
      obtain rfl := Option.some.inj hy'
      refine ⟨u, List.getElem?_set_self (by omega), RowAt.keeps hu hk fun j hj e => ?_⟩
      obtain ⟨c', hb⟩ := RowAt.blk hu j hj
      exact hb.ne_ hcur (by decide) e
    · rw [List.getElem?_set_ne (Ne.symm e)] at hy'
      obtain ⟨v, h1, h2⟩ := h.rest.data j y hy'
      exact ⟨v, by rw [List.getElem?_set_ne (Ne.symm e)]; exact h1, RowAt.keeps h2 hk fun j hj e => n5 v (List.mem_of_getElem? h1) (by rw [hj, e])⟩
  · rcases hj with e | e | e | e | e | ⟨v, hv, e⟩
    · exact h.low j (.inl e)
    · exact h.low j (.inr (.inl e))
    · exact h.low j (.inr (.inr (.inl e)))
    · exact h.low j (.inr (.inr (.inr (.inl e))))
    · exact h.low j (.inr (.inr (.inr (.inr (.inl e)))))
    · rcases List.mem_or_eq_of_mem_set hv with hv | rfl
      · exact h.low j (.inr (.inr (.inr (.inr (.inr ⟨v, hv, e⟩)))))
      · exact hB j e
end
def RReadPost (w : World) (E : Int) (l : List UInt8) (e : Ending) (w' : World) : Prop := ∃ v, e = .returned (.tuple #[v, .int .i64 E]) ∧ Bytes w' v l ∧ Below w.heap.size w w'
set_option maxHeartbeats 2000000 in
set_option maxRecDepth 100000 in
theorem rread_calls (r : RD) (B g m : Nat) (O : Nat → Prop) (s : ByteArray) (w : World) (hd : RDisk w B g O r) (hk : RDok r m) (hm : m ≤ 4000) (hs : s.size ≤ maxLen) :
    Calls Tryz.prog 73 #[.pointer (some ⟨g, 0, none⟩), .string s] w (RReadPost w (r.findE s.data.toList) (r.readB s.data.toList)) := by
  have B1 := (Below.refl w.heap.size w).alloc (Nat.le_refl _) (.cells #[.string s] 9)
  obtain ⟨vF, vD, vS, vA, dv, h, rfl⟩ := hd
  have hM := rmay_one h s hs
  have hC : r.readB s.data.toList = if r.findE s.data.toList = 0 then (r.got (r.num s.data.toList)).data else [] := rfl
  have hF : r.findE s.data.toList = if r.may (dName s.data.toList) = 0 then (if (rfind r.dir s.data.toList).isSome then 0 else 4) else r.may (dName s.data.toList) := rfl
  rcases rmay_cases r (dName s.data.toList) with hm0 | hm0 | hm0
  · rw [hm0] at hM
    rw [if_pos hm0] at hF
    have h1 := h.later B1
    have hN := rfind_calls vD r.dir s _ h1.rest.dir (by have := hk.dir; omega)
    have qc := h1.blk.cell
    have hM' := Lib.hid hM
    cases hfi : rfind r.dir s.data.toList with
    | none =>
      rw [hfi] at hN hF
      rw [show (if (none : Option Nat).isSome = true then (0 : Int) else 4) = 4 from rfl] at hF
      rw [hF, if_neg (by decide)] at hC
      rw [hF, hC]
      have hN' := Lib.hid hN
      clear hC hF hM hN hfi hk h
      go_enter Tryz.func73, Tryz.ntmps73
      go_wp2_with fail
      refine hM'.out.mono ?_
      rintro e w1 ⟨rfl, rfl⟩
      go_wp2_with fail
      refine hN'.out.mono ?_
      rintro e w2 ⟨rfl, b2⟩
      unfold numI
      have B2 := B1.trans (b2.mono (by simp))
      clear b2
      go_wp2
      go_ret2
      exact ⟨_, rfl, .inl (.inl ⟨rfl, rfl⟩), B2⟩
    | some i =>
      have hfn := hk.find hfi
      have hnum : r.num s.data.toList = i := by unfold RD.num; rw [hfi]; rfl
      rw [hfi] at hN hF
      rw [show (if (some i : Option Nat).isSome = true then (0 : Int) else 4) = 0 from rfl] at hF
      obtain ⟨f, c, x, p, c', rfl, hx, _, hda, r0, _, _, hfl⟩ := h.rest.file hfn
      have hgot : r.got i = x := by unfold RD.got; rw [List.getD_eq_getElem?_getD, hx]; rfl
      rw [hF, if_pos rfl, hnum, hgot] at hC
      rw [hF, hC]
      have hN' := Lib.hid hN
      have hfl2 := hk.files
      have h' := Lib.hid h
      have hda' := Lib.hid hda
      have hi0 : (0 : Int) ≤ (i : Int) := by omega
      clear hC hF hM hN hfi hk h hnum hgot hx hda h1
      go_enter Tryz.func73, Tryz.ntmps73
      go_wp2_with fail
      refine hM'.out.mono ?_
      rintro e w1 ⟨rfl, rfl⟩
      go_wp2_with fail
      refine hN'.out.mono ?_
      rintro e w2 ⟨rfl, b2⟩
      have B2 := B1.trans (b2.mono (by simp))
      have q2 := (h'.out.later B2).blk.cell
      have r2 := (B2.cell (p := ⟨f, i * 2, none⟩) hfl).trans r0
      unfold numI
      clear hM' hN' qc b2 r0
      go_wp2
      go_ret2
      exact ⟨_, rfl, (DataAt.bytes hda'.out).later B2, B2⟩
  all_goals
    rw [hm0] at hM hF
    rw [if_neg (by decide)] at hF
    rw [hF, if_neg (by decide)] at hC
    rw [hF, hC]
    have hM' := Lib.hid hM
    clear hC hF hM hk h
    go_enter Tryz.func73, Tryz.ntmps73
    go_wp2_with fail
    refine hM'.out.mono ?_
    rintro e w1 ⟨rfl, rfl⟩
    go_wp2
    go_ret2
    exact ⟨_, rfl, .inl (.inl ⟨rfl, rfl⟩), B1⟩
end Go.Proofs.YtabcdodjkfknlaaGreatDoor
namespace Go.Proofs.YtabcdodjkfknlaaGreatDoor
open Go.RowKit Go.Maps Go.Shelf
attribute [local go_sem ↓] dapp_op
/-- bytes behind a copy of bytes -/
theorem two_appends {W : World} {u v : Value} {l b : List UInt8} (hu : Bytes W u l) (hv : Bytes W v b) (hl : l.length ≤ 1000000000) (hb : b.length ≤ 1000000) :
    ∃ v1 w1 p c w2, (dappOp #[43, 43] 43 #[.slice (some ⟨W.heap.size, 0, none⟩) 0 0, u]).run Tryz.prog (W.alloc (.cells #[] 5)).drew = .ok v1 w1 ∧ (dappOp #[43, 43] 43 #[v1, v]).run Tryz.prog w1 = .ok (.slice p (l ++ b).length c) w2 ∧
      w2.ownsRow W.heap.size 5 1 (.slice p (l ++ b).length c) (l ++ b).length (bcells (l ++ b)) ∧ Below W.heap.size W w1 ∧ Below W.heap.size W w2 := by
  have B0 : Below W.heap.size W (W.alloc (.cells #[] 5)).drew := ((Below.refl _ _).alloc (Nat.le_refl _) _).drew
  have ho : (W.alloc (.cells #[] 5)).ownsRow W.heap.size 5 1 (.slice (some ⟨W.heap.size, 0, none⟩) 0 0) 0 [] := World.ownsRow_made W #[] 0 (Nat.le_refl _) (by decide) rfl
  have ho0 : (W.alloc (.cells #[] 5)).drew.ownsRow W.heap.size 5 1 (.slice (some ⟨W.heap.size, 0, none⟩) 0 0) ([] : List UInt8).length (bcells []) := own_keeps (S := fun _ => False) ho ((Keeps.refl _ _).drew) (fun _ _ => id)
  obtain ⟨v1, w1, e1, o1, g1, _⟩ := bytes_append ho0 (hu.later B0) (by simp; omega) (by simp)
  have k1 : Keeps (fun j => j = W.heap.size) (W.alloc (.cells #[] 5)).drew w1 := (Keeps.refl _ _).grown g1 (fun k e => .inl (by cases e; rfl))
  have B1 : Below W.heap.size W w1 := B0.trans (k1.below (fun k _ e => Nat.le_of_eq e.symm) (by simp))
  rw [List.nil_append] at o1
  obtain ⟨v2, w2, e2, o2, g2, _⟩ := bytes_append o1 (hv.later B1) (by omega) B1.size
  obtain ⟨p, c, rfl⟩ := own_slice o2
  have k2 : Keeps (fun j => v1.ownBlock = some j) w1 w2 := (Keeps.refl _ _).grown g2 (fun k e => .inl e)
  exact ⟨v1, w1, p, c, w2, e1, e2, o2, B1, B1.trans (k2.below (fun k _ e => (o1.lt k e).1) B1.size)⟩
set_option maxHeartbeats 4000000 in
set_option maxRecDepth 100000 in
theorem rappend_calls (r : RD) (B g m : Nat) (O : Nat → Prop) (s : ByteArray) (v : Value) (b : List UInt8) (w : World) (hd : RDisk w B g O r) (hk : RDok r m) (hm : m ≤ 4000) (hs : s.size ≤ maxLen) (hv : Bytes w v b) (hvO : ∀ j, v.ownBlock = some j → b ≠ [] → ¬ O j) (hb : b.length ≤ 65536) :
    Calls Tryz.prog 72 #[.pointer (some ⟨g, 0, none⟩), .string s, v] w fun e w' => e = .returned (.int .i64 (r.appE s.data.toList b.length)) ∧ RGoes w B g O (r.append s.data.toList b) w' := by
  have B1 := (Below.refl w.heap.size w).alloc (Nat.le_refl _) (.cells #[.string s] 9)
  have hS := RGoes.same (hd.later B1) (.of_below B1)
  obtain ⟨vF, vD, vS, vA, dv, h, rfl⟩ := hd
  have hM := rmay_one h s hs
  have hE : r.appE s.data.toList b.length = if r.findE s.data.toList = 0 then (if r.cap < r.used + b.length then 5 else errDown r.burns) else r.findE s.data.toList := rfl
  have hC : r.append s.data.toList b = if r.findE s.data.toList = 0 then (if r.cap < r.used + b.length then r else if r.burns then { r.burn with files := r.files.set (r.num s.data.toList) ⟨(r.got (r.num s.data.toList)).data ++ b, (r.got (r.num s.data.toList)).safe⟩ } else r.burn) else r := rfl
  have hF : r.findE s.data.toList = if r.may (dName s.data.toList) = 0 then (if (rfind r.dir s.data.toList).isSome then 0 else 4) else r.may (dName s.data.toList) := rfl
  have hS' := Lib.hid hS
  obtain ⟨pv, cv, rfl⟩ := hv.slice
  clear hS
  rcases rmay_cases r (dName s.data.toList) with hm0 | hm0 | hm0
  · have hdn : r.down = false := by
      unfold RD.may at hm0
      revert hm0
      cases r.down <;> simp
    rw [hm0] at hM
    rw [if_pos hm0] at hF
    have h1 := h.later B1
    have hN := rfind_calls vD r.dir s _ h1.rest.dir (by have := hk.dir; omega)
    have qc := h1.blk.cell
    have hM' := Lib.hid hM
    cases hfi : rfind r.dir s.data.toList with
    | none =>
      rw [hfi] at hN hF
      rw [show (if (none : Option Nat).isSome = true then (0 : Int) else 4) = 4 from rfl] at hF
      rw [hF, if_neg (by decide)] at hE hC
      rw [hE, hC]
      have hN' := Lib.hid hN
      clear hE hC hF hM hN hfi hk h hdn
      go_enter Tryz.func72, Tryz.ntmps72
      go_wp2_with fail
      refine hM'.out.mono ?_
      rintro e w1 ⟨rfl, rfl⟩
      go_wp2_with fail
      refine hN'.out.mono ?_
      rintro e w2 ⟨rfl, b2⟩
      unfold numI
      go_wp2
      go_ret
      exact ⟨rfl, hS'.out.later b2⟩
    | some i =>
      have hfn := hk.find hfi
      have hnum : r.num s.data.toList = i := by unfold RD.num; rw [hfi]; rfl
      rw [hfi] at hN hF
      rw [show (if (some i : Option Nat).isSome = true then (0 : Int) else 4) = 0 from rfl] at hF
      rw [hF, if_pos rfl] at hE hC
      rw [hnum] at hC
      rw [hE, hC]
      have hN' := Lib.hid hN
      have hi0 : (0 : Int) ≤ (i : Int) := by omega
      have hU := fun w2 (h2 : RDat w2 B g vF vD vS vA dv r) => rused_calls r B g m vF vD vS vA dv w2 h2 hk hm
      have hua : r.usedA = (r.used : Int) := by unfold RD.usedA; rw [hdn]; rfl
      rw [hua] at hU
      have hub : r.used ≤ 4000 * (4000 * 65536) := by
        refine Nat.le_trans (rsum_le (fun x hx => (hk.small x hx).2) _) (Nat.mul_le_mul ?_ (Nat.mul_le_mul_right _ hm))
        unfold rnums; rw [List.length_map]; exact Nat.le_trans hk.dir hm
      have hcb := hk.cap
      have hU' := Lib.hid hU
      have h' := Lib.hid h
      have hk' := Lib.hid hk
      clear hE hC hF hM hN hfi hk h hnum h1 hU hua hdn
      by_cases hcap : r.cap < r.used + b.length
      · rw [if_pos hcap, if_pos hcap]
        generalize hus : r.used = us at *
        have hus' := Lib.hid hus
        clear hus
        go_enter Tryz.func72, Tryz.ntmps72
        go_wp2_with fail
        refine hM'.out.mono ?_
        rintro e w1 ⟨rfl, rfl⟩
        go_wp2_with fail
        refine hN'.out.mono ?_
        rintro e w2 ⟨rfl, b2⟩
        have B2 := B1.trans (b2.mono (by simp))
        have h2 := h'.out.later B2
        have hU2 := hU'.out w2.drew (h2.later (Below.refl _ _).drew)
        have hU2' := Lib.hid hU2
        have q2 := h2.blk.cell
        have l2 := h2.blk.lt
        have h2' := Lib.hid h2
        unfold numI
        clear hM' hN' qc b2 hU2 h2
        have hsum : IntKind.i64.wrap ((us : Int) + (b.length : Int)) = (us : Int) + (b.length : Int) := IntWalk.i64_in _ (by omega)
        go_wp2_with fail
        go_region_held3 (fun w' => w'.cell? ⟨g, 0, none⟩ = some (.int .i64 r.cap)) (first | exact h2'.out.blk.drew.cell 0 | exact (h2'.out.blk.drew.below b3 l2).cell 0) ((go_at_call 118; with_reducible refine hU2'.out.mono ?_; rintro e w3 ⟨rfl, b3⟩))
        clear hsum
        go_wp2
        go_ret
        exact ⟨rfl, RGoes.at B2 (RGoes.same ⟨_, _, _, _, _, (h2'.out.later (Below.refl _ _).drew).later b3, rfl⟩ ((Keeps.refl _ _).drew.trans (.of_below b3)))⟩
      · rw [if_neg hcap, if_neg hcap]
        generalize hus : r.used = us at *
        have hus' := Lib.hid hus
        have hfe := burn_facts r
        have hfe' := Lib.hid hfe
        have hB := fun w2 (h2 : RDat w2 B g vF vD vS vA dv r) => rburn_calls r B g vF vD vS vA dv w2 h2 hk'.out.left
        have hB' := Lib.hid hB
        clear hus hfe hB
        cases hbn : r.burns
        · rw [if_neg (by decide)]
          go_enter Tryz.func72, Tryz.ntmps72
          go_wp2_with fail
          refine hM'.out.mono ?_
          rintro e w1 ⟨rfl, rfl⟩
          go_wp2_with fail
          refine hN'.out.mono ?_
          rintro e w2 ⟨rfl, b2⟩
          have B2 := B1.trans (b2.mono (by simp))
          have h2 := h'.out.later B2
          have hU2 := hU'.out w2.drew (h2.later (Below.refl _ _).drew)
          have hU2' := Lib.hid hU2
          have q2 := h2.blk.cell
          have l2 := h2.blk.lt
          have h2' := Lib.hid h2
          unfold numI
          clear hM' hN' qc b2 hU2 h2
          have hsum : IntKind.i64.wrap ((us : Int) + (b.length : Int)) = (us : Int) + (b.length : Int) := IntWalk.i64_in _ (by omega)
          go_wp2_with fail
          go_region_held3 (fun w' => w'.cell? ⟨g, 0, none⟩ = some (.int .i64 r.cap)) (first | exact h2'.out.blk.drew.cell 0 | exact (h2'.out.blk.drew.below b3 l2).cell 0) ((go_at_call 118; with_reducible refine hU2'.out.mono ?_; rintro e w3 ⟨rfl, b3⟩))
          clear hsum
          have B3 := B2.trans (((Below.refl w2.heap.size w2).drew.trans b3).mono B2.size)
          have hB3 := hB'.out w3 (h'.out.later B3)
          rw [hbn] at hB3
          have hB3' := Lib.hid hB3
          clear hB3 b3
          go_wp2_with fail
          refine hB3'.out.mono ?_
          rintro e w4 ⟨rfl, b4, k4⟩
          go_wp2
          go_ret
          exact ⟨rfl, RGoes.at B3 (b4.goes k4)⟩
        · rw [if_pos rfl]
          go_enter Tryz.func72, Tryz.ntmps72
          go_wp2_with fail
          refine hM'.out.mono ?_
          rintro e w1 ⟨rfl, rfl⟩
          go_wp2_with fail
          refine hN'.out.mono ?_
          rintro e w2 ⟨rfl, b2⟩
          have B2 := B1.trans (b2.mono (by simp))
          have h2 := h'.out.later B2
          have hU2 := hU'.out w2.drew (h2.later (Below.refl _ _).drew)
          have hU2' := Lib.hid hU2
          have q2 := h2.blk.cell
          have l2 := h2.blk.lt
          have h2' := Lib.hid h2
          unfold numI
          clear hM' hN' qc b2 hU2 h2
          have hsum : IntKind.i64.wrap ((us : Int) + (b.length : Int)) = (us : Int) + (b.length : Int) := IntWalk.i64_in _ (by omega)
          go_wp2_with fail
          go_region_held3 (fun w' => w'.cell? ⟨g, 0, none⟩ = some (.int .i64 r.cap)) (first | exact h2'.out.blk.drew.cell 0 | exact (h2'.out.blk.drew.below b3 l2).cell 0) ((go_at_call 118; with_reducible refine hU2'.out.mono ?_; rintro e w3 ⟨rfl, b3⟩))
          clear hsum
          have B3 := B2.trans (((Below.refl w2.heap.size w2).drew.trans b3).mono B2.size)
          have hB3 := hB'.out w3 (h'.out.later B3)
          rw [hbn] at hB3
          have hB3' := Lib.hid hB3
          clear hB3 b3 q2
          go_wp2_with fail
          refine hB3'.out.mono ?_
          rintro e w4 ⟨rfl, b4, k4⟩
          obtain ⟨f1, f2, f3, f4, f5⟩ := hfe'.out
          have hfn3 : i < r.burn.files.length := by rw [f2]; exact hfn
          obtain ⟨f, c, x, p, c', rfl, hx, hdvx, hda, r0, r1, rf, hfl⟩ := b4.rest.file hfn3
          have q4 := b4.blk.cell
          have hgl := b4.blk.lt
          have hxl : x.data.length ≤ 4000 * 65536 := Nat.le_trans ((hk'.out.small x (by rw [← f2]; exact List.mem_of_getElem? hx)).2) (Nat.mul_le_mul_right _ hm)
          have hgot : r.got i = x := by unfold RD.got; rw [← f2, List.getD_eq_getElem?_getD, hx]; rfl
          have hfl3 : r.burn.files.length ≤ m := by rw [f2]; exact hk'.out.files
          have hv4 : Bytes w4 (.slice pv b.length cv) b := (hv.later B3).keepsP k4 (fun j hj hn e => by obtain rfl := e; exact hvO _ hj hn (.inl rfl))
          have z3 := B3.size
          have z4 := k4.size
          obtain ⟨v1, wa, p2, c2, wb, e1, e2, ho, Ba, Bb⟩ := two_appends (DataAt.bytes hda) hv4 (by omega) (by omega)
          have qa : ∀ i, wa.cell? ⟨g, i, none⟩ = _ := fun i => (Ba.cell (p := ⟨g, i, none⟩) hgl).trans (q4 i)
          have qb : ∀ i, wb.cell? ⟨g, i, none⟩ = _ := fun i => (Bb.cell (p := ⟨g, i, none⟩) hgl).trans (q4 i)
          have ra : wa.cell? ⟨f, i * 2, none⟩ = _ := (Ba.cell (p := ⟨f, i * 2, none⟩) hfl).trans r0
          have rb : wb.cell? ⟨f, i * 2, none⟩ = _ := (Bb.cell (p := ⟨f, i * 2, none⟩) hfl).trans r0
          have rbf : wb.frozen? ⟨f, i * 2, none⟩ = false := (Bb.frozen (p := ⟨f, i * 2, none⟩) hfl).trans (rf _)
          have hdb := b4.later Bb
          have hfin := hdb.fset0 hx (RowAt.of_own ho : DataAt wb _ _) (fun j hj => by have := (ho.lt j hj).1; have := (b4.lt g (.inl rfl)).1; omega)
          have hG : RGoes w B g (rdset g (.slice (some ⟨f, 0, none⟩) r.burn.files.length c) vD vS vA dv) { r.burn with files := r.files.set i ⟨(r.got i).data ++ b, (r.got i).safe⟩ } (wb.setCell ⟨f, i * 2, none⟩ (.slice p2 (x.data ++ b).length c2)) := by
            rw [hgot, ← f2]
            refine RGoes.at B3 ⟨⟨_, ⟨_, _, _, _, _, hfin, rfl⟩, fun j hj => ?_⟩, ((k4.mono fun j _ e => .inl e).trans ((Keeps.of_below Bb).trans ((kset _ f (i * 2) _).mono fun j _ e => ?_)))⟩
            · rcases hj with e | e | e | e | e | ⟨u, hu, e⟩
              · exact .inl (.inl e)
              · exact .inl (.inr (.inl e))
              · exact .inl (.inr (.inr (.inl e)))
              · exact .inl (.inr (.inr (.inr (.inl e))))
              · exact .inl (.inr (.inr (.inr (.inr (.inl e)))))
              · rcases List.mem_or_eq_of_mem_set hu with hu | rfl
                · exact .inl (.inr (.inr (.inr (.inr (.inr ⟨u, hu, e⟩)))))
                · exact .inr (by have := (ho.lt j e).1; omega)
            · exact .inr (.inl (by rw [e]; rfl))
          have hG' := Lib.hid hG
          clear hG hfin hdb hgot hx hdvx hda b4 k4 hB3' f1 f2 f3 f4 f5 hS' h' hB' hfe' hv hv4 hvO ho Ba Bb hU2' h2' hU' B2 B3 B1
          go_wp2_with fail
          go_region
          go_wp2
          go_ret
          exact ⟨rfl, by have := hG'.out; rw [List.length_append] at this; exact this⟩
  all_goals
    rw [hm0] at hM hF
    rw [if_neg (by decide)] at hF
    rw [hF, if_neg (by decide)] at hE hC
    rw [hE, hC]
    have hM' := Lib.hid hM
    clear hE hC hF hM hk h
    go_enter Tryz.func72, Tryz.ntmps72
    go_wp2_with fail
    refine hM'.out.mono ?_
    rintro e w1 ⟨rfl, rfl⟩
    go_wp2
    go_ret
    exact ⟨rfl, hS'.out⟩
end Go.Proofs.YtabcdodjkfknlaaGreatDoor
namespace Go.Proofs.YtabcdodjkfknlaaGreatDoor
open Go.RowKit Go.Maps Go.Shelf
/-- the disk at block D is the document's r; O are its blocks -/
structure DAt (w : World) (B D : Nat) (O : Nat → Prop) (r : RD) (m : Nat) : Prop where
  is : ∃ k bl, k.ok ∧ Disk w B D O k ∧ Sim k r bl ∧ k.room ≤ m
  le : B ≤ w.heap.size
def DGo (w : World) (B D : Nat) (O : Nat → Prop) (r' : RD) (m' : Nat) (w' : World) : Prop := ∃ O', DAt w' B D O' r' m' ∧ (∀ j, O' j → O j ∨ w.heap.size ≤ j) ∧ Keeps O w w'
section
variable {w w1 w' : World} {B D m : Nat} {O : Nat → Prop} {r : RD}
theorem DAt.lt (h : DAt w B D O r m) : ∀ j, O j → B ≤ j ∧ j < w.heap.size := by obtain ⟨⟨k, bl, _, h1, _⟩, _⟩ := h; exact h1.lt
theorem DAt.keeps {S : Nat → Prop} (h : DAt w B D O r m) (hk : Keeps S w w') (hs : ∀ j, O j → ¬ S j) : DAt w' B D O r m := by
  obtain ⟨⟨k, bl, h0, h1, h2, h3⟩, h4⟩ := h
  exact ⟨⟨k, bl, h0, h1.keeps hk hs, h2, h3⟩, Nat.le_trans h4 hk.size⟩
theorem DAt.later (h : DAt w B D O r m) (hb : Below w.heap.size w w') : DAt w' B D O r m := h.keeps (S := fun _ => False) (.of_below hb) fun _ _ => id
theorem DAt.of_at {w0 : World} (h : At w0 w D r m) : ∃ O, DAt w w0.heap.size D O r m := by
  obtain ⟨k, bl, ⟨h1, h2, O, h3⟩, h4, h5⟩ := h
  exact ⟨O, ⟨k, bl, h1, h3, h4, h5⟩, h2.size⟩
theorem DAt.at_ {w0 : World} (h : DAt w w0.heap.size D O r m) (hb : Below w0.heap.size w0 w) : At w0 w D r m := by
  obtain ⟨⟨k, bl, h0, h1, h2, h3⟩, h4⟩ := h
  exact ⟨k, bl, ⟨h0, hb, O, h1⟩, h2, h3⟩
theorem DGo.of {k' : Dk} {r' : RD} {m' : Nat} (hg : Goes w B D O k' w') (hw : B ≤ w.heap.size) (hk : k'.ok) (hm : k'.room ≤ m') (hs : ∃ bl, Sim k' r' bl) : DGo w B D O r' m' w' := by
  obtain ⟨⟨O', g1, g2⟩, g3⟩ := hg
  obtain ⟨bl, hs⟩ := hs
  exact ⟨O', ⟨⟨k', bl, hk, g1, hs, hm⟩, Nat.le_trans hw g3.size⟩, g2, g3⟩
theorem create_do (h : DAt w B D O r m) (s : ByteArray) (hs : s.size ≤ maxLen) (hm : m < 4000) : Calls Tryz.prog 70 #[.pointer (some ⟨D, 0, none⟩), .string s] w fun e w' => e = .returned (.int .i64 (r.createE s.data.toList)) ∧ DGo w B D O (r.create s.data.toList) (m + 1) w' := by
  obtain ⟨⟨k, bl, h0, h1, h2, h3⟩, h4⟩ := h
  refine (create_calls k _ D O s w h1 h0 hs (by omega) h4).mono fun e w' ⟨he, f, hf, hg⟩ => ?_
  have hfn : k.file f = none := h1.sound.2 f hf
  obtain ⟨bl', hs'⟩ := h2.create hfn s
  exact ⟨by rw [he, h2.createE], .of hg h4 (Dk.created_ok h0 (by omega) hs) (Nat.le_trans (created_room k f s) (by omega)) ⟨bl', hs'⟩⟩
theorem append_do (h : DAt w B D O r m) (s : ByteArray) {v : Value} {b : List UInt8} (hv : Bytes w v b) (hn : ∀ g, v.ownBlock = some g → b ≠ [] → ¬ O g) (hs : s.size ≤ maxLen) (hm : m < 4000) (hl : b.length ≤ 65536) :
    Calls Tryz.prog 21 #[.pointer (some ⟨D, 0, none⟩), .string s, v] w fun e w' => e = .returned (.int .i64 (r.appE s.data.toList b.length)) ∧ DGo w B D O (r.append s.data.toList b) (m + 1) w' := by
  obtain ⟨⟨k, bl, h0, h1, h2, h3⟩, h4⟩ := h
  exact (append_calls k _ D O s v b w h1 h0 (by omega) hs h4 hv hn hl).mono fun _ _ ⟨e, hg⟩ => ⟨by rw [e, h2.appE], .of hg h4 (Dk.apped_ok h0 hl) (Nat.le_trans (apped_room k _ _) (by omega)) ⟨_, h2.append _ _⟩⟩
theorem sync_do (h : DAt w B D O r m) (s : ByteArray) (hs : s.size ≤ maxLen) : Calls Tryz.prog 97 #[.pointer (some ⟨D, 0, none⟩), .string s] w fun e w' => e = .returned (.int .i64 (r.syncE s.data.toList)) ∧ DGo w B D O (r.sync s.data.toList) m w' := by
  obtain ⟨⟨k, bl, h0, h1, h2, h3⟩, h4⟩ := h
  exact (sync_calls k _ D O s w h1 h0 hs).mono fun _ _ ⟨e, hg⟩ => ⟨by rw [e, h2.syncE], .of hg h4 (Dk.synced_ok h0) (Nat.le_trans (synced_room k _) h3) ⟨_, h2.sync _⟩⟩
theorem syncDir_do (h : DAt w B D O r m) : Calls Tryz.prog 52 #[.pointer (some ⟨D, 0, none⟩)] w fun e w' => e = .returned (.int .i64 r.syncDirE) ∧ DGo w B D O r.syncDir m w' := by
  obtain ⟨⟨k, bl, h0, h1, h2, h3⟩, h4⟩ := h
  exact (syncDir_calls k _ D O w h1 h0 h4).mono fun _ _ ⟨e, hg⟩ => ⟨by rw [e, h2.syncDirE], .of hg h4 (Dk.syncedDir_ok h0) (Nat.le_trans (syncedDir_room k) h3) ⟨_, h2.syncDir⟩⟩
theorem rename_do (h : DAt w B D O r m) (s t : ByteArray) (hs : s.size ≤ maxLen) (ht : t.size ≤ maxLen) (hm : m < 4000) : Calls Tryz.prog 51 #[.pointer (some ⟨D, 0, none⟩), .string s, .string t] w fun e w' => e = .returned (.int .i64 (r.renameE s.data.toList t.data.toList)) ∧ DGo w B D O (r.rename s.data.toList t.data.toList) (m + 1) w' := by
  obtain ⟨⟨k, bl, h0, h1, h2, h3⟩, h4⟩ := h
  exact (rename_calls k _ D O s t w h1 h0 (by omega) hs ht h4).mono fun _ _ ⟨e, hg⟩ => ⟨by rw [e, h2.renameE], .of hg h4 (Dk.renamed_ok h0 (by omega) hs ht) (Nat.le_trans (renamed_room k s t) (by omega)) ⟨_, h2.rename s t⟩⟩
theorem remove_do (h : DAt w B D O r m) (s : ByteArray) (hs : s.size ≤ maxLen) (hm : m < 4000) : Calls Tryz.prog 46 #[.pointer (some ⟨D, 0, none⟩), .string s] w fun e w' => e = .returned (.int .i64 (r.removeE s.data.toList)) ∧ DGo w B D O (r.remove s.data.toList) (m + 1) w' := by
  obtain ⟨⟨k, bl, h0, h1, h2, h3⟩, h4⟩ := h
  exact (remove_calls k _ D O s w h1 h0 (by omega) hs h4).mono fun _ _ ⟨e, hg⟩ => ⟨by rw [e, h2.removeE], .of hg h4 (Dk.removed_ok h0 (by omega) hs) (Nat.le_trans (removed_room k s) (by omega)) ⟨_, h2.remove s⟩⟩
end
end Go.Proofs.YtabcdodjkfknlaaGreatDoor
namespace Go.Proofs.YtabcdodjkfknlaaGreatDoor
open Go.RowKit Go.Maps Go.Shelf
structure TwoS (w0 w : World) (L : Nat → Prop) (D g : Nat) (rp rr : RD) (m : Nat) (k : Dk) (bl : List Nat) (O O2 : Nat → Prop) : Prop where
  ok : k.ok
  disk : Disk w w0.heap.size D O k
  sim : Sim k rp bl
  room : k.room ≤ m
  ref : RDisk w w0.heap.size g O2 rr
  rok : RDok rr m
  apart : ∀ j, O j → ¬ O2 j
  held : ∀ j, L j → ¬ O j ∧ ¬ O2 j ∧ j < w.heap.size
  below : Below w0.heap.size w0 w
def Two (w0 w : World) (L : Nat → Prop) (D g : Nat) (rp rr : RD) (m : Nat) : Prop := ∃ k bl O O2, TwoS w0 w L D g rp rr m k bl O O2
/-- what is left: the blocks of L stand -/
def TwoPost (w0 w : World) (L : Nat → Prop) (D g : Nat) (rp rr : RD) (m : Nat) (w' : World) : Prop := Two w0 w' L D g rp rr m ∧ Keeps (fun j => ¬ L j) w w'
section
variable {w0 w w1 w' : World} {L L' : Nat → Prop} {D g m m' : Nat} {rp rr rp' rr' : RD} {k k' : Dk} {bl bl' : List Nat} {O O2 : Nat → Prop}
theorem TwoS.prog (h : TwoS w0 w L D g rp rr m k bl O O2) (hg : Goes w w0.heap.size D O k' w') (hk : k'.ok) (hs : Sim k' rp' bl') (hr : k'.room ≤ m') (hm : m ≤ m') : TwoPost w0 w L D g rp' rr m' w' := by
  obtain ⟨⟨O', h1, h2⟩, h3⟩ := hg
  have hz := h3.size
  have hl := h.ref.lt
  have hd := h.disk.lt
  refine ⟨⟨k', bl', O', O2, hk, h1, hs, hr, h.ref.keeps h3 (fun j hj e => h.apart j e hj), h.rok.more hm, fun j hj e => ?_, fun j hj => ?_, h.below.trans (h3.below (fun j _ hj => (hd j hj).1) h.below.size)⟩, h3.mono fun j _ e hL => (h.held j hL).1 e⟩
  · rcases h2 j hj with h' | h'
    · exact h.apart j h' e
    · have := (hl j e).2; omega
  · obtain ⟨a1, a2, a3⟩ := h.held j hj
    refine ⟨fun e => ?_, a2, by omega⟩
    rcases h2 j e with h' | h'
    · exact a1 h'
    · omega
theorem TwoS.refd (h : TwoS w0 w L D g rp rr m k bl O O2) (hg : RGoes w w0.heap.size g O2 rr' w') (hk : RDok rr' m') (hm : m ≤ m') : TwoPost w0 w L D g rp rr' m' w' := by
  obtain ⟨⟨O', h1, h2⟩, h3⟩ := hg
  have hz := h3.size
  have hl := h.ref.lt
  have hd := h.disk.lt
  refine ⟨⟨k, bl, O, O', h.ok, h.disk.keeps h3 (fun j hj e => h.apart j hj e), h.sim, Nat.le_trans h.room hm, h1, hk, fun j hj e => ?_, fun j hj => ?_, h.below.trans (h3.below (fun j _ hj => (hl j hj).1) h.below.size)⟩, h3.mono fun j _ e hL => (h.held j hL).2.1 e⟩
  · rcases h2 j e with h' | h'
    · exact h.apart j hj h'
    · have := (hd j hj).2; omega
  · obtain ⟨a1, a2, a3⟩ := h.held j hj
    refine ⟨a1, fun e => ?_, by omega⟩
    rcases h2 j e with h' | h'
    · exact a2 h'
    · omega
theorem Two.later (h : Two w0 w L D g rp rr m) (hb : Below w.heap.size w w') : Two w0 w' L D g rp rr m := by
  obtain ⟨k, bl, O, O2, h⟩ := h
  have hz := hb.size
  exact ⟨k, bl, O, O2, h.ok, h.disk.later hb, h.sim, h.room, h.ref.later hb, h.rok, h.apart, fun j hj => ⟨(h.held j hj).1, (h.held j hj).2.1, by have := (h.held j hj).2.2; omega⟩, h.below.trans (hb.mono h.below.size)⟩
theorem Two.more (h : Two w0 w L D g rp rr m) (hm : m ≤ m') : Two w0 w L D g rp rr m' := by
  obtain ⟨k, bl, O, O2, h⟩ := h
  exact ⟨k, bl, O, O2, h.ok, h.disk, h.sim, Nat.le_trans h.room hm, h.ref, h.rok.more hm, h.apart, h.held, h.below⟩
theorem Two.less (h : Two w0 w L D g rp rr m) (hL : ∀ j, L' j → L j) : Two w0 w L' D g rp rr m := by
  obtain ⟨k, bl, O, O2, h⟩ := h
  exact ⟨k, bl, O, O2, h.ok, h.disk, h.sim, h.room, h.ref, h.rok, h.apart, fun j hj => h.held j (hL j hj), h.below⟩
/-- a block made since, or one that lay before all, is held, too -/
theorem Two.hold (h : Two w0 w L D g rp rr m) (hb : Below w.heap.size w w') (hL : ∀ j, L' j → L j ∨ (w.heap.size ≤ j ∧ j < w'.heap.size) ∨ j < w0.heap.size) : Two w0 w' L' D g rp rr m := by
  obtain ⟨k, bl, O, O2, h1⟩ := h
  have hz := hb.size
  have hz0 := h1.below.size
  have hl := h1.ref.lt
  have hd := h1.disk.lt
  refine ⟨k, bl, O, O2, h1.ok, h1.disk.later hb, h1.sim, h1.room, h1.ref.later hb, h1.rok, h1.apart, fun j hj => ?_, h1.below.trans (hb.mono hz0)⟩
  rcases hL j hj with h' | h' | h'
  · exact ⟨(h1.held j h').1, (h1.held j h').2.1, by have := (h1.held j h').2.2; omega⟩
  · exact ⟨fun e => by have := hd j e; omega, fun e => by have := hl j e; omega, h'.2⟩
  · exact ⟨fun e => by have := hd j e; omega, fun e => by have := hl j e; omega, by omega⟩
theorem Two.below (h : Two w0 w L D g rp rr m) : Below w0.heap.size w0 w := by obtain ⟨k, bl, O, O2, h⟩ := h; exact h.below
end
section
variable {w0 w : World} {L : Nat → Prop} {D g m : Nat} {rp rr : RD}
theorem Two.at_ (h : Two w0 w L D g rp rr m) : At w0 w D rp m := by
  obtain ⟨k, bl, O, O2, t⟩ := h
  exact ⟨k, bl, ⟨t.ok, t.below, O, t.disk⟩, t.sim, t.room⟩
theorem p_create (h : Two w0 w L D g rp rr m) (hm : m < 4000) (s : ByteArray) (hs : s.size ≤ maxLen) : Calls Tryz.prog 70 #[.pointer (some ⟨D, 0, none⟩), .string s] w fun e w' => e = .returned (.int .i64 (rp.createE s.data.toList)) ∧ TwoPost w0 w L D g (rp.create s.data.toList) rr (m + 1) w' := by
  obtain ⟨k, bl, O, O2, t⟩ := h
  have hr := t.room
  refine (create_calls k _ D O s w t.disk t.ok hs (by omega) t.below.size).mono ?_
  rintro e w' ⟨he, f, hf, hg⟩
  have hn : k.file f = none := t.disk.sound.2 f hf
  obtain ⟨bl', hs'⟩ := t.sim.create hn s
  exact ⟨by rw [he, t.sim.createE], t.prog hg (Dk.created_ok t.ok (by omega) hs) hs' (Nat.le_trans (created_room k f s) (by omega)) (Nat.le_succ m)⟩
theorem r_create (h : Two w0 w L D g rp rr m) (hm : m < 4000) (s : ByteArray) (hs : s.size ≤ maxLen) : Calls Tryz.prog 71 #[.pointer (some ⟨g, 0, none⟩), .string s] w fun e w' => e = .returned (.int .i64 (rr.createE s.data.toList)) ∧ TwoPost w0 w L D g rp (rr.create s.data.toList) (m + 1) w' := by
  obtain ⟨k, bl, O, O2, t⟩ := h
  exact (rcreate_calls rr _ g m O2 s w t.ref t.rok (by omega) hs).mono fun e w' ⟨he, hg⟩ => ⟨he, t.refd hg (t.rok.create _) (Nat.le_succ m)⟩
theorem p_append (h : Two w0 w L D g rp rr m) (hm : m < 4000) (s : ByteArray) (hs : s.size ≤ maxLen) {v : Value} {b : List UInt8} (hv : Bytes w v b) (hL : ∀ j, v.ownBlock = some j → b ≠ [] → L j) (hb : b.length ≤ 65536) : Calls Tryz.prog 21 #[.pointer (some ⟨D, 0, none⟩), .string s, v] w fun e w' => e = .returned (.int .i64 (rp.appE s.data.toList b.length)) ∧ TwoPost w0 w L D g (rp.append s.data.toList b) rr (m + 1) w' := by
  obtain ⟨k, bl, O, O2, t⟩ := h
  have hr := t.room
  exact (append_calls k _ D O s v b w t.disk t.ok (by omega) hs t.below.size hv (fun j hj hn => (t.held j (hL j hj hn)).1) hb).mono fun e w' ⟨he, hg⟩ => ⟨by rw [he, t.sim.appE], t.prog hg (Dk.apped_ok t.ok hb) (t.sim.append _ _) (Nat.le_trans (apped_room k _ _) (by omega)) (Nat.le_succ m)⟩
theorem r_append (h : Two w0 w L D g rp rr m) (hm : m < 4000) (s : ByteArray) (hs : s.size ≤ maxLen) {v : Value} {b : List UInt8} (hv : Bytes w v b) (hL : ∀ j, v.ownBlock = some j → b ≠ [] → L j) (hb : b.length ≤ 65536) : Calls Tryz.prog 72 #[.pointer (some ⟨g, 0, none⟩), .string s, v] w fun e w' => e = .returned (.int .i64 (rr.appE s.data.toList b.length)) ∧ TwoPost w0 w L D g rp (rr.append s.data.toList b) (m + 1) w' := by
  obtain ⟨k, bl, O, O2, t⟩ := h
  exact (rappend_calls rr _ g m O2 s v b w t.ref t.rok (by omega) hs hv (fun j hj hn => (t.held j (hL j hj hn)).2.1) hb).mono fun e w' ⟨he, hg⟩ => ⟨he, t.refd hg (t.rok.append _ hb) (Nat.le_succ m)⟩
theorem p_syncDir (h : Two w0 w L D g rp rr m) : Calls Tryz.prog 52 #[.pointer (some ⟨D, 0, none⟩)] w fun e w' => e = .returned (.int .i64 rp.syncDirE) ∧ TwoPost w0 w L D g rp.syncDir rr (m + 1) w' := by
  obtain ⟨k, bl, O, O2, t⟩ := h
  have hr := t.room
  exact (syncDir_calls k _ D O w t.disk t.ok t.below.size).mono fun e w' ⟨he, hg⟩ => ⟨by rw [he, t.sim.syncDirE], t.prog hg (Dk.syncedDir_ok t.ok) t.sim.syncDir (Nat.le_trans (syncedDir_room k) (by omega)) (Nat.le_succ m)⟩
theorem p_remove (h : Two w0 w L D g rp rr m) (hm : m < 4000) (s : ByteArray) (hs : s.size ≤ maxLen) : Calls Tryz.prog 46 #[.pointer (some ⟨D, 0, none⟩), .string s] w fun e w' => e = .returned (.int .i64 (rp.removeE s.data.toList)) ∧ TwoPost w0 w L D g (rp.remove s.data.toList) rr (m + 1) w' := by
  obtain ⟨k, bl, O, O2, t⟩ := h
  have hr := t.room
  exact (remove_calls k _ D O s w t.disk t.ok (by omega) hs t.below.size).mono fun e w' ⟨he, hg⟩ => ⟨by rw [he, t.sim.removeE], t.prog hg (Dk.removed_ok t.ok (by omega) hs) (t.sim.remove s) (Nat.le_trans (removed_room k s) (by omega)) (Nat.le_succ m)⟩
theorem r_read (h : Two w0 w L D g rp rr m) (hm : m < 4000) (s : ByteArray) (hs : s.size ≤ maxLen) : Calls Tryz.prog 73 #[.pointer (some ⟨g, 0, none⟩), .string s] w (RReadPost w (rr.findE s.data.toList) (rr.readB s.data.toList)) := by
  obtain ⟨k, bl, O, O2, t⟩ := h
  exact rread_calls rr _ g m O2 s w t.ref t.rok (by omega) hs
theorem p_list (h : Two w0 w L D g rp rr m) (hm : m < 4000) : Calls Tryz.prog 24 #[.pointer (some ⟨D, 0, none⟩)] w fun e w' => NamesPost w rp.list e w' ∧ ∀ x ∈ rp.list, x.length ≤ maxLen := by
  obtain ⟨k, bl, O, O2, t⟩ := h
  have hr := t.room
  refine (list_calls k _ D O w t.disk (by omega)).mono fun e w' ⟨v, ns, he, hN, hl, hx, hr, hb⟩ => ?_
  obtain rfl := t.sim.names hN
  exact ⟨⟨v, he, hr, hl, hb⟩, hx⟩
theorem r_list (h : Two w0 w L D g rp rr m) (hm : m < 4000) : Calls Tryz.prog 33 #[.pointer (some ⟨g, 0, none⟩)] w (NamesPost w rr.list) := by
  obtain ⟨k, bl, O, O2, t⟩ := h
  obtain ⟨vF, vD, vS, vA, dv, hd, rfl⟩ := t.ref
  exact rlist_calls rr _ g m vF vD vS vA dv w hd t.rok (by omega)
end
end Go.Proofs.YtabcdodjkfknlaaGreatDoor
