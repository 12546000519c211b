/- Walks: the document's disk: Crash. -/
import Derived.Test.YtgclancneohpbaaRW10
import Derived.Deep.DeepCutAuto
namespace Go.Proofs.Ytgclancneohpbaa
open Go.RowKit Go.Maps Go.Shelf
theorem rcuts_snoc : ∀ (l : List Nat) (F : List File) (keep : List UInt8) (i : Nat), rcuts F keep (l ++ [i]) = rcut (rcuts F keep l) (keep.drop l.length) i
  | [], F, keep, i => rfl
  | j :: l, F, keep, i => by
    show rcuts (rcut F keep j) keep.tail (l ++ [i]) = rcut (rcuts (rcut F keep j) keep.tail l) (keep.drop (l.length + 1)) i
    rw [rcuts_snoc l, List.drop_tail, Nat.add_comm]
theorem rcuts_take {d : RDir} {j : Nat} {n : List UInt8 × Nat} (h : d[j]? = some n) (F : List File) (keep : List UInt8) : rcuts F keep (rnums (d.take (j + 1))) = rcut (rcuts F keep (rnums (d.take j))) (keep.drop j) n.2 := by
  have hj := (List.getElem?_eq_some_iff.1 h).1
  have e : rnums (d.take (j + 1)) = rnums (d.take j) ++ [n.2] := by unfold rnums; rw [List.take_add_one, h, List.map_append]; rfl
  rw [e, rcuts_snoc]
  have : (rnums (d.take j)).length = j := by unfold rnums; rw [List.length_map, List.length_take]; omega
  rw [this]
theorem racells_at : ∀ (l : List RAct) (k : Nat) (a : RAct), l[k]? = some a → (racells l)[k * 3]? = some (strV a.frm) ∧ (racells l)[k * 3 + 1]? = some (strV a.to) ∧ (racells l)[k * 3 + 2]? = some (.int .i64 a.file)
  | [], k, a, h => by simp at h
  | d :: cs, 0, c, h => by
    obtain rfl : d = c := by simpa using h
    exact ⟨rfl, rfl, rfl⟩
  | d :: cs, k + 1, c, h => by
    obtain ⟨h1, h2, h3⟩ := racells_at cs k c (by simpa using h)
    have e : racells (d :: cs) = strV d.frm :: strV d.to :: .int .i64 d.file :: racells cs := rfl
    rw [e, show (k + 1) * 3 = k * 3 + 1 + 1 + 1 by omega]
    exact ⟨by simpa using h1, by simpa using h2, by simpa using h3⟩
theorem racells_len (l : List RAct) : (racells l).length = l.length * 3 := by
  induction l with
  | nil => rfl
  | cons c cs ih => simp [racells] at ih ⊢; omega
/-- one act of a disk -/
theorem RRest.act {w : World} {B : Nat} {vF vD vS vA : Value} {dv : List Value} {F : List File} {d s : RDir} {A : List RAct} (h : RRest w B vF vD vS vA dv F d s A) {t : Nat} (ht : t < A.length) : ∃ f c a x y, vA = .slice (some ⟨f, 0, none⟩) A.length c ∧ A[t]? = some a ∧ x.data.toList = a.frm ∧ y.data.toList = a.to ∧ f < w.heap.size ∧ w.cell? ⟨f, t * 3, none⟩ = some (.string x) ∧ w.cell? ⟨f, t * 3 + 1, none⟩ = some (.string y) ∧ w.cell? ⟨f, t * 3 + 2, none⟩ = some (.int .i64 a.file) := by
  have hx := List.getElem?_eq_getElem ht
  obtain ⟨q, c, rfl⟩ := own_slice h.acts
  have hq : ∃ f, q = some ⟨f, 0, none⟩ := by
    obtain ⟨_, ⟨e, e0⟩ | ⟨f, _, _, e, _⟩⟩ := h.acts
    · omega
    · injection e with e1; exact ⟨f, e1⟩
  obtain ⟨f, rfl⟩ := hq
  obtain ⟨k1, k2, k3⟩ := racells_at A t _ hx
  obtain ⟨x, hx1, hx2⟩ := str_of A[t].frm
  obtain ⟨y, hy1, hy2⟩ := str_of A[t].to
  have hf := h.acts
  exact ⟨f, c, A[t], x, y, rfl, hx, hx2, hy2, (hf.lt f rfl).2, by rw [← hx1, ← k1]; exact hf.cellAt _ (by omega), by rw [← hy1, ← k2]; exact hf.cellAt _ (by omega), by rw [← k3]; exact hf.cellAt _ (by omega)⟩
theorem own_cap' {w : World} {B k m c : Nat} {e : TypeId} {p : Option Addr} {xs : List Value} (h : w.ownsRow B e k (.slice p m c) m xs) : m ≤ c := by
  obtain ⟨_, ⟨e, e0⟩ | ⟨f, _, _, e, _, _, h, _⟩⟩ := h
  · injection e with _ _ e1; omega
  · injection e with _ _ e1; omega
theorem row_cap {w : World} {T : TypeId} {n c : Nat} {p : Option Addr} {xs : List Value} (h : RowAt w T (.slice p n c) n xs) : n ≤ c := by
  rcases h with ⟨e, e0⟩ | ⟨f, _, _, e, h, _⟩
  · injection e with _ _ e1; omega
  · injection e with _ _ e1; omega
theorem DataAt.cut' {w : World} {p : Option Addr} {c n : Nat} {l : List UInt8} (h : DataAt w (.slice p l.length c) l) (hn : n ≤ l.length) : DataAt w (.slice p n c) (l.take n) := by
  by_cases hp : p = none
  · subst hp
    rcases h with ⟨h0, h⟩ | ⟨g, c', cur, h0, hc, hl, h⟩
    · injection h0 with h1 h2 h3
      obtain rfl : n = 0 := by omega
      subst h3
      exact .inl ⟨rfl, rfl⟩
    · injection h0 with h1; cases h1
  · exact h.cut hn hp
/-- the byte of keep that counts -/
def keepAt (keep : List UInt8) (i : Nat) : Nat := ((keep[i]?).getD 0).toNat
theorem nextN_drop (keep : List UInt8) (i n : Nat) : nextN (keep.drop i) n = keepAt keep i % (n + 1) := by
  unfold nextN keepAt
  cases h : keep.drop i with
  | nil =>
    have : keep.length ≤ i := List.drop_eq_nil_iff.1 h
    rw [List.getElem?_eq_none this]; simp
  | cons c l =>
    have : keep[i]? = some c := by rw [← List.head?_drop, h]; rfl
    rw [this]; rfl
/-- a round of Crash: what it leaves of the files -/
theorem RDat.cutOne {w : World} {B g f c : Nat} {vD vS vA : Value} {dv : List Value} {r : RD} (h : RDat w B g (.slice (some ⟨f, 0, none⟩) r.files.length c) vD vS vA dv r) {i n : Nat} {x : File} {p : Option Addr} {c' : Nat} (hx : r.files[i]? = some x) (hu : dv[i]? = some (.slice p x.data.length c')) (hn : n ≤ x.data.length) :
    RDat ((w.setCell ⟨f, i * 2, none⟩ (.slice p n c')).setCell ⟨f, i * 2 + 1, none⟩ (.int .i64 n)) B g (.slice (some ⟨f, 0, none⟩) r.files.length c) vD vS vA (dv.set i (.slice p n c')) { r with files := r.files.set i ⟨x.data.take n, n⟩ } := by
  obtain ⟨u, h1, h2⟩ := h.rest.data i x hx
  rw [hu] at h1
  obtain rfl := Option.some.inj h1
  have hil := (List.getElem?_eq_some_iff.1 hx).1
  have a1 := h.fset0 hx (h2.cut' hn) (fun j hj => h.low j (.inr (.inr (.inr (.inr (.inr ⟨_, List.mem_of_getElem? hu, by cases p <;> exact hj⟩))))))
  have hlen : (r.files.set i ⟨x.data.take n, x.safe⟩).length = r.files.length := List.length_set
  have a2 : RDat (w.setCell ⟨f, i * 2, none⟩ (.slice p n c')) B g (.slice (some ⟨f, 0, none⟩) ({ r with files := r.files.set i ⟨x.data.take n, x.safe⟩ } : RD).files.length c) vD vS vA (dv.set i (.slice p n c')) { r with files := r.files.set i ⟨x.data.take n, x.safe⟩ } := by
    show RDat _ _ _ (.slice _ (r.files.set i ⟨x.data.take n, x.safe⟩).length c) _ _ _ _ _
    rw [hlen]; exact a1
  have a3 := a2.fset1 (i := i) (x := ⟨x.data.take n, x.safe⟩) (List.getElem?_set_self hil) n
  have e : ({ r with files := (r.files.set i ⟨x.data.take n, x.safe⟩).set i ⟨x.data.take n, n⟩ } : RD) = { r with files := r.files.set i ⟨x.data.take n, n⟩ } := by rw [List.set_set]
  have e2 : ({ ({ r with files := r.files.set i ⟨x.data.take n, x.safe⟩ } : RD) with files := ({ r with files := r.files.set i ⟨x.data.take n, x.safe⟩ } : RD).files.set i ⟨x.data.take n, n⟩ } : RD) = { r with files := (r.files.set i ⟨x.data.take n, x.safe⟩).set i ⟨x.data.take n, n⟩ } := rfl
  rw [show (⟨(⟨x.data.take n, x.safe⟩ : File).data, n⟩ : File) = ⟨x.data.take n, n⟩ from rfl, e2, e] at a3
  have e3 : ({ r with files := r.files.set i ⟨x.data.take n, x.safe⟩ } : RD).files.length = r.files.length := hlen
  rw [e3] at a3
  exact a3
end Go.Proofs.Ytgclancneohpbaa
namespace Go.Proofs.Ytgclancneohpbaa
open Go.RowKit Go.Maps Go.Shelf
theorem RDat.risen {W : World} {B g : Nat} {vF vD vS vA v : Value} {dv : List Value} {r : RD} {D : RDir} (h : RDat W B g vF vD vS vA dv r) (hd : DirAt W v D) (hv : ∀ j, v.ownBlock = some j → B ≤ j) :
    RDat (((((W.setCell ⟨g, 4, none⟩ v).setCell ⟨g, 5, none⟩ v).setCell ⟨g, 6, none⟩ (.slice none 0 0)).setCell ⟨g, 1, none⟩ (.bool false)).setCell ⟨g, 2, none⟩ (.int .i64 (-1))) B g vF v v (.slice none 0 0) dv ⟨r.cap, false, -1, r.files, D, D, []⟩ ∧
    Keeps (fun j => j = g) W (((((W.setCell ⟨g, 4, none⟩ v).setCell ⟨g, 5, none⟩ v).setCell ⟨g, 6, none⟩ (.slice none 0 0)).setCell ⟨g, 1, none⟩ (.bool false)).setCell ⟨g, 2, none⟩ (.int .i64 (-1))) := by
  have hk := ((((kset W g 4 v).trans (kset _ g 5 v)).trans (kset _ g 6 (.slice none 0 0))).trans (kset _ g 1 (.bool false))).trans (kset _ g 2 (.int .i64 (-1)))
  have hr := h.rest.keeps (S := fun j => j = g) hk (fun j e => by obtain rfl := e; exact h.far)
  have hD := hd.keeps (S := fun j => j = g) hk (fun j hj e => by
    obtain rfl := e
    obtain ⟨c, h1⟩ := RowAt.blk hd j hj; exact h1.ne_ h.blk (by decide) rfl)
  refine ⟨⟨((((h.blk.set_ 4 v).set_ 5 v).set_ 6 (.slice none 0 0)).set_ 1 (.bool false)).set_ 2 (.int .i64 (-1)), ⟨hr.files, hr.len, hr.data, hD, hD, World.ownsRow_nil _ _ _ _⟩, fun j hj => ?_⟩, hk⟩
  rcases hj with e | e | e | e | e | e
  · exact h.low j (.inl e)
  · exact h.low j (.inr (.inl e))
  · cases e
  · exact hv j e
  · exact hv j e
  · exact h.low j (.inr (.inr (.inr (.inr (.inr e)))))
theorem keepAt_lt (keep : List UInt8) (i : Nat) : keepAt keep i < 256 := by
  unfold keepAt
  have := ((keep[i]?).getD 0).toNat_lt
  omega
/-- a byte of keep in memory -/
theorem Bytes.at_ {w : World} {p : Option Addr} {n c : Nat} {l : List UInt8} (h : Bytes w (.slice p n c) l) {i : Nat} (hi : i < l.length) : ∃ gk o, p = some ⟨gk, o, none⟩ ∧ w.cell? ⟨gk, o + i, none⟩ = some (.int .u8 (keepAt l i : Nat)) := by
  rcases h with (⟨_, rfl⟩ | ⟨g, o, c', e, _, h⟩) | ⟨_, _, _, rfl⟩
  · exact absurd hi (Nat.not_lt_zero _)
  · injection e with e1
    refine ⟨g, o, e1, ?_⟩
    rw [h i _ (List.getElem?_eq_getElem hi)]
    unfold keepAt
    rw [List.getElem?_eq_getElem hi]; rfl
  · exact absurd hi (Nat.not_lt_zero _)
set_option maxHeartbeats 8000000 in
set_option maxRecDepth 100000 in
theorem rcrash_calls (r : RD) (B g m : Nat) (O : Nat → Prop) (v : Value) (keep : List UInt8) (w : World) (hd : RDisk w B g O r) (hk : RDok r m) (hm : m ≤ 4000) (hv : Bytes w v keep) (hvO : ∀ j, v.ownBlock = some j → keep ≠ [] → ¬ O j) (hl : keep.length ≤ 1000000) :
    Calls Try.prog 61 #[.pointer (some ⟨g, 0, none⟩), v] w fun e w' => e = .returned (.tuple #[]) ∧ RGoes w B g O (r.crash keep) w' := by
  have hOl := hd.lt
  obtain ⟨vF, vD, vS, vA, dv, h, rfl⟩ := hd
  obtain ⟨pv, cv, rfl⟩ := hv.slice
  obtain ⟨pA, cA, rfl⟩ := own_slice h.rest.acts
  have hcA := own_cap' h.rest.acts
  obtain ⟨pS, cS, rfl⟩ := h.rest.safe.slice
  have hkle := nextN_le keep r.acts.length
  have hkk := nextN_drop keep 0 r.acts.length
  rw [List.drop_zero] at hkk
  have hC : r.crash keep = ⟨r.cap, false, -1, rcuts r.files keep.tail (rnums (r.kept keep)), r.kept keep, r.kept keep, []⟩ := rfl
  have hK : r.kept keep = (r.acts.take (nextN keep r.acts.length)).foldl rdone r.safe := rfl
  obtain ⟨o1, o2, o3⟩ := foldl_ok (r.acts.take (nextN keep r.acts.length)) hk.ss hk.ns (fun a ha => hk.na a (List.mem_of_mem_take ha))
  have ho3 := Nat.le_trans o3 (Nat.add_le_add_left (List.length_take_le' _ _) _)
  generalize nextN keep r.acts.length = kk at *
  have qc := h.blk.cell
  have hmA := hk.sacts
  have hgl := h.blk.lt
  have h' := Lib.hid h
  have hk' := Lib.hid hk
  have hv' := Lib.hid hv
  have hC' := Lib.hid hC
  have hK' := Lib.hid hK
  have hvO' := Lib.hid hvO
  have hOl' := Lib.hid hOl
  have o1' := Lib.hid o1
  have o2' := Lib.hid o2
  have o3' := Lib.hid ho3
  have hkk' := Lib.hid hkk
  clear h hk hv hC hK hvO hOl o1 o2 o3 ho3 hkk
  go_enter Try.func61, Try.ntmps61
  go_upto_if 16 with fail
  go_cut [5] (fun nx wx => w = wx ∧ nx = .int .i64 (keepAt keep 0 : Nat))
  case first =>
    by_cases h0 : 0 < keep.length
    · obtain ⟨gk, ok, rfl, hb⟩ := hv'.out.at_ h0
      have hb' : w.cell? ⟨gk, ok, none⟩ = _ := hb
      have hlt := keepAt_lt keep 0
      clear hb
      go_wp2_with fail
      go_meet
      exact ⟨rfl, rfl⟩
    · have e : keepAt keep 0 = 0 := by
        unfold keepAt
        rw [List.getElem?_eq_none (by omega)]; rfl
      have e' := Lib.hid e
      clear e
      go_wp2_with fail
      go_meet
      exact ⟨rfl, by rw [e'.out]; rfl⟩
  case rest =>
    obtain ⟨rfl, rfl⟩ := hcut
    have hlt := keepAt_lt keep 0
    have hmod : ((keepAt keep 0 : Nat) : Int) % ((r.acts.length : Int) + 1) = (kk : Int) := by rw [hkk'.out]; simp
    go_wp2_with fail
    clear hmod
    go_loopw [7, 9, 40] (fun v7 _ i wr => ∃ t : Nat, t ≤ kk ∧ i = .int .i64 t ∧ DirAt wr v7 ((r.acts.take t).foldl rdone r.safe) ∧ (∀ j, v7.ownBlock = some j → (Value.slice pS r.safe.length cS).ownBlock = some j ∨ w.heap.size ≤ j) ∧ Below w.heap.size w wr) (fun _ _ i _ => kk - (intOf i).toNat)
    case atStart => exact ⟨0, Nat.zero_le _, rfl, h'.out.rest.safe, fun j hj => .inl hj, Below.refl _ _⟩
    case round =>
      obtain ⟨t, ht, rfl, hD, hO, hB⟩ := hrel
      have hz := hB.size
      have hO' := Lib.hid hO
      clear hO
      by_cases hlt2 : t < kk
      · obtain ⟨f, c, a, x, y, hvA, ha, hx, hy, hfl, qa0, qa1, qa2⟩ := (h'.out.rest.later hB).act (t := t) (by omega)
        obtain ⟨rfl, rfl⟩ : pA = some ⟨f, 0, none⟩ ∧ cA = c := by simpa using hvA
        have BA := hB.alloc hz (.cells #[.string x, .string y, .int .i64 a.file] 120)
        have bn := (Blk.new wr 120 #[.string x, .string y, .int .i64 a.file]).cell
        have hlen : ((r.acts.take t).foldl rdone r.safe).length ≤ 40000 := by
          have := (foldl_ok (k := r.files.length) (r.acts.take t) hk'.out.ss hk'.out.ns (fun a ha => hk'.out.na a (List.mem_of_mem_take ha))).2.2
          rw [List.length_take] at this; omega
        have hDn := rdone_calls _ _ x y a.file _ (hD.later ((Below.refl _ _).alloc (Nat.le_refl _) (.cells #[.string x, .string y, .int .i64 a.file] 120))) hlen
        have hae : (⟨x.data.toList, y.data.toList, a.file⟩ : RAct) = a := by rw [hx, hy]
        have hst : (r.acts.take (t + 1)).foldl rdone r.safe = rdone ((r.acts.take t).foldl rdone r.safe) a := by rw [List.take_add_one, ha, List.foldl_append]; rfl
        rw [hae, ← hst] at hDn
        have hDn' := Lib.hid hDn
        clear hvA ha hx hy hDn hae hst hlen hD
        go_wp2_with fail
        refine hDn'.out.mono ?_
        rintro e w5 ⟨v5, rfl, p1, p2, p3⟩
        have B5 := BA.trans (p3.mono (by simp; omega))
        have hO5 : ∀ j, v5.ownBlock = some j → (Value.slice pS r.safe.length cS).ownBlock = some j ∨ w.heap.size ≤ j := fun j hj => (p2 j hj).elim (hO'.out j) (fun e => .inr (by simp at e; omega))
        have hO5' := Lib.hid hO5
        have p1' := Lib.hid p1
        clear p1 p2 p3 hO5 hDn'
        go_wp2_with fail
        go_roundw
        case rel => exact ⟨t + 1, by omega, by go_num, p1'.out, hO5'.out, B5⟩
        case measure => simp [intOf]; omega
      · obtain rfl : kk = t := by omega
        have hKe : r.kept keep = (r.acts.take kk).foldl rdone r.safe := hK'.out
        rw [← hKe] at hD
        have o1 := o1'.out
        have o2 := o2'.out
        have o3 := o3'.out
        rw [← hKe] at o1 o2 o3
        clear hKe hK' o1' o2' o3'
        generalize r.kept keep = D at *
        obtain ⟨p7, c7, rfl⟩ := hD.slice
        have hdl : D.length ≤ 4000 := by omega
        obtain ⟨w6, rfl⟩ : ∃ w6 : World, w6 = wr := ⟨_, rfl⟩
        have h6 := h'.out.later hB
        have o2h := Lib.hid o2
        have hD' := Lib.hid hD
        have h6' := Lib.hid h6
        have hv6 := Lib.hid (hv'.out.later hB)
        have hls := Lib.hid hk'.out.small
        have hlF := hk'.out.files
        have hvn : ∀ j, (Value.slice pv keep.length cv).ownBlock = some j → keep ≠ [] → ¬ vF.ownBlock = some j := fun j hj hn e => hvO'.out j hj hn (.inr (.inl e))
        have hvn' := Lib.hid hvn
        obtain ⟨qF, cF, hqF⟩ := own_slice h6.rest.files
        subst hqF
        clear o1 o2 hD h6 hvn qc o3
        go_wp2_with fail
        go_loopw [4, 11, 12, 13, 50] (fun at_ _ _ _ i wr2 => ∃ (j : Nat) (dv2 : List Value), j ≤ D.length ∧ at_ = .int .i64 j ∧ i = .int .i64 j ∧ RDat wr2 B g (.slice qF r.files.length cF) vD (.slice pS r.safe.length cS) (.slice pA r.acts.length cA) dv2 { r with files := rcuts r.files keep.tail (rnums (D.take j)) } ∧ (∀ u ∈ dv2, ∀ b, u.ownBlock = some b → ∃ u' ∈ dv, u'.ownBlock = some b) ∧ Keeps (fun i => (Value.slice qF r.files.length cF).ownBlock = some i) w6 wr2) (fun _ _ _ _ i _ => D.length - (intOf i).toNat)
        case atStart => exact ⟨0, dv, Nat.zero_le _, rfl, rfl, h6'.out, fun u hu b hb => ⟨u, hu, hb⟩, Keeps.refl _ _⟩
        case round =>
          obtain ⟨j, dv2, hj, rfl, rfl, hR, hdv, hW⟩ := hrel
          have hdv' := Lib.hid hdv
          have hz2 := hW.size
          clear hdv
          by_cases hlt3 : j < D.length
          · have hD2 : DirAt wr (.slice p7 D.length c7) D := hD'.out.keeps hW (fun i hi e => by
              obtain ⟨c, h1⟩ := RowAt.blk hD'.out i hi
              obtain ⟨c', h2⟩ := own_blk h6'.out.rest.files i e
              exact h1.ne_ h2 (by decide) rfl)
            obtain ⟨g7, c, n, s7, hv7, _, hg7, hdj, hs7, q0, q1⟩ := hD2.name hlt3
            obtain ⟨rfl, rfl⟩ : p7 = some ⟨g7, 0, none⟩ ∧ c7 = c := by simpa using hv7
            have hnl : n.2 < ({ r with files := rcuts r.files keep.tail (rnums (D.take j)) } : RD).files.length := by
              show _ < (rcuts r.files keep.tail (rnums (D.take j))).length
              rw [rcuts_length]; exact o2h.out n (List.mem_of_getElem? hdj)
            have hFl : (rcuts r.files keep.tail (rnums (D.take j))).length = r.files.length := rcuts_length _ _ _
            obtain ⟨f, cf, x, p, c', hvF, hx, hux, hda, r0, r1, rf, hfl⟩ := hR.rest.file hnl
            obtain ⟨rfl, rfl⟩ : qF = some ⟨f, 0, none⟩ ∧ cF = cf := by
              injection hvF with e1 _ e2; exact ⟨e1, e2⟩
            have hsm := rcuts_small hls.out keep.tail (rnums (D.take j)) x (List.mem_of_getElem? hx)
            have hxl : x.data.length ≤ 4000 * 65536 := Nat.le_trans hsm.2 (Nat.mul_le_mul_right _ hm)
            have hxs := hsm.1
            have hxc := row_cap hda
            have hnf : n.2 < r.files.length := by rw [← hFl]; exact hnl
            obtain ⟨nn, hnn⟩ : ∃ nn, nn = x.safe + keepAt keep (j + 1) % (x.data.length - x.safe + 1) := ⟨_, rfl⟩
            have hmlt : keepAt keep (j + 1) % (x.data.length - x.safe + 1) < x.data.length - x.safe + 1 := Nat.mod_lt _ (by omega)
            have hnl2 : nn ≤ x.data.length := by omega
            have hgot : (rcuts r.files keep.tail (rnums (D.take j))).getD n.2 ⟨[], 0⟩ = x := by rw [List.getD_eq_getElem?_getD]; show ((({ r with files := rcuts r.files keep.tail (rnums (D.take j)) } : RD).files)[n.2]?).getD _ = x; rw [hx]; rfl
            have hstep : rcuts r.files keep.tail (rnums (D.take (j + 1))) = (rcuts r.files keep.tail (rnums (D.take j))).set n.2 ⟨x.data.take nn, nn⟩ := by
              rw [rcuts_take hdj]
              unfold rcut rcutN
              rw [hgot, ← List.drop_one, List.drop_drop, show 1 + j = j + 1 by omega, nextN_drop, ← hnn]
            have hcut := fun W (hW : RDat W B g (.slice (some ⟨f, 0, none⟩) r.files.length cF) vD (.slice pS r.safe.length cS) (.slice pA r.acts.length cA) dv2 { r with files := rcuts r.files keep.tail (rnums (D.take j)) }) => RDat.cutOne (r := { r with files := rcuts r.files keep.tail (rnums (D.take j)) }) (c := cF) (by
              show RDat _ _ _ (.slice _ (rcuts r.files keep.tail (rnums (D.take j))).length _) _ _ _ _ _
              rw [hFl]; exact hW) hx hux hnl2
            have hcut' := Lib.hid hcut
            have hux' := Lib.hid hux
            have hR' := Lib.hid hR
            have hdj' := Lib.hid hdj
            have hstep' := Lib.hid hstep
            have hFl' := Lib.hid hFl
            have BA : Below wr.heap.size wr (wr.alloc (.cells #[.string s7, .int .i64 n.2] 108)) := (Below.refl _ _).alloc (Nat.le_refl _) _
            have bn := (Blk.new wr 108 #[.string s7, .int .i64 n.2]).cell
            have bl := (Blk.new wr 108 #[.string s7, .int .i64 n.2]).lt
            have qg := hR.blk.cell
            have hgr := hR.blk.lt
            have hv2 : Bytes wr (.slice pv keep.length cv) keep := hv6.out.keepsP hW hvn'.out
            clear hv7 hs7 hvF hx hux hda hsm hgot hstep hcut hR hdj hnl hFl
            by_cases hat : j + 1 < keep.length
            · obtain ⟨gk, ok, rfl, hb⟩ := hv2.at_ hat
              have hgk := cell_lt hb
              have hlt4 := keepAt_lt keep (j + 1)
              clear hv2
              go_wp2_with fail
              go_quiet (fail)
              rename_i nq
              go_wp2_with fail
              obtain ⟨W, eW, hRW, r0W, r1W, rfW, hkW⟩ : ∃ W, (wr.alloc (.cells #[.string s7, .int .i64 n.2] 108)).drewN nq = W ∧ RDat W B g (.slice (some ⟨f, 0, none⟩) r.files.length cF) vD (.slice pS r.safe.length cS) (.slice pA r.acts.length cA) dv2 { r with files := rcuts r.files keep.tail (rnums (D.take j)) } ∧ W.cell? ⟨f, n.2 * 2, none⟩ = some (.slice p x.data.length c') ∧ W.cell? ⟨f, n.2 * 2 + 1, none⟩ = some (.int .i64 x.safe) ∧ (∀ i, W.frozen? ⟨f, i, none⟩ = false) ∧ Below wr.heap.size wr W := by
                have BW := bdrewN BA nq
                exact ⟨_, rfl, hR'.out.later BW, (BW.cell (p := ⟨f, n.2 * 2, none⟩) hfl).trans r0, (BW.cell (p := ⟨f, n.2 * 2 + 1, none⟩) hfl).trans r1, fun i => (BW.frozen (p := ⟨f, i, none⟩) hfl).trans (rf i), BW⟩
              rw [eW]
              obtain ⟨dd, hdd⟩ : ∃ dd, dd = x.data.length - x.safe := ⟨_, rfl⟩
              rw [← hdd] at hnn hmlt
              obtain ⟨nx, hnx⟩ : ∃ nx, nx = keepAt keep (j + 1) % (dd + 1) := ⟨_, rfl⟩
              rw [← hnx] at hnn hmlt
              have e2 : ((keepAt keep (j + 1) : Nat) : Int).tmod ((dd : Int) + 1) = (nx : Int) := by
                rw [Int.tmod_eq_emod_of_nonneg (by omega), hnx]; simp
              have e1 : IntKind.i64.wrap ((x.data.length : Int) - (x.safe : Int)) = (dd : Int) := by rw [IntWalk.i64_in _ (by omega)]; omega
              have e1b : IntKind.i64.wrap ((dd : Int) + 1) = (dd : Int) + 1 := IntWalk.i64_in _ (by omega)
              have e3 : IntKind.i64.wrap ((x.safe : Int) + (nx : Int)) = (nn : Int) := by rw [IntWalk.i64_in _ (by omega)]; omega
              have e4 : (0 : Int) ≤ (nn : Int) := by omega
              have e5 : (nn : Int) ≤ (c' : Int) := by omega
              have hend := hcut'.out W hRW
              have hkE : Keeps (fun i => (Value.slice (some ⟨f, 0, none⟩) r.files.length cF).ownBlock = some i) w6 ((W.setCell ⟨f, n.2 * 2, none⟩ (.slice p nn c')).setCell ⟨f, n.2 * 2 + 1, none⟩ (.int .i64 nn)) := (hW.trans (Keeps.of_below hkW)).trans (((kset W f _ _).trans (kset _ f _ _)).mono fun i _ e => by rw [e]; rfl)
              have hend' := Lib.hid hend
              have hkE' := Lib.hid hkE
              have hRW' := Lib.hid hRW
              have hnn' := Lib.hid hnn
              have hnx' := Lib.hid hnx
              have hdd' := Lib.hid hdd
              have hW' := Lib.hid hW
              clear eW hend hkE hRW hnn hnx hdd hW hkW bn qg r0 r1 rf hb q0 q1 hD2
              go_region
              clear e1 e1b e2 e3
              go_wp2_with fail
              have hendE := hend'.out
              rw [show ({ r with files := rcuts r.files keep.tail (rnums (D.take j)) } : RD).files.length = r.files.length from hFl'.out, ← hstep'.out] at hendE
              have hown : ∀ u ∈ dv2.set n.2 (.slice p nn c'), ∀ b, u.ownBlock = some b → ∃ u' ∈ dv, u'.ownBlock = some b := by
                intro u hu b hb
                rcases List.mem_or_eq_of_mem_set hu with hu | rfl
                · exact hdv'.out u hu b hb
                · exact hdv'.out _ (List.mem_of_getElem? hux'.out) b (by cases p <;> exact hb)
              have hendE' := Lib.hid hendE
              have hown' := Lib.hid hown
              clear hendE hown
              go_roundw
              case rel => exact ⟨j + 1, _, by omega, by go_num, by go_num, hendE'.out.later (Below.refl _ _).drew, hown'.out, hkE'.out.drew⟩
              case measure => simp [intOf]; omega
            · have hkb : keepAt keep (j + 1) = 0 := by
                unfold keepAt
                rw [List.getElem?_eq_none (by omega)]; rfl
              rw [hkb, Nat.zero_mod, Nat.add_zero] at hnn
              subst hnn
              clear hv2 hkb hmlt
              go_wp2_with fail
              go_quiet (fail)
              rename_i nq
              go_wp2_with fail
              obtain ⟨W, eW, hRW, r0W, r1W, rfW, hkW⟩ : ∃ W, (wr.alloc (.cells #[.string s7, .int .i64 n.2] 108)).drewN nq = W ∧ RDat W B g (.slice (some ⟨f, 0, none⟩) r.files.length cF) vD (.slice pS r.safe.length cS) (.slice pA r.acts.length cA) dv2 { r with files := rcuts r.files keep.tail (rnums (D.take j)) } ∧ W.cell? ⟨f, n.2 * 2, none⟩ = some (.slice p x.data.length c') ∧ W.cell? ⟨f, n.2 * 2 + 1, none⟩ = some (.int .i64 x.safe) ∧ (∀ i, W.frozen? ⟨f, i, none⟩ = false) ∧ Below wr.heap.size wr W := by
                have BW := bdrewN BA nq
                exact ⟨_, rfl, hR'.out.later BW, (BW.cell (p := ⟨f, n.2 * 2, none⟩) hfl).trans r0, (BW.cell (p := ⟨f, n.2 * 2 + 1, none⟩) hfl).trans r1, fun i => (BW.frozen (p := ⟨f, i, none⟩) hfl).trans (rf i), BW⟩
              rw [eW]
              obtain ⟨dd, hdd⟩ : ∃ dd, dd = x.data.length - x.safe := ⟨_, rfl⟩
              have e1 : IntKind.i64.wrap ((x.data.length : Int) - (x.safe : Int)) = (dd : Int) := by rw [IntWalk.i64_in _ (by omega)]; omega
              have e1b : IntKind.i64.wrap ((dd : Int) + 1) = (dd : Int) + 1 := IntWalk.i64_in _ (by omega)
              have e2 : ((0 : Int)).tmod ((dd : Int) + 1) = 0 := Int.zero_tmod _
              have e3 : IntKind.i64.wrap ((x.safe : Int) + 0) = (x.safe : Int) := by rw [IntWalk.i64_in _ (by omega)]; omega
              have e3b : IntKind.i64.wrap (x.safe : Int) = (x.safe : Int) := by rw [IntWalk.i64_in _ (by omega)]
              have e4 : (0 : Int) ≤ (x.safe : Int) := by omega
              have e5 : (x.safe : Int) ≤ (c' : Int) := by omega
              have hend := hcut'.out W hRW
              have hkE : Keeps (fun i => (Value.slice (some ⟨f, 0, none⟩) r.files.length cF).ownBlock = some i) w6 ((W.setCell ⟨f, n.2 * 2, none⟩ (.slice p x.safe c')).setCell ⟨f, n.2 * 2 + 1, none⟩ (.int .i64 x.safe)) := (hW.trans (Keeps.of_below hkW)).trans (((kset W f _ _).trans (kset _ f _ _)).mono fun i _ e => by rw [e]; rfl)
              have hend' := Lib.hid hend
              have hkE' := Lib.hid hkE
              have hRW' := Lib.hid hRW
              have hdd' := Lib.hid hdd
              have hW' := Lib.hid hW
              clear eW hend hkE hRW hdd hW hkW bn qg r0 r1 rf q0 q1 hD2
              go_region
              clear e1 e1b e2 e3 e3b
              go_wp2_with fail
              have hendE := hend'.out
              rw [show ({ r with files := rcuts r.files keep.tail (rnums (D.take j)) } : RD).files.length = r.files.length from hFl'.out, ← hstep'.out] at hendE
              have hown : ∀ u ∈ dv2.set n.2 (.slice p x.safe c'), ∀ b, u.ownBlock = some b → ∃ u' ∈ dv, u'.ownBlock = some b := by
                intro u hu b hb
                rcases List.mem_or_eq_of_mem_set hu with hu | rfl
                · exact hdv'.out u hu b hb
                · exact hdv'.out _ (List.mem_of_getElem? hux'.out) b (by cases p <;> exact hb)
              have hendE' := Lib.hid hendE
              have hown' := Lib.hid hown
              clear hendE hown
              go_roundw
              case rel => exact ⟨j + 1, _, by omega, by go_num, by go_num, hendE'.out.later (Below.refl _ _).drew, hown'.out, hkE'.out.drew⟩
              case measure => simp [intOf]; omega
          · obtain rfl : j = D.length := by omega
            have hD2 : DirAt wr (.slice p7 D.length c7) D := hD'.out.keeps hW (fun i hi e => by
              obtain ⟨c, h1⟩ := RowAt.blk hD'.out i hi
              obtain ⟨c', h2⟩ := own_blk h6'.out.rest.files i e
              exact h1.ne_ h2 (by decide) rfl)
            rw [List.take_length] at hR
            have hv7 : ∀ j, (Value.slice p7 D.length c7).ownBlock = some j → B ≤ j := fun j hj => (hO'.out j hj).elim (fun e => (hOl'.out j (.inr (.inr (.inr (.inr (.inl e)))))).1) (fun e => by have := hOl'.out g (.inl rfl); omega)
            obtain ⟨hE, hkE⟩ := hR.risen hD2 hv7
            have hG : RGoes w B g (rdset g (.slice qF r.files.length cF) vD (.slice pS r.safe.length cS) (.slice pA r.acts.length cA) dv) (r.crash keep) (((((wr.setCell ⟨g, 4, none⟩ (.slice p7 D.length c7)).setCell ⟨g, 5, none⟩ (.slice p7 D.length c7)).setCell ⟨g, 6, none⟩ (.slice none 0 0)).setCell ⟨g, 1, none⟩ (.bool false)).setCell ⟨g, 2, none⟩ (.int .i64 (-1))) := by
              rw [hC'.out]
              refine ⟨⟨_, ⟨_, _, _, _, _, hE, rfl⟩, fun j hj => ?_⟩, (Keeps.of_below hB).trans ((hW.mono fun j _ e => .inr (.inl e)).trans (hkE.mono fun j _ e => .inl e))⟩
              rcases hj with e | e | e | e | e | ⟨u, hu, e⟩
              · exact .inl (.inl e)
              · exact .inl (.inr (.inl e))
              · cases e
              · exact (hO'.out j e).imp (fun e => .inr (.inr (.inr (.inr (.inl e))))) id
              · exact (hO'.out j e).imp (fun e => .inr (.inr (.inr (.inr (.inl e))))) id
              · obtain ⟨u', hu', e'⟩ := hdv'.out u hu j e
                exact .inl (.inr (.inr (.inr (.inr (.inr ⟨u', hu', e'⟩)))))
            have qc := hR.blk.cell
            have qf := hR.blk.frozen
            have hG' := Lib.hid hG
            clear hE hkE hG hD2 hv7 hR hW
            go_wp2_with fail
            go_end0
            exact ⟨rfl, hG'.out⟩
end Go.Proofs.Ytgclancneohpbaa
