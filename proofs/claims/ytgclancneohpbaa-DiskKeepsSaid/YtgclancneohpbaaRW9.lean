/- Walks: the document's disk: Read, Sync. -/
import Derived.Test.YtgclancneohpbaaRW8
namespace Go.Proofs.Ytgclancneohpbaa
open Go.RowKit Go.Maps Go.Shelf
theorem fcells_set0 : ∀ (dv : List Value) (F : List File) (i : Nat) (u : Value) (x : File) (l : List UInt8), dv.length = F.length → F[i]? = some x → fcells (dv.set i u) (F.set i ⟨l, x.safe⟩) = (fcells dv F).set (i * 2) u
  | _, [], i, u, x, l, _, h => by simp at h
  | [], _ :: _, i, u, x, l, h, _ => by simp at h
  | d :: dv, f :: F, 0, u, x, l, _, h' => by
    obtain rfl : f = x := by simpa using h'
    rfl
  | d :: dv, f :: F, i + 1, u, x, l, h, h' => by
    have ih := fcells_set0 dv F i u x l (by simpa using h) (by simpa using h')
    have e : fcells (d :: dv) (f :: F) = d :: .int .i64 f.safe :: fcells dv F := rfl
    have e2 : fcells ((d :: dv).set (i + 1) u) ((f :: F).set (i + 1) ⟨l, x.safe⟩) = d :: .int .i64 f.safe :: fcells (dv.set i u) (F.set i ⟨l, x.safe⟩) := rfl
    rw [e, e2, ih, show (i + 1) * 2 = i * 2 + 1 + 1 by omega, List.set_cons_succ, List.set_cons_succ]
theorem fcells_set1 : ∀ (dv : List Value) (F : List File) (i z : Nat) (x : File), dv.length = F.length → F[i]? = some x → fcells dv (F.set i ⟨x.data, z⟩) = (fcells dv F).set (i * 2 + 1) (.int .i64 z)
  | _, [], i, z, x, _, h => by simp at h
  | [], _ :: _, i, z, x, h, _ => by simp at h
  | d :: dv, f :: F, 0, z, x, _, h' => rfl
  | d :: dv, f :: F, i + 1, z, x, h, h' => by
    have ih := fcells_set1 dv F i z x (by simpa using h) (by simpa using h')
    have e : fcells (d :: dv) (f :: F) = d :: .int .i64 f.safe :: fcells dv F := rfl
    have e2 : fcells (d :: dv) ((f :: F).set (i + 1) ⟨x.data, z⟩) = d :: .int .i64 f.safe :: fcells dv (F.set i ⟨x.data, z⟩) := rfl
    rw [e, e2, ih, show (i + 1) * 2 + 1 = i * 2 + 1 + 1 + 1 by omega, List.set_cons_succ, List.set_cons_succ]
section
variable {w w' : World} {B g : Nat} {vD vS vA : Value} {dv : List Value} {r : RD}
/-- one file's bytes are others -/
theorem RDat.fset0 {f c : Nat} (h : RDat w B g (.slice (some ⟨f, 0, none⟩) r.files.length c) vD vS vA dv r) {i : Nat} {x : File} (hx : r.files[i]? = some x) {u : Value} {l : List UInt8} (hu : DataAt w u l) (hB : ∀ j, u.ownBlock = some j → B ≤ j) :
    RDat (w.setCell ⟨f, i * 2, none⟩ u) B g (.slice (some ⟨f, 0, none⟩) r.files.length c) vD vS vA (dv.set i u) { r with files := r.files.set i ⟨l, x.safe⟩ } := by
  have hk := kset w f (i * 2) u
  obtain ⟨n1, n2, n3, n4, n5⟩ := h.farF (j := f) rfl
  have hlen := h.rest.len
  have hil := (List.getElem?_eq_some_iff.1 hx).1
  obtain ⟨cur, hcur⟩ := own_blk h.rest.files f rfl
  have hs := (h.rest.files.stored (i * 2) u).1
  refine ⟨h.blk.keeps hk (fun e => n1 e.symm), ⟨?_, by rw [List.length_set]; show _ = (r.files.set _ _).length; rw [List.length_set]; exact hlen, fun j y hy => ?_, h.rest.dir.keeps hk fun j hj e => n3 (by rw [hj, e]), h.rest.safe.keeps hk fun j hj e => n4 (by rw [hj, e]), own_keeps h.rest.acts hk fun j hj e => n2 (by rw [hj, e])⟩, fun j hj => ?_⟩
  · show World.ownsRow _ _ _ _ _ (r.files.set i ⟨l, x.safe⟩).length (fcells (dv.set i u) (r.files.set i ⟨l, x.safe⟩))
    rw [List.length_set, fcells_set0 _ _ _ _ _ _ hlen hx]; exact hs
  · have hy' : (r.files.set i ⟨l, x.safe⟩)[j]? = some y := hy
    by_cases e : j = i
    · subst e
      rw [List.getElem?_set_self hil] at hy'
      obtain rfl := Option.some.inj hy'
      refine ⟨u, List.getElem?_set_self (by omega), RowAt.keeps hu hk fun j hj e => ?_⟩
      obtain ⟨c', hb⟩ := RowAt.blk hu j hj
      exact hb.ne_ hcur (by decide) e
    · rw [List.getElem?_set_ne (Ne.symm e)] at hy'
      obtain ⟨v, h1, h2⟩ := h.rest.data j y hy'
      exact ⟨v, by rw [List.getElem?_set_ne (Ne.symm e)]; exact h1, RowAt.keeps h2 hk fun j hj e => n5 v (List.mem_of_getElem? h1) (by rw [hj, e])⟩
  · rcases hj with e | e | e | e | e | ⟨v, hv, e⟩
    · exact h.low j (.inl e)
    · exact h.low j (.inr (.inl e))
    · exact h.low j (.inr (.inr (.inl e)))
    · exact h.low j (.inr (.inr (.inr (.inl e))))
    · exact h.low j (.inr (.inr (.inr (.inr (.inl e)))))
    · rcases List.mem_or_eq_of_mem_set hv with hv | rfl
      · exact h.low j (.inr (.inr (.inr (.inr (.inr ⟨v, hv, e⟩)))))
      · exact hB j e
/-- one file's bytes are safe up to there -/
theorem RDat.fset1 {f c : Nat} (h : RDat w B g (.slice (some ⟨f, 0, none⟩) r.files.length c) vD vS vA dv r) {i : Nat} {x : File} (hx : r.files[i]? = some x) (z : Nat) :
    RDat (w.setCell ⟨f, i * 2 + 1, none⟩ (.int .i64 z)) B g (.slice (some ⟨f, 0, none⟩) r.files.length c) vD vS vA dv { r with files := r.files.set i ⟨x.data, z⟩ } := by
  have hk := kset w f (i * 2 + 1) (.int .i64 z)
  obtain ⟨n1, n2, n3, n4, n5⟩ := h.farF (j := f) rfl
  have hlen := h.rest.len
  have hil := (List.getElem?_eq_some_iff.1 hx).1
  have hs := (h.rest.files.stored (i * 2 + 1) (.int .i64 z)).1
  refine ⟨h.blk.keeps hk (fun e => n1 e.symm), ⟨?_, by show _ = (r.files.set _ _).length; rw [List.length_set]; exact hlen, fun j y hy => ?_, h.rest.dir.keeps hk fun j hj e => n3 (by rw [hj, e]), h.rest.safe.keeps hk fun j hj e => n4 (by rw [hj, e]), own_keeps h.rest.acts hk fun j hj e => n2 (by rw [hj, e])⟩, h.low⟩
  · show World.ownsRow _ _ _ _ _ (r.files.set i ⟨x.data, z⟩).length (fcells dv (r.files.set i ⟨x.data, z⟩))
    rw [List.length_set, fcells_set1 _ _ _ _ _ hlen hx]; exact hs
  · have hy' : (r.files.set i ⟨x.data, z⟩)[j]? = some y := hy
    have hk2 : ∀ v x', dv[j]? = some v → DataAt w v x' → DataAt (w.setCell ⟨f, i * 2 + 1, none⟩ (.int .i64 z)) v x' := fun v x' h1 h2 => RowAt.keeps h2 hk fun j hj e => n5 v (List.mem_of_getElem? h1) (by rw [hj, e])
    by_cases e : j = i
    · subst e
      rw [List.getElem?_set_self hil] at hy'
      obtain rfl := Option.some.inj hy'
      obtain ⟨v, h1, h2⟩ := h.rest.data j x hx
      exact ⟨v, h1, hk2 v _ h1 h2⟩
    · rw [List.getElem?_set_ne (Ne.symm e)] at hy'
      obtain ⟨v, h1, h2⟩ := h.rest.data j y hy'
      exact ⟨v, h1, hk2 v _ h1 h2⟩
end
def RReadPost (w : World) (E : Int) (l : List UInt8) (e : Ending) (w' : World) : Prop := ∃ v, e = .returned (.tuple #[v, .int .i64 E]) ∧ Bytes w' v l ∧ Below w.heap.size w w'
set_option maxHeartbeats 2000000 in
set_option maxRecDepth 100000 in
theorem rread_calls (r : RD) (B g m : Nat) (O : Nat → Prop) (s : ByteArray) (w : World) (hd : RDisk w B g O r) (hk : RDok r m) (hm : m ≤ 4000) (hs : s.size ≤ maxLen) :
    Calls Try.prog 37 #[.pointer (some ⟨g, 0, none⟩), .string s] w (RReadPost w (r.findE s.data.toList) (r.readB s.data.toList)) := by
  have B1 := (Below.refl w.heap.size w).alloc (Nat.le_refl _) (.cells #[.string s] 9)
  obtain ⟨vF, vD, vS, vA, dv, h, rfl⟩ := hd
  have hM := rmay_one h s hs
  have hC : r.readB s.data.toList = if r.findE s.data.toList = 0 then (r.got (r.num s.data.toList)).data else [] := rfl
  have hF : r.findE s.data.toList = if r.may (dName s.data.toList) = 0 then (if (rfind r.dir s.data.toList).isSome then 0 else 4) else r.may (dName s.data.toList) := rfl
  rcases rmay_cases r (dName s.data.toList) with hm0 | hm0 | hm0
  · rw [hm0] at hM
    rw [if_pos hm0] at hF
    have h1 := h.later B1
    have hN := rfind_calls vD r.dir s _ h1.rest.dir (by have := hk.dir; omega)
    have qc := h1.blk.cell
    have hM' := Lib.hid hM
    cases hfi : rfind r.dir s.data.toList with
    | none =>
      rw [hfi] at hN hF
      rw [show (if (none : Option Nat).isSome = true then (0 : Int) else 4) = 4 from rfl] at hF
      rw [hF, if_neg (by decide)] at hC
      rw [hF, hC]
      have hN' := Lib.hid hN
      clear hC hF hM hN hfi hk h
      go_enter Try.func37, Try.ntmps37
      go_wp2_with fail
      refine hM'.out.mono ?_
      rintro e w1 ⟨rfl, rfl⟩
      go_wp2_with fail
      refine hN'.out.mono ?_
      rintro e w2 ⟨rfl, b2⟩
      unfold numI
      have B2 := B1.trans (b2.mono (by simp))
      clear b2
      go_wp2
      go_ret2
      exact ⟨_, rfl, .inl (.inl ⟨rfl, rfl⟩), B2⟩
    | some i =>
      have hfn := hk.find hfi
      have hnum : r.num s.data.toList = i := by unfold RD.num; rw [hfi]; rfl
      rw [hfi] at hN hF
      rw [show (if (some i : Option Nat).isSome = true then (0 : Int) else 4) = 0 from rfl] at hF
      obtain ⟨f, c, x, p, c', rfl, hx, _, hda, r0, _, _, hfl⟩ := h.rest.file hfn
      have hgot : r.got i = x := by unfold RD.got; rw [List.getD_eq_getElem?_getD, hx]; rfl
      rw [hF, if_pos rfl, hnum, hgot] at hC
      rw [hF, hC]
      have hN' := Lib.hid hN
      have hfl2 := hk.files
      have h' := Lib.hid h
      have hda' := Lib.hid hda
      have hi0 : (0 : Int) ≤ (i : Int) := by omega
      clear hC hF hM hN hfi hk h hnum hgot hx hda h1
      go_enter Try.func37, Try.ntmps37
      go_wp2_with fail
      refine hM'.out.mono ?_
      rintro e w1 ⟨rfl, rfl⟩
      go_wp2_with fail
      refine hN'.out.mono ?_
      rintro e w2 ⟨rfl, b2⟩
      have B2 := B1.trans (b2.mono (by simp))
      have q2 := (h'.out.later B2).blk.cell
      have r2 := (B2.cell (p := ⟨f, i * 2, none⟩) hfl).trans r0
      unfold numI
      clear hM' hN' qc b2 r0
      go_wp2
      go_ret2
      exact ⟨_, rfl, (DataAt.bytes hda'.out).later B2, B2⟩
  all_goals
    rw [hm0] at hM hF
    rw [if_neg (by decide)] at hF
    rw [hF, if_neg (by decide)] at hC
    rw [hF, hC]
    have hM' := Lib.hid hM
    clear hC hF hM hk h
    go_enter Try.func37, Try.ntmps37
    go_wp2_with fail
    refine hM'.out.mono ?_
    rintro e w1 ⟨rfl, rfl⟩
    go_wp2
    go_ret2
    exact ⟨_, rfl, .inl (.inl ⟨rfl, rfl⟩), B1⟩
set_option maxHeartbeats 2000000 in
set_option maxRecDepth 100000 in
theorem rsync_calls (r : RD) (B g m : Nat) (O : Nat → Prop) (s : ByteArray) (w : World) (hd : RDisk w B g O r) (hk : RDok r m) (hm : m ≤ 4000) (hs : s.size ≤ maxLen) :
    Calls Try.prog 56 #[.pointer (some ⟨g, 0, none⟩), .string s] w fun e w' => e = .returned (.int .i64 (r.syncE s.data.toList)) ∧ RGoes w B g O (r.sync s.data.toList) w' := by
  have B1 := (Below.refl w.heap.size w).alloc (Nat.le_refl _) (.cells #[.string s] 9)
  have hS := RGoes.same (hd.later B1) (.of_below B1)
  obtain ⟨vF, vD, vS, vA, dv, h, rfl⟩ := hd
  have hM := rmay_one h s hs
  have hE : r.syncE s.data.toList = if r.findE s.data.toList = 0 then errDown r.burns else r.findE s.data.toList := rfl
  have hC : r.sync s.data.toList = if r.findE s.data.toList = 0 then (if r.burns then { r.burn with files := r.files.set (r.num s.data.toList) ⟨(r.got (r.num s.data.toList)).data, (r.got (r.num s.data.toList)).data.length⟩ } else r.burn) else r := rfl
  have hF : r.findE s.data.toList = if r.may (dName s.data.toList) = 0 then (if (rfind r.dir s.data.toList).isSome then 0 else 4) else r.may (dName s.data.toList) := rfl
  have hS' := Lib.hid hS
  clear hS
  rcases rmay_cases r (dName s.data.toList) with hm0 | hm0 | hm0
  · rw [hm0] at hM
    rw [if_pos hm0] at hF
    have h1 := h.later B1
    have hN := rfind_calls vD r.dir s _ h1.rest.dir (by have := hk.dir; omega)
    have qc := h1.blk.cell
    have hM' := Lib.hid hM
    cases hfi : rfind r.dir s.data.toList with
    | none =>
      rw [hfi] at hN hF
      rw [show (if (none : Option Nat).isSome = true then (0 : Int) else 4) = 4 from rfl] at hF
      rw [hF, if_neg (by decide)] at hE hC
      rw [hE, hC]
      have hN' := Lib.hid hN
      clear hE hC hF hM hN hfi hk h
      go_enter Try.func56, Try.ntmps56
      go_wp2_with fail
      refine hM'.out.mono ?_
      rintro e w1 ⟨rfl, rfl⟩
      go_wp2_with fail
      refine hN'.out.mono ?_
      rintro e w2 ⟨rfl, b2⟩
      unfold numI
      go_wp2
      go_ret
      exact ⟨rfl, hS'.out.later b2⟩
    | some i =>
      have hfn := hk.find hfi
      have hnum : r.num s.data.toList = i := by unfold RD.num; rw [hfi]; rfl
      rw [hfi] at hN hF
      rw [show (if (some i : Option Nat).isSome = true then (0 : Int) else 4) = 0 from rfl] at hF
      rw [hF, if_pos rfl] at hE hC
      rw [hnum] at hC
      rw [hE, hC]
      have hN' := Lib.hid hN
      have hlf := hk.left
      have hfl2 := hk.files
      have hi0 : (0 : Int) ≤ (i : Int) := by omega
      have hfe := burn_facts r
      have h' := Lib.hid h
      have hB := fun w2 (h2 : RDat w2 B g vF vD vS vA dv r) => rburn_calls r B g vF vD vS vA dv w2 h2 hlf
      have hB' := Lib.hid hB
      have hfe' := Lib.hid hfe
      clear hE hC hF hM hN hfi hk h hnum h1 hB hfe
      cases hbn : r.burns
      · rw [if_neg (by decide)]
        go_enter Try.func56, Try.ntmps56
        go_wp2_with fail
        refine hM'.out.mono ?_
        rintro e w1 ⟨rfl, rfl⟩
        go_wp2_with fail
        refine hN'.out.mono ?_
        rintro e w2 ⟨rfl, b2⟩
        have B2 := B1.trans (b2.mono (by simp))
        have hB2 := hB'.out w2 (h'.out.later B2)
        rw [hbn] at hB2
        have hB2' := Lib.hid hB2
        unfold numI
        clear hB2 hM' hN' qc b2
        go_wp2_with fail
        refine hB2'.out.mono ?_
        rintro e w3 ⟨rfl, b3, k3⟩
        go_wp2
        go_ret
        exact ⟨rfl, RGoes.at B2 (b3.goes k3)⟩
      · rw [if_pos rfl]
        go_enter Try.func56, Try.ntmps56
        go_wp2_with fail
        refine hM'.out.mono ?_
        rintro e w1 ⟨rfl, rfl⟩
        go_wp2_with fail
        refine hN'.out.mono ?_
        rintro e w2 ⟨rfl, b2⟩
        have B2 := B1.trans (b2.mono (by simp))
        have hB2 := hB'.out w2 (h'.out.later B2)
        rw [hbn] at hB2
        have hB2' := Lib.hid hB2
        unfold numI
        clear hB2 hM' hN' qc b2
        go_wp2_with fail
        refine hB2'.out.mono ?_
        rintro e w3 ⟨rfl, b3, k3⟩
        obtain ⟨f1, f2, f3, f4, f5⟩ := hfe'.out
        have hfn3 : i < r.burn.files.length := by rw [f2]; exact hfn
        obtain ⟨f, c, x, p, c', rfl, hx, hdvx, hda, r0, r1, rf, hfl⟩ := b3.rest.file hfn3
        have q3 := b3.blk.cell
        have hgot : r.got i = x := by unfold RD.got; rw [← f2, List.getD_eq_getElem?_getD, hx]; rfl
        have hd3 := b3.keeps (S := fun _ => False) ((Keeps.refl _ _).drew) (fun _ _ => id)
        have hfin := hd3.fset1 hx x.data.length
        have hfl3 : r.burn.files.length ≤ m := by rw [f2]; exact hfl2
        have hG : RGoes w B g (rdset g (.slice (some ⟨f, 0, none⟩) r.burn.files.length c) vD vS vA dv) { r.burn with files := r.files.set i ⟨(r.got i).data, (r.got i).data.length⟩ } (w3.setCell ⟨f, i * 2 + 1, none⟩ (.int .i64 x.data.length)).drew := by
          rw [hgot, ← f2]
          refine RGoes.at B2 (.same ⟨_, _, _, _, _, hfin, rfl⟩ (((k3.mono fun j _ e => .inl e).trans ((kset _ f (i * 2 + 1) _).mono fun j _ e => ?_)).drew))
          exact .inr (.inl (by rw [e]; rfl))
        have hG' := Lib.hid hG
        clear hG hfin hd3 hgot hx hdvx hda b3 k3 hB2' f1 f2 f3 f4 f5 hS' h' hB' hfe'
        go_wp2_with fail
        go_region
        go_wp2
        go_ret
        exact ⟨rfl, hG'.out⟩
  all_goals
    rw [hm0] at hM hF
    rw [if_neg (by decide)] at hF
    rw [hF, if_neg (by decide)] at hE hC
    rw [hE, hC]
    have hM' := Lib.hid hM
    clear hE hC hF hM hk h
    go_enter Try.func56, Try.ntmps56
    go_wp2_with fail
    refine hM'.out.mono ?_
    rintro e w1 ⟨rfl, rfl⟩
    go_wp2
    go_ret
    exact ⟨rfl, hS'.out⟩
end Go.Proofs.Ytgclancneohpbaa
