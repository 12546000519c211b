/- Walks: the document's disk: New, Fuse, Create, SyncDir, Rename, Remove. -/
import Derived.Test.YtgclancneohpbaaRW4
import Derived.Test.YtgclancneohpbaaRDok
namespace Go.Proofs.Ytgclancneohpbaa
open Go.RowKit Go.Maps Go.Shelf
attribute [local go_sem ↓] dapp_op
theorem info_rfile : (Try.prog.info? 110).map (fun i => (i.zero, i.size, i.bytes)) = some (some (.agg #[.slice none 0 0, .int .i64 0]), 2, 32) := by kernel_rfl
theorem fcells_app {dv : List Value} {F : List File} (h : dv.length = F.length) (u : Value) (x : File) : fcells (dv ++ [u]) (F ++ [x]) = fcells dv F ++ [u, .int .i64 x.safe] := by
  unfold fcells
  rw [List.zip_append h, List.flatMap_append]; rfl
section
variable {w w' w1 : World} {B g : Nat} {vF vD vS vA : Value} {dv : List Value} {r : RD} {O : Nat → Prop} {m : Nat}
/-- what is left when a file is put behind the others -/
structure FPush (w : World) (B g : Nat) (vF vD vS vA : Value) (dv : List Value) (r : RD) (o : Nat) (p : Option Addr) (c : Nat) (w' : World) : Prop where
  run : (dappOp #[102, 102] 102 #[vF, .slice (some ⟨o, 0, none⟩) 1 1]).run Try.prog w = .ok (.slice p (r.files.length + 1) c) w'
  blk : Blk w' g 106 #[.int .i64 r.cap, .bool r.down, .int .i64 r.left, vF, vD, vS, vA]
  dat : RDat (w'.setCell ⟨g, 3, none⟩ (.slice p (r.files.length + 1) c)) B g (.slice p (r.files.length + 1) c) vD vS vA (dv ++ [.slice none 0 0]) { r with files := r.files ++ [⟨[], 0⟩] }
  lies : ∀ j, (Value.slice p (r.files.length + 1) c).ownBlock = some j → vF.ownBlock = some j ∨ w.heap.size ≤ j
  keeps : Keeps (fun j => vF.ownBlock = some j) w w'
theorem RDat.fpush (h : RDat w B g vF vD vS vA dv r) (hl : r.files.length ≤ 1000000) {o : Nat} (ho : Blk w o 110 #[.slice none 0 0, .int .i64 0]) : ∃ p c w', FPush w B g vF vD vS vA dv r o p c w' := by
  have hB : B ≤ w.heap.size := by have := (h.lt g (.inl rfl)); omega
  obtain ⟨i0, hi, hz0, hz1, hz2⟩ := info_parts info_rfile
  obtain ⟨v', w', h2, h3, h4, _, h5⟩ := run_append_own_at (P := Try.prog) w B 102 102 110 i0 (.agg #[.slice none 0 0, .int .i64 0]) 2 32 Try.underlying102 hi hz0 hz1 hz2 rfl (by decide) vF r.files.length _ h.rest.files ⟨o, 0, none⟩ 1 1 [.slice none 0 0, .int .i64 0] rfl (by
      intro j u hj
      rw [addr_at, ho.cell j, ← hj]
      simp) (by
      intro u hu
      simp at hu
      rcases hu with rfl | rfl <;> rfl) (by unfold maxLen; omega) (by omega) hB
  obtain ⟨p, c, rfl⟩ := own_slice h3
  have hk : Keeps (fun j => vF.ownBlock = some j) w w' := (Keeps.refl _ w).grown h4 (fun k e => .inl e)
  have hg := h.far
  have hb := h.blk.keeps hk hg.1
  have hlies : ∀ j, (Value.slice p (r.files.length + 1) c).ownBlock = some j → vF.ownBlock = some j ∨ w.heap.size ≤ j := by
    intro j hj
    rcases h5 with e | e
    · exact .inl (e.symm.trans hj)
    · rw [hj] at e; exact .inr (by have := Option.some.inj e; omega)
  have hr : RRest w' B (.slice p (r.files.length + 1) c) vD vS vA (dv ++ [.slice none 0 0]) (r.files ++ [⟨[], 0⟩]) r.dir r.safe r.acts := by
    have hoF := fun j (e : vF.ownBlock = some j) => h.farF e
    refine ⟨?_, by rw [List.length_append, List.length_append, h.rest.len]; rfl, fun i x hx => ?_, h.rest.dir.keeps hk fun j hj e => (hoF j e).2.2.1 hj, h.rest.safe.keeps hk fun j hj e => (hoF j e).2.2.2.1 hj, own_keeps h.rest.acts hk fun j hj e => (hoF j e).2.1 hj⟩
    · rw [fcells_app h.rest.len, List.length_append]; exact h3
    · have hlen := h.rest.len
      by_cases hi : i < r.files.length
      · rw [List.getElem?_append_left hi] at hx
        obtain ⟨u, h1, h2⟩ := h.rest.data i x hx
        exact ⟨u, by rw [List.getElem?_append_left (by omega)]; exact h1, RowAt.keeps h2 hk fun j hj e => (hoF j e).2.2.2.2 u (List.mem_of_getElem? h1) hj⟩
      · have he : i = r.files.length := by
          have := (List.getElem?_eq_some_iff.1 hx).1
          rw [List.length_append, List.length_singleton] at this; omega
        subst he
        rw [List.getElem?_append_right (Nat.le_refl _), Nat.sub_self] at hx
        obtain rfl := Option.some.inj hx
        exact ⟨.slice none 0 0, by rw [List.getElem?_append_right (by omega), hlen, Nat.sub_self]; rfl, .inl ⟨rfl, rfl⟩⟩
  refine ⟨p, c, w', ⟨h2, hb, ⟨hb.set_ 3 _, hr.keeps (S := fun j => j = g) (kset _ g 3 _) (fun j e => ?_), fun j hj => ?_⟩, hlies, hk⟩⟩
  · obtain rfl := e
    exact hr.far hb (by decide)
  · rcases hj with e | e | e | e | e | ⟨u, hu, e⟩
    · exact h.low j (.inl e)
    · rcases hlies j e with e | e
      · exact h.low j (.inr (.inl e))
      · omega
    · exact h.low j (.inr (.inr (.inl e)))
    · exact h.low j (.inr (.inr (.inr (.inl e))))
    · exact h.low j (.inr (.inr (.inr (.inr (.inl e)))))
    · rcases List.mem_append.1 hu with hu | hu
      · exact h.low j (.inr (.inr (.inr (.inr (.inr ⟨u, hu, e⟩)))))
      · obtain rfl := List.mem_singleton.1 hu
        cases e
theorem Acted.goes {r' : RD} (hd : Acted w B g vF vD vS vA dv r' w') : RGoes w B g (rdset g vF vD vS vA dv) r' w' := by
  obtain ⟨vD', vA', h1, h2, h3, h4⟩ := hd
  refine ⟨⟨_, ⟨vF, vD', vS, vA', dv, h1, rfl⟩, fun j hj => ?_⟩, h4.mono fun j _ e => ?_⟩
  · rcases hj with e | e | e | e | e | e
    · exact .inl (.inl e)
    · exact .inl (.inr (.inl e))
    · exact (h3 j e).imp (fun e => .inr (.inr (.inl e))) id
    · exact (h2 j e).imp (fun e => .inr (.inr (.inr (.inl e)))) id
    · exact .inl (.inr (.inr (.inr (.inr (.inl e)))))
    · exact .inl (.inr (.inr (.inr (.inr (.inr e)))))
  · rcases e with e | e
    · exact .inl e
    · exact .inr (.inr (.inl e))
theorem rmay_cases (r : RD) (b : Bool) : r.may b = 0 ∨ r.may b = 2 ∨ r.may b = 6 := by
  unfold RD.may; cases r.down <;> cases b <;> simp
theorem rmay_one (h : RDat w B g vF vD vS vA dv r) (s : ByteArray) (hs : s.size ≤ maxLen) :
    Calls Try.prog 62 #[.pointer (some ⟨g, 0, none⟩), .slice (some ⟨w.heap.size, 0, none⟩) 1 1] (w.alloc (.cells #[.string s] 9)) fun e w' => e = .returned (.int .i64 (r.may (dName s.data.toList))) ∧ w.alloc (.cells #[.string s] 9) = w' := by
  have hb := h.blk.alloc (.cells #[.string s] 9)
  have hr : RowAt (w.alloc (.cells #[.string s] 9)) 9 (.slice (some ⟨w.heap.size, 0, none⟩) 1 1) [s].length ([s].map Value.string) := .inr ⟨w.heap.size, 1, #[.string s], rfl, Nat.le_refl _, Blk.new _ _ _, fun i u hu => by simpa using hu⟩
  have := rmay_calls r.down g _ [s] _ (hb.cell 1) hr (by simp) (fun t ht => by obtain rfl := List.mem_singleton.1 ht; exact hs)
  have e : mayE r.down [s] = r.may (dName s.data.toList) := by
    unfold mayE RD.may
    rw [List.all_cons, List.all_nil, Bool.and_true]; rfl
  rw [e] at this
  exact this
theorem rmay_two (h : RDat w B g vF vD vS vA dv r) (s t : ByteArray) (hs : s.size ≤ maxLen) (ht : t.size ≤ maxLen) :
    Calls Try.prog 62 #[.pointer (some ⟨g, 0, none⟩), .slice (some ⟨w.heap.size, 0, none⟩) 2 2] (w.alloc (.cells #[.string s, .string t] 9)) fun e w' => e = .returned (.int .i64 (r.may (dName s.data.toList && dName t.data.toList))) ∧ w.alloc (.cells #[.string s, .string t] 9) = w' := by
  have hb := h.blk.alloc (.cells #[.string s, .string t] 9)
  have hr : RowAt (w.alloc (.cells #[.string s, .string t] 9)) 9 (.slice (some ⟨w.heap.size, 0, none⟩) 2 2) [s, t].length ([s, t].map Value.string) := .inr ⟨w.heap.size, 2, #[.string s, .string t], rfl, Nat.le_refl _, Blk.new _ _ _, fun i u hu => by simpa using hu⟩
  have := rmay_calls r.down g _ [s, t] _ (hb.cell 1) hr (by simp) (fun u hu => by
    rcases List.mem_cons.1 hu with rfl | hu
    · exact hs
    · obtain rfl := List.mem_singleton.1 hu; exact ht)
  have e : mayE r.down [s, t] = r.may (dName s.data.toList && dName t.data.toList) := by
    unfold mayE RD.may
    rw [List.all_cons, List.all_cons, List.all_nil, Bool.and_true]; rfl
  rw [e] at this
  exact this
theorem rmay_none (h : RDat w B g vF vD vS vA dv r) :
    Calls Try.prog 62 #[.pointer (some ⟨g, 0, none⟩), .slice none 0 0] w fun e w' => e = .returned (.int .i64 (r.may true)) ∧ w = w' := by
  have := rmay_calls r.down g (.slice none 0 0) [] w (h.blk.cell 1) (.inl ⟨rfl, rfl⟩) (by decide) (fun t ht => by cases ht)
  have e : mayE r.down [] = r.may true := rfl
  rw [e] at this
  exact this
end
set_option maxHeartbeats 2000000 in
set_option maxRecDepth 100000 in
theorem rcreate_calls (r : RD) (B g m : Nat) (O : Nat → Prop) (s : ByteArray) (w : World) (hd : RDisk w B g O r) (hk : RDok r m) (hm : m ≤ 4000) (hs : s.size ≤ maxLen) :
    Calls Try.prog 54 #[.pointer (some ⟨g, 0, none⟩), .string s] w fun e w' => e = .returned (.int .i64 (r.createE s.data.toList)) ∧ RGoes w B g O (r.create s.data.toList) w' := by
  have B1 := (Below.refl w.heap.size w).alloc (Nat.le_refl _) (.cells #[.string s] 9)
  have hS := RGoes.same (hd.later B1) (.of_below B1)
  obtain ⟨vF, vD, vS, vA, dv, h, rfl⟩ := hd
  have hM := rmay_one h s hs
  have hE : r.createE s.data.toList = if r.findE s.data.toList = 0 then 3 else if r.findE s.data.toList = 4 then errDown r.burns else r.findE s.data.toList := rfl
  have hC : r.create s.data.toList = if r.findE s.data.toList = 4 then (if r.burns then { r.act ⟨[], s.data.toList, r.files.length⟩ with files := r.files ++ [⟨[], 0⟩] } else r.burn) else r := rfl
  have hF : r.findE s.data.toList = if r.may (dName s.data.toList) = 0 then (if (rfind r.dir s.data.toList).isSome then 0 else 4) else r.may (dName s.data.toList) := rfl
  have hS' := Lib.hid hS
  clear hS
  rcases rmay_cases r (dName s.data.toList) with hm0 | hm0 | hm0
  · rw [hm0] at hM
    rw [if_pos hm0] at hF
    have h1 := h.later B1
    have hN := rfind_calls vD r.dir s _ h1.rest.dir (by have := hk.dir; omega)
    have qc := h1.blk.cell
    have hM' := Lib.hid hM
    cases hfi : rfind r.dir s.data.toList with
    | some i =>
      rw [hfi] at hN hF
      rw [show (if (some i : Option Nat).isSome = true then (0 : Int) else 4) = 0 from rfl] at hF
      rw [hF, if_pos rfl] at hE
      rw [hF, if_neg (by decide)] at hC
      rw [hE, hC]
      have hN' := Lib.hid hN
      clear hE hC hF hM hN hfi hk h
      go_enter Try.func54, Try.ntmps54
      go_wp2_with fail
      refine hM'.out.mono ?_
      rintro e w1 ⟨rfl, rfl⟩
      go_wp2_with fail
      refine hN'.out.mono ?_
      rintro e w2 ⟨rfl, b2⟩
      unfold numI
      have hi0 : (0 : Int) ≤ (i : Int) := by omega
      go_wp2
      go_ret
      exact ⟨rfl, hS'.out.later b2⟩
    | none =>
      rw [hfi] at hN hF
      rw [show (if (none : Option Nat).isSome = true then (0 : Int) else 4) = 4 from rfl] at hF
      rw [hF, if_neg (by decide), if_pos rfl] at hE
      rw [hF, if_pos rfl] at hC
      rw [hE]
      have hN' := Lib.hid hN
      have hdl := hk.dir
      have hfl := hk.files
      obtain ⟨pD, cD, rfl⟩ := h1.rest.dir.slice
      obtain ⟨pF, cF, rfl⟩ := own_slice h1.rest.files
      have h' := Lib.hid h
      have hC' := Lib.hid hC
      have hk' := Lib.hid hk
      clear hE hF hM hN hfi hk h hC
      go_enter Try.func54, Try.ntmps54
      go_wp2_with fail
      refine hM'.out.mono ?_
      rintro e w1 ⟨rfl, rfl⟩
      go_wp2_with fail
      refine hN'.out.mono ?_
      rintro e w2 ⟨rfl, b2⟩
      have B2 := B1.trans (b2.mono (by simp))
      have h2 := h'.out.later B2
      have q2 := h2.blk.cell
      have hA := ract_calls r B g _ _ vS vA dv ⟨#[]⟩ s r.files.length w2 h2 hk'.out.left (by omega) (by have := hk'.out.sacts; omega)
      have hA' := Lib.hid hA
      unfold numI
      clear hA hM' hN' qc h1 h2 b2
      go_wp2_with fail
      refine hA'.out.mono ?_
      rintro e w3 ⟨rfl, a3⟩
      have hC2 := hC'.out
      cases hbn : r.burns
      · rw [hbn] at a3 hC2
        rw [if_neg (by decide)] at a3 hC2
        have hG := RGoes.at B2 a3.goes
        rw [← hC2] at hG
        have hG' := Lib.hid hG
        unfold errDown
        have hb' := Lib.hid hbn
        clear a3 hC2 hG hA' hbn
        go_wp2
        go_ret
        exact ⟨by rw [hb'.out]; rfl, hG'.out⟩
      · rw [hbn] at a3 hC2
        rw [if_pos rfl] at a3 hC2
        obtain ⟨vD3, vA3, d3, l3, m3, k3⟩ := a3
        have q3 := d3.blk.cell
        have f3 := d3.blk.frozen
        have hKd := d3.keeps (S := fun _ => False) ((Keeps.refl _ w3).alloc (.cells #[.slice none 0 0, .int .i64 0] 110)) (fun _ _ => id)
        have hfl3 : (r.act ⟨[], s.data.toList, r.files.length⟩).files.length = r.files.length := congrArg List.length (burn_facts r).2.1
        obtain ⟨p, c, w4, P⟩ := hKd.fpush (by show (r.act _).files.length ≤ _; rw [show (r.act ⟨(⟨#[]⟩ : ByteArray).data.toList, s.data.toList, r.files.length⟩).files.length = r.files.length from hfl3]; omega) (Blk.new w3 110 #[.slice none 0 0, .int .i64 0])
        have hfe : (r.act ⟨(⟨#[]⟩ : ByteArray).data.toList, s.data.toList, r.files.length⟩).files = r.files := (burn_facts r).2.1
        have hP := P.dat
        have hPl := P.lies
        have e1 := P.run
        have c1 := P.blk.cell
        have g1 := P.blk.frozen
        have hfin : ({ (r.act ⟨(⟨#[]⟩ : ByteArray).data.toList, s.data.toList, r.files.length⟩) with files := (r.act ⟨(⟨#[]⟩ : ByteArray).data.toList, s.data.toList, r.files.length⟩).files ++ [⟨[], 0⟩] } : RD) = r.create s.data.toList := by rw [hC2, hfe]
        rw [hfin] at hP
        have z3 := k3.size
        have zB := B2.size
        have hG : RGoes w B g (rdset g (.slice pF r.files.length cF) (.slice pD r.dir.length cD) vS vA dv) (r.create s.data.toList) (w4.setCell ⟨g, 3, none⟩ (.slice p ((r.act ⟨(⟨#[]⟩ : ByteArray).data.toList, s.data.toList, r.files.length⟩).files.length + 1) c)) := by
          refine ⟨⟨_, ⟨_, _, _, _, _, hP, rfl⟩, fun j hj => ?_⟩, ?_⟩
          · rcases hj with e | e | e | e | e | ⟨u, hu, e⟩
            · exact .inl (.inl e)
            · rcases hPl j e with e | e
              · exact .inl (.inr (.inl e))
              · exact .inr (by simp at e; omega)
            · exact (m3 j e).imp (fun e => .inr (.inr (.inl e))) (fun e => by omega)
            · exact (l3 j e).imp (fun e => .inr (.inr (.inr (.inl e)))) (fun e => by omega)
            · exact .inl (.inr (.inr (.inr (.inr (.inl e)))))
            · rcases List.mem_append.1 hu with hu | hu
              · exact .inl (.inr (.inr (.inr (.inr (.inr ⟨u, hu, e⟩)))))
              · obtain rfl := List.mem_singleton.1 hu; cases e
          · refine (Keeps.of_below B2).trans ((k3.mono fun j _ e => ?_).trans (((Keeps.refl _ _).alloc _).trans ((P.keeps.mono fun j _ e => ?_).trans ((kset _ g 3 _).mono fun j _ e => .inl e))))
            · rcases e with e | e
              · exact .inl e
              · exact .inr (.inr (.inl e))
            · exact .inr (.inl e)
        rw [hfl3] at *
        have hG' := Lib.hid hG
        unfold errDown
        have hb' := Lib.hid hbn
        clear hC2 hG hA' hP hPl hfin hfe P hKd d3 k3 hfl3 l3 m3 hbn
        go_wp2
        go_ret
        exact ⟨by rw [hb'.out]; rfl, hG'.out⟩
  all_goals
    rw [hm0] at hM hF
    rw [if_neg (by decide)] at hF
    rw [hF, if_neg (by decide), if_neg (by decide)] at hE
    rw [hF, if_neg (by decide)] at hC
    rw [hE, hC]
    have hM' := Lib.hid hM
    clear hE hC hF hM hk h
    go_enter Try.func54, Try.ntmps54
    go_wp2_with fail
    refine hM'.out.mono ?_
    rintro e w1 ⟨rfl, rfl⟩
    go_wp2
    go_ret
    exact ⟨rfl, hS'.out⟩
end Go.Proofs.Ytgclancneohpbaa
